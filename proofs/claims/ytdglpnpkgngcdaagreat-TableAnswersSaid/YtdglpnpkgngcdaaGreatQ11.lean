/- What functions of the program compute. -/
import Derived.Test.YtdglpnpkgngcdaaGreatQ10
import Derived.Test.YtdglpnpkgngcdaaGreatQ9
import Derived.Test.YtdglpnpkgngcdaaGreatQ6
set_option linter.unusedVariables false
set_option linter.unusedSimpArgs false
namespace Go.AM.B1
open Go.AM Go.AM.So
attribute [local irreducible] Td
structure zT (ss:List dc):Prop where
 len:ss.length * 32≤140737488355328
 parts:∀ s∈ss,s.parts.length * 24≤140737488355328
end Go.AM.B1
namespace Go.AM.B1
open Go.AM Go.AM.So
attribute [local irreducible] Td
end Go.AM.B1
namespace Go.AM.B1
open Go.AM
def Ej (l:List (List Oe)):Nat→Int→List Int→Int×Int
 |i,_,[]=>(i,2)
 |i,st,b::r=>if (Yf l st b).2=false then ((i:Int),3) else if (Yf l st b).1= -1 then (((i+1:Nat):Int),1) else Ej l (i+1) (Yf l st b).1 r
theorem KW {bs:List Int} {i:Nat} (hi:i < bs.length):(bs.map u8)[i]? =some (u8 bs[i]):=by simp[hi]
abbrev Zq (A B:PV) (st i:Int):Tr:=(((Tr.lf.set 7 (.pv (i64 i))).set 6 (.pv (i64 st))).set 2 (.pv (.rp [A] 0))).set 1 (.pv B)
section
variable (call:Za) (A B:PV) (l:List (List Oe)) (hA:Sk A l) (bs:List Int) (hB:Di 1 B (bs.map u8)) (hb:∀ b∈bs,0≤b∧b≤255) (hw:bs.length≤maxLen)
include hA hB hb hw
theorem KE (st:Int) (i:Nat) (hi:i < bs.length):
 ((Yf l st bs[i]).2=false→Hy 4 (.pv (i64 i)) 5 (.pv (i64 3)) (Mb call [1,2,6,7] Lb 0 ⟨Zq A B st i,[]⟩))∧
 ((Yf l st bs[i]).2=true→(Yf l st bs[i]).1= -1→Hy 4 (.pv (i64 (i+1:Nat))) 5 (.pv (i64 1)) (Mb call [1,2,6,7] Lb 0 ⟨Zq A B st i,[]⟩))∧
 ((Yf l st bs[i]).2=true→(Yf l st bs[i]).1≠ -1→Mb call [1,2,6,7] Lb 0 ⟨Zq A B st i,[]⟩=some (.norm,⟨Zq A B (Yf l st bs[i]).1 (i+1:Nat),[]⟩)):=by
 have hBl:=hB.lit (i:=i) (by simpa using hi)
 subst hBl
 have e1:decide ((i:Int) < (bs.length:Int))=true:=Da (by omega)
 have hlen:(bs.map u8).length=bs.length:=by simp
 have hq:Fa (i:Int) bs.length:=by unfold Fa;omega
 have t1:((i:Int)).toNat=i:=by simp
 have t2:=Ua hi hw
 have hg:=KW hi
 have hs:=LB A l hA st bs[i] (hb _ (List.getElem_mem hi))
 generalize Yf l st bs[i]=p at *
 generalize bs[i]=b at *
 obtain⟨to,ok⟩:=p
 generalize bs.map u8=es at *
 refine⟨?_,?_,?_⟩
 ·rintro rfl
  rcases hA.form with rfl | ⟨av,rfl⟩ <;>
  simp -implicitDefEqProofs only[SP,SA,SQ,sevalprocAttr,Mb,fa,Lb,e1,hlen,eq_true hq,t1,t2,hg,hs,Fe,Db,qa,Zq,su]
 ·rintro rfl rfl
  rcases hA.form with rfl | ⟨av,rfl⟩ <;>
  simp -implicitDefEqProofs only[SP,SA,SQ,sevalprocAttr,Mb,fa,Lb,e1,hlen,eq_true hq,t1,t2,hg,hs,Fe,Db,qa,Zq,su]
 ·rintro rfl h
  have d:=ni h
  rcases hA.form with rfl | ⟨av,rfl⟩ <;>
  simp -implicitDefEqProofs only[SP,SA,SQ,sevalprocAttr,Mb,fa,Lb,e1,hlen,eq_true hq,t1,t2,hg,hs,d,Fe,qa,Zq,ga,za,Ia,AV.cut,Db]
theorem NH:tg [.agg [A],B]=some (.Zb [i64 (Ej l 0 0 bs).1,i64 (Ej l 0 0 bs).2]):=by
 have ls:=hB.len
 simp only[List.length_map] at ls
 have key:=mJ (g:=Mb (Ga (fun _=>none) 8) [1,2,6,7] Lb 0)
  (fun i st=>⟨Zq A B st i,[]⟩) (fun i st=>Ej l i st (bs.drop i)) (fun _ _=>True)
  (fun r ex t=>(ex= .exit 0∧r=((bs.length:Int),2)∧∃ st,t=⟨((((Zq A B st bs.length).set 10 (.pv (i64 bs.length))).set 11 (.pv B)).set 12 (.pv (i64 bs.length))).set 13 (.pv (.bool false)),[]⟩)∨(ex= .ret∧t.env.get 4= .pv (i64 r.1)∧t.env.get 5= .pv (i64 r.2)))
  bs.length (by unfold oa;unfold maxLen at hw;omega) 0 trivial ?_ ?_
 ·obtain⟨ex,⟨E,H⟩,h,_,hq⟩:=key
  have h':gb (fa (ta (Ga (fun _=>none) 8) Lb) (ga 0 [1,2,6,7])) oa ⟨Zq A B 0 0,[]⟩=some (ex,⟨E,H⟩):=h
  simp only[Zq] at h'
  rw[List.drop_zero] at hq
  generalize Ej l 0 0 bs=r at *
  rcases hq with⟨rfl,rfl,st,g⟩ | ⟨rfl,g1,g2⟩
  ·rw[g] at h'
   simp only[Zq] at h'
   rcases hA.form with rfl | ⟨av,rfl⟩ <;>
   ·simp -implicitDefEqProofs only[tg,SP,SA,SQ,sevalprocAttr,Bh,ls,xb,ga,za,Ia,AV.cut,Db]
    rw[h']
    simp -implicitDefEqProofs only[SP,SA,SQ,sevalprocAttr,ls]
  ·simp only at g1 g2
   rcases hA.form with rfl | ⟨av,rfl⟩ <;>
   ·simp -implicitDefEqProofs only[tg,SP,SA,SQ,sevalprocAttr,Bh,ls,xb,ga,za,Ia,AV.cut,Db]
    rw[h']
    simp -implicitDefEqProofs only[SP,SA,SQ,sevalprocAttr,g1,g2]
 ·rintro i hi st _
  obtain⟨r1,r2,r3⟩:=KE (Ga (fun _=>none) 8) A B l hA bs hB hb hw st i hi
  have hd:bs.drop i=bs[i]::bs.drop (i+1):=List.drop_eq_getElem_cons hi
  simp only[hd,Ej]
  cases h2:(Yf l st bs[i]).2 with
  |false=>
   obtain⟨t,k1,k2,k3⟩:=Yq (r1 h2)
   exact .inr ⟨.ret,t,k1,rfl,.inr ⟨rfl,k2,k3⟩⟩
  |true=>
   simp only[Bool.true_eq_false,if_false]
   by_cases h1:(Yf l st bs[i]).1= -1
   ·obtain⟨t,k1,k2,k3⟩:=Yq (r2 h2 h1)
    rw[if_pos h1]
    exact .inr ⟨.ret,t,k1,rfl,.inr ⟨rfl,k2,k3⟩⟩
   ·rw[if_neg h1]
    exact .inl ⟨_,r3 h2 h1,rfl,trivial⟩
 ·rintro st _
  rw[List.drop_length]
  have e1:decide ((bs.length:Int) < (bs.length:Int))=false:=Ha (by omega)
  refine⟨.exit 0,⟨((((Zq A B st bs.length).set 10 (.pv (i64 bs.length))).set 11 (.pv B)).set 12 (.pv (i64 bs.length))).set 13 (.pv (.bool false)),[]⟩,?_,rfl,.inl ⟨rfl,rfl,st,rfl⟩⟩
  rcases hB.form with rfl | ⟨av,rfl⟩ <;>
  simp -implicitDefEqProofs only[SP,SA,SQ,sevalprocAttr,Mb,fa,Lb,e1,ls,Zq]
end
end Go.AM.B1
namespace Go.AM.B1
open Go.AM
section
variable (A:PV) (l:List (List Oe)) (hA:Sk A l)
include hA
end
section
variable (call:Za) (av bs:List PV) (i:Nat) (a b:List Oe) (V W:PV) (hia:i < av.length) (hib:i < bs.length) (hV:av[i]? =some V) (hW:bs[i]? =some W) (hVL:Di 3 V (a.map ry)) (hWL:Di 3 W (b.map ry)) (hw:a.length≤maxLen)
include hia hV hVL
include hib hW hWL hw
end
end Go.AM.B1
namespace Go.AM.B1
open Go.AM
section
variable (A B:PV) (l m:List (List Oe)) (hA:Sk A l) (hB:Sk B m)
include hA hB
end
end Go.AM.B1
namespace Go.AM.B1
open Go.AM Go.AM.So
theorem JB (row:List Int):∀ (xs:List Nat) (l:List Oe),(ye row xs l).length≤l.length+xs.length
 | [],l=>by simp[ye]
 |x::xs,l=>by
  rw[ye]
  have h1:=JB row xs (Qf x (row.getD x 0) l)
  have h2:=FG x (row.getD x 0) l
  simp only[List.length_cons];omega
theorem OL (row:List Int):(Wf row).length≤256:=by
 have:=JB row (List.range 256) []
 simpa[Wf] using this
theorem ME (C:List Int):∀ (k:Nat) (r:List Int×List (List Oe)),(wj C k r).2.length≤r.2.length+k∧∀ e∈(wj C k r).2,e∈r.2∨e.length≤256
 |0,r=>⟨by simp[wj],fun e he=> .inl he⟩
 |k+1,r=>by
  cases ho:r.1[r.2.length]? with
  |none=>rw[Gq ho];exact⟨by omega,fun e he=> .inl he⟩
  |some o=>
   rw[br ho]
   obtain⟨h1,h2⟩:=ME C k ((dg C o r.1).1,r.2++[Wf (dg C o r.1).2])
   simp only[List.length_append,List.length_singleton] at h1
   refine⟨by omega,fun e he=> ?_⟩
   rcases h2 e he with h3 | h3
   ·simp only[List.mem_append,List.mem_singleton] at h3
    rcases h3 with h3 | h3
    ·exact .inl h3
    ·refine .inr ?_;rw[h3];exact OL _
   ·exact .inr h3
theorem gQ (C:List Int) (k:Nat) (o:List Int):(wj C k (o,[])).2.length≤k∧∀ e∈(wj C k (o,[])).2,e.length≤256:=by
 have h:=ME C k (o,[])
 generalize wj C k (o,[])=r at h ⊢
 refine⟨by simpa using h.1,fun e he=> ?_⟩
 rcases h.2 e he with h | h
 ·cases h
 ·exact h
set_option maxRecDepth 8000 in
theorem bQ (C:List Int):(rn C).length≤64∧∀ e∈rn C,e.length≤256:=gQ C 64 [0]
theorem Ow {ss:List dc} {l:List (List Oe)} (h:vh ss=some l):l.length≤64∧∀ e∈l,e.length≤256:=by
 unfold vh at h
 rw[Option.map_eq_some_iff] at h
 obtain⟨r,_,rfl⟩:=h
 exact bQ _
theorem bJ (e:List Oe):Di 3 (ee e) (e.map ry):=by
 unfold ee
 cases e with
 |nil=>exact .inl ⟨rfl,rfl⟩
 |cons a r=>exact .inr rfl
theorem Gy {l:List (List Oe)} (h1:l.length≤64) (h2:∀ e∈l,e.length≤256):Sk (Ai l) l:=by
 refine⟨⟨l.map ee,.inr rfl,by simp,?_⟩,by omega,fun e he=>by have:=h2 e he;omega⟩
 intro i v e hv he
 rw[List.getElem?_map,he] at hv
 simp at hv;subst hv
 exact bJ e
theorem rA:Sk .pa []:=⟨⟨[],.inl ⟨rfl,rfl⟩,rfl,by simp⟩,by simp,by simp⟩
theorem IL (ss:List dc):∃ (V:PV) (l:List (List Oe)) (n:Int),Sk V l∧(n=0↔∃ l',vh ss=some l'∧Hc ss∧gh ss∧V=Ai l'∧l=l')∧(n≠0→V= .pa)∧
 (∀ (A:PV) (ea:List PV),Ab A ss ea→Ec [.agg [A]]=some (.Zb [.agg [V],i64 n]))∧(∀ (A:PV) (ea:List PV),Ab A ss ea→Ya [.agg [A]]=some (.Zb [.agg [V],i64 n])):=by
 by_cases h1:Hc ss
 ·by_cases h2:gh ss
  ·cases h3:vh ss with
   |none=>exact⟨.pa,[],130,rA,⟨fun h=>(by cases h),fun ⟨_,h,_⟩=>(by cases h)⟩,fun _=>rfl,fun A ea h=>(Ci h).2.2.1 h1 h2 h3,fun A ea h=>(On h).2.2.1 h1 h2 h3⟩
   |some l=>
    obtain⟨k1,k2⟩:=Ow h3
    exact⟨Ai l,l,0,Gy k1 k2,⟨fun _=>⟨l,rfl,h1,h2,rfl,rfl⟩,fun _=>rfl⟩,fun h=>absurd rfl h,fun A ea h=>(Ci h).2.2.2 h1 h2 l h3,fun A ea h=>(On h).2.2.2 h1 h2 l h3⟩
  ·exact⟨.pa,[],110,rA,⟨fun h=>(by cases h),fun ⟨_,_,_,h,_⟩=>absurd h h2⟩,fun _=>rfl,fun A ea h=>(Ci h).2.1 h1 h2,fun A ea h=>(On h).2.1 h1 h2⟩
 ·exact⟨.pa,[],84,rA,⟨fun h=>(by cases h),fun ⟨_,_,h,_⟩=>absurd h h1⟩,fun _=>rfl,fun A ea h=>(Ci h).1 h1,fun A ea h=>(On h).1 h1⟩
end Go.AM.B1
namespace Go.AM.B1
open Go.AM Go.AM.So
def yn (es:List Oe):PV:= .agg ((List.range 256).map fun b=> .int .i8 (Ik es b))
theorem KB {α:Type} {cs vs:List α} (h:vs.length=cs.length):na cs 0 vs=vs:=by
 apply List.ext_getElem?
 intro p
 rw[So.rh]
 by_cases hp:p < cs.length
 ·rw[dif_pos ⟨by omega,by omega,hp⟩];simp
 ·rw[dif_neg (by omega),List.getElem?_eq_none (by omega),List.getElem?_eq_none (by omega)]
theorem setRow_self {α:Type} (cs:List α):na cs 0 cs=cs:=KB rfl
theorem KN:ba.box ((List.replicate 256 (PV.int .i8 0)).map .pv)=b8 fun _=>0:=by
 unfold b8 cellsOf
 rw[List.map_const',List.length_range,List.map_replicate]
theorem QU (n:Nat):(List.replicate n (AV.pv (.int .i8 0))).all AV.one=true:=by
 rw[List.all_eq_true];intro x hx;rw[List.eq_of_mem_replicate hx];rfl
def Nv (o0 o1 o4 o5:ba) (c0 c1 c3 c4 c5:AV) (nl:Bool) (es:List PV):List ba:=[o0,o1,.box [c0,c1,.uq 3 nl 256 es,c3,c4,c5],.tok 256 es.length nl,o4,o5]
section
variable {call:Za} {o0 o1 o4 o5:ba} {c0 c1 c3 c4 c5:AV}
 (hg:∀ nl es,Ng (Nv o0 o1 o4 o5 c0 c1 c3 c4 c5 nl es))
include hg
theorem yS {E:Tr} {V:PV} {l:List (List Oe)} {i:Nat} {nl:Bool} {es:List PV} (hV:Di 1 V (l.map ee)) (hl:l.length≤64) (hle:∀ e∈l,e.length≤256) (Aa:∀ e∈l,Sn e) (hi:i < l.length) (he:es.length=i)
 (h8:E.get 8= .ptr 2 0) (h101:E.get 101= .pv V) (h102:E.get 102= .pv (i64 l.length)) (h103:E.get 103= .pv (i64 i)):
 Td (fun r=>∃ E',r=(.norm,⟨E',Nv o0 o1 o4 o5 c0 c1 c3 c4 c5 false (es++[yn l[i]])++[b8 (Ik l[i])]⟩)∧Zd [8,101,102] E E'∧E'.get 103= .pv (i64 (i+1:Nat)))
  (ta call qi ⟨E,Nv o0 o1 o4 o5 c0 c1 c3 c4 c5 nl es⟩):=by
 have hV1:=hV.lit (i:=i) (by simpa using hi)
 have hml:=List.getElem_mem hi
 have hie:=Aa _ hml
 have hilen:=hle _ hml
 have hA:=hg nl es
 have hAl:(Nv o0 o1 o4 o5 c0 c1 c3 c4 c5 nl es).length=6:=rfl
 have e1:decide ((i:Int) < (l.length:Int))=true:=Da (by omega)
 have t1:IntKind.i64.wrap ((i:Int)+1)=((i+1:Nat):Int):=mj (by omega)
 have hvc:(ee l[i]).cells=[ee l[i]]:=by unfold ee;split <;> rfl
 have a1:qa (Nv o0 o1 o4 o5 c0 c1 c3 c4 c5 nl es) 1 (.pv V) (i:Int)=some (.pv (.rp [ee l[i]] 0)):=by
  rw[hV1]
  simp only[qa]
  rw[if_pos ⟨trivial,by unfold Fa;rw[List.length_map];omega⟩,Int.toNat_natCast,List.getElem?_map,List.getElem?_eq_getElem hi,Option.map_some,Option.map_some,hvc]
 have hL:=bJ l[i]
 have lL:=hL.len
 rw[List.length_map] at lL
 have hclr:=fun (E2:Tr) (q8:E2.get 8= .ptr 2 0) (q12:E2.get 12= .pv (ee l[i])) (q13:E2.get 13= .ptr 6 0) (q101:E2.get 101= .pv V) (q102:E2.get 102= .pv (i64 l.length)) (q103:E2.get 103= .pv (i64 i)) (q108:E2.get 108= .pv (i64 0))=>
  ES (call:=call) hA (g0:=fun _=>0) (tb:=2) (by rw[hAl];omega) q8 q12 q13 q101 q102 q103 q108
 have hedg:=fun (E2:Tr) (q8:E2.get 8= .ptr 2 0) (q13:E2.get 13= .ptr 6 0) (q101:E2.get 101= .pv V) (q102:E2.get 102= .pv (i64 l.length)) (q103:E2.get 103= .pv (i64 i)) (q114:E2.get 114= .pv (ee l[i])) (q115:E2.get 115= .pv (i64 l[i].length)) (q116:E2.get 116= .pv (i64 0))=>
  jU (call:=call) hA (tb:=2) hie hL hilen (by rw[hAl];omega) q8 q13 q101 q102 q103 q114 q115 q116
 generalize l[i]=ed at *
 have s0:Ra (Nv o0 o1 o4 o5 c0 c1 c3 c4 c5 nl es++[b8 fun _=>0]) 256 (.ptr 6 0) (.pv (.agg (List.replicate 256 (PV.int .i8 0))))=some (Nv o0 o1 o4 o5 c0 c1 c3 c4 c5 nl es++[b8 fun _=>0]):=by
  have hq:=Jj (Nv o0 o1 o4 o5 c0 c1 c3 c4 c5 nl es) (b8 fun _=>0)
  have hs:=Rn (Nv o0 o1 o4 o5 c0 c1 c3 c4 c5 nl es) (b8 fun _=>0) (b8 fun _=>0)
  rw[hAl] at hq hs
  simp only[Ra,hq,AV.cells,PV.cells,List.length_map,List.length_replicate,List.map_replicate]
  rw[if_pos ⟨trivial,QU 256⟩]
  rw[← KN,List.map_replicate] at hs ⊢
  simp only[List.length_replicate]
  rw[if_pos (by omega),setRow_self,hs]
 generalize hA1:Nv o0 o1 o4 o5 c0 c1 c3 c4 c5 nl es++[b8 fun _=>0]=A1 at *
 have hbz:Nv o0 o1 o4 o5 c0 c1 c3 c4 c5 nl es++[ba.box ((List.replicate 256 (PV.int .i8 0)).map .pv)]=A1:=by rw[KN];exact hA1
 have hap:=So.uf (List.replicate 256 (PV.int .i8 0))
 rw[List.map_replicate] at hap hbz
 generalize hA0:Nv o0 o1 o4 o5 c0 c1 c3 c4 c5 nl es=A0 at *
 generalize hQ:(fun r:Ex×St=>∃ E',r=_∧_)=Q
 simp -implicitDefEqProofs only[SX,sevalprocAttr,-List.reduceReplicate,qi,h8,h101,h102,h103,e1,a1,Pa,hap,hAl,hbz,s0,List.map_replicate]
 generalize hEE:(Tr.set _ 108 _:Tr)=E2
 have k2:Zd [8,101,102,103] E E2:=by
  rw[← hEE]
  repeat refine Zd.set ?_ rfl
  exact Zd.refl _ _
 have q12:E2.get 12= .pv (ee ed):=by rw[← hEE];simp[Tr.aa,-List.reduceReplicate]
 have q13:E2.get 13= .ptr 6 0:=by rw[← hEE];simp[Tr.aa,-List.reduceReplicate]
 have q108:E2.get 108= .pv (i64 0):=by rw[← hEE];simp[Tr.aa,-List.reduceReplicate]
 refine xa (hclr E2 ((k2 8 (by simp)).trans h8) q12 q13 ((k2 101 (by simp)).trans h101) ((k2 102 (by simp)).trans h102) ((k2 103 (by simp)).trans h103) q108) ?_
 rintro r ⟨_,E3,rfl,k3⟩
 have k3:Zd [8,12,13,101,102,103] E2 E3:=k3
 have z12:=(k3 12 (by simp)).trans q12
 simp -implicitDefEqProofs only[SX,sevalprocAttr,-List.reduceReplicate,z12,lL]
 generalize hEE4:(Tr.set _ 116 _:Tr)=E4
 have k4:Zd [8,101,102,103] E E4:=by
  rw[← hEE4]
  repeat refine Zd.set ?_ rfl
  exact k2.trans (Zd.sub k3 rfl)
 have q13:E4.get 13= .ptr 6 0:=by rw[← hEE4];simp[Tr.aa];exact (k3 13 (by simp)).trans q13
 have q114:E4.get 114= .pv (ee ed):=by rw[← hEE4];simp[Tr.aa]
 have q115:E4.get 115= .pv (i64 ed.length):=by rw[← hEE4];simp[Tr.aa]
 have q116:E4.get 116= .pv (i64 0):=by rw[← hEE4];simp[Tr.aa]
 refine xa (hedg E4 ((k4 8 (by simp)).trans h8) q13 ((k4 101 (by simp)).trans h101) ((k4 102 (by simp)).trans h102) ((k4 103 (by simp)).trans h103) q114 q115 q116) ?_
 rintro r ⟨_,E5,rfl,k5⟩
 have k5:Zd [8,13,101,102,103] E4 E5:=k5
 have k5':Zd [8,101,102,103] E E5:=k4.trans (Zd.sub k5 rfl)
 have z8:=(k5' 8 (by simp)).trans h8
 have z103:=(k5' 103 (by simp)).trans h103
 have z13:=(k5 13 (by simp)).trans q13
 have p2:∀ d,place (A0++[b8 (Ik ed)]) d (.ptr 2 0)=some (.ptr 2 (0+d)):=fun d=>wg (by rw[← hA0];rfl) d 0
 have l2:ya (A0++[b8 (Ik ed)]) false 1 (.ptr 2 2)=some (.uq 3 nl 256 es):=by rw[← hA0];rfl
 have l13:ya (A0++[b8 (Ik ed)]) true 256 (.ptr 6 0)=some (.pv (yn ed)):=by
  have hgt:(A0++[b8 (Ik ed)])[6]? =some (b8 (Ik ed)):=by rw[← hA0];rfl
  have hl:(cellsOf 256 fun b=>AV.pv (.int .i8 (Ik ed b))).length=256:=zg _ _
  have:cellsOf 256 (fun b=>AV.pv (.int .i8 (Ik ed b)))=((List.range 256).map fun b=>PV.int .i8 (Ik ed b)).map .pv:=by rw[cellsOf,List.map_map];rfl
  rw[ya,hgt]
  show lh true 256 (cellsOf 256 fun b=>AV.pv (.int .i8 (Ik ed b))) 0=_
  rw[lh,if_pos rfl,if_pos (by rw[hl];exact Nat.le_refl _),List.drop_zero,List.take_of_length_le (by rw[hl];exact Nat.le_refl _),this,Xq,So.uf];rfl
 have hap2:ic (A0++[b8 (Ik ed)]) false .uq 256 true 256 (.uq 3 nl 256 es) (.pv (.lit 256 [yn ed]))=some (.uq 3 false 256 (es++[yn ed]),[o0,o1,.box [c0,c1,.uq 3 nl 256 es,c3,c4,c5],.tok 256 (es.length+1) false,o4,o5,b8 (Ik ed)]):=by
  rw[← hA0]
  simp only[ic,Nv,Gf,List.cons_append,List.nil_append,List.getElem?_cons_succ,List.getElem?_cons_zero,if_true,Option.bind_some,List.length_cons,List.length_nil]
  rw[if_neg (by simp)]
  rw[if_pos ⟨trivial,trivial,trivial,by unfold pb;omega⟩]
  simp
 have p3:∀ d,place [o0,o1,.box [c0,c1,.uq 3 nl 256 es,c3,c4,c5],.tok 256 (es.length+1) false,o4,o5,b8 (Ik ed)] d (.ptr 2 0)=some (.ptr 2 (0+d)):=fun d=>wg rfl d 0
 have s3:Ra [o0,o1,.box [c0,c1,.uq 3 nl 256 es,c3,c4,c5],.tok 256 (es.length+1) false,o4,o5,b8 (Ik ed)] 1 (.ptr 2 2) (.uq 3 false 256 (es++[yn ed]))=some (Nv o0 o1 o4 o5 c0 c1 c3 c4 c5 false (es++[yn ed])++[b8 (Ik ed)]):=by
  have:(es++[yn ed]).length=es.length+1:=by simp
  unfold Nv
  rw[this];rfl
 obtain⟨N,hN⟩:∃ N,N=(List.range 256).map fun b=>PV.int .i8 (Ik ed b):=⟨_,rfl⟩
 have hNl:N.length=256:=by rw[hN,List.length_map,List.length_range]
 have hNo:(N.map AV.pv).all AV.one=true:=by
  rw[hN,List.all_eq_true];intro x hx
  rw[List.mem_map] at hx;obtain⟨y,hy,rfl⟩:=hx
  rw[List.mem_map] at hy;obtain⟨z,_,rfl⟩:=hy
  rfl
 have hNP:yn ed= .agg N:=by rw[hN];rfl
 rw[hNP] at l13 hap2 s3 hQ
 have m0:(PV.agg N).cells=N:=rfl
 have m1:na (List.map AV.pv (List.replicate 256 (PV.int .i8 0))++[]) 0 (N.map .pv)=N.map .pv:=KB (by rw[List.length_map,List.length_append,List.length_map,List.length_replicate,hNl];rfl)
 have m2:(N.map AV.pv).length=256:=by rw[List.length_map,hNl]
 have m3:=So.uf N
 have m5:(256≤(List.map AV.pv (List.replicate 256 (PV.int .i8 0))++[]).length)=True:=eq_true (by rw[List.length_append,List.length_map,List.length_replicate];exact Nat.le_add_right _ _)
 have m6:List.take 256 N=N:=List.take_of_length_le (by omega)
 clear hN hNP
 simp -implicitDefEqProofs only[SP,WP,na,sevalprocAttr,-List.reduceReplicate,z8,z103,z13,p2,l2,l13,hap2,p3,s3,t1,m0,m1,m2,m3,m5,m6,hNo]
 subst hQ
 refine⟨_,rfl,?_,by simp[Tr.aa]⟩
 repeat refine Zd.set ?_ rfl
 exact Zd.sub k5' rfl
end
end Go.AM.B1
namespace Go.AM.B1
open Go.AM Go.AM.So
theorem Ru {p:Int×Int} (h0:0≤p.1) (h1:p.1≤p.2):((Lf 0 p).length:Int)=p.2 - p.1+1:=by
 rw[JK h0 h1,List.length_map,List.length_range];omega
theorem cz {p:Int×Int} (h0:0≤p.1) (h1:p.1≤p.2) {k:Nat} (hk:(k:Int) < p.2 - p.1+1):(Lf 0 p)[k]? =some (p.1+k):=by
 rw[JK h0 h1,List.getElem?_map,List.getElem?_range (by omega)];rfl
theorem nz {top:Int}:∀ {l:List (Int×Int)} {last:Int} (n:Int),Oa top last l=true→Sb n l=n+(Jk l).length
 | [],_,n,_=>by simp[Sb,Jk]
 |p::l,last,n,h=>by
  obtain⟨h1,h2,h3,h4,h5⟩:=Pd h
  replace h1:0≤p.1:=by omega
  replace h2:p.1≤p.2:=by omega
  have hl:=Ru h1 h2
  rw[Sb,nz _ h5,Jk,List.length_append]
  omega
theorem Es {top:Int}:∀ {l:List (Int×Int)} {last:Int} {n x:Int} {k:Nat},Oa top last l=true→(Jk l)[k]? =some x→Md x n l=(n+k,true)∧0≤x∧x≤top∧last+1 < x
 | [],_,n,x,k,_,hk=>by simp[Jk] at hk
 |p::l,last,n,x,k,h,hk=>by
  obtain⟨h1,h2,h3,h4,h5⟩:=Pd h
  replace h1:0≤p.1:=by omega
  replace h2:p.1≤p.2:=by omega
  have hl:=Ru h1 h2
  rw[Jk] at hk
  rcases Nat.lt_or_ge k (Lf 0 p).length with hlt | hge
  ·rw[List.getElem?_append_left hlt,cz h1 h2 (by omega)] at hk
   injection hk with hk
   subst hk
   rw[Md,if_neg (by omega),if_pos (by omega)]
   exact⟨by rw[Prod.mk.injEq];exact⟨by omega,rfl⟩,by omega,by omega,by omega⟩
  ·rw[List.getElem?_append_right hge] at hk
   obtain⟨g1,g2,g3,g4⟩:=Es (n:=n+(p.2 - p.1+1)) h5 hk
   rw[Md,if_neg (by omega),if_neg (by omega),g1]
   exact⟨by rw[Prod.mk.injEq];exact⟨by omega,rfl⟩,g2,g3,by omega⟩
theorem Em {top:Int}:∀ {l:List (Int×Int)} {last:Int} {n x:Int},Oa top last l=true→(Md x n l).2=true→∃ k:Nat,(Jk l)[k]? =some x∧(Md x n l).1=n+k
 | [],_,n,x,_,hk=>by simp[Md] at hk
 |p::l,last,n,x,h,hk=>by
  obtain⟨h1,h2,h3,h4,h5⟩:=Pd h
  replace h1:0≤p.1:=by omega
  replace h2:p.1≤p.2:=by omega
  have hl:=Ru h1 h2
  rw[Md] at hk ⊢
  by_cases c1:x < p.1
  ·rw[if_pos c1] at hk;cases hk
  ·rw[if_neg c1] at hk ⊢
   by_cases c2:x≤p.2
   ·rw[if_pos c2]
    refine⟨(x - p.1).toNat,?_,by show n+x - p.1=_;omega⟩
    rw[Jk,List.getElem?_append_left (by omega),cz h1 h2 (by omega)]
    congr 1;omega
   ·rw[if_neg c2] at hk ⊢
    obtain⟨k,g1,g2⟩:=Em h5 hk
    refine⟨(Lf 0 p).length+k,?_,by rw[g2];omega⟩
    rw[Jk,List.getElem?_append_right (by omega),Nat.add_sub_cancel_left];exact g1
end Go.AM.B1
namespace Go.AM.B1
open Go.AM Go.AM.So
theorem BG:∀ (l:List (Int×Int)),Qa YG (de l)=some l
 | []=>rfl
 |p::l=>by
  show (YG (pr p)).bind _=_
  have:YG (pr p)=some p:=rfl
  rw[this,Option.bind_some]
  show ((Qa YG (de l)).bind fun bs=>some (p::bs))=_
  rw[BG l];rfl
theorem CO {v:PV} {l:List (Int×Int)} (h:Di 2 v (de l)):FD v=some l:=by
 rcases h with⟨rfl,h⟩ | rfl
 ·cases l with
  |nil=>rfl
  |cons p l=>cases h
 ·exact BG l
theorem LC {v:PV} {l:List (Int×Int)} (h:Di 2 v (de l)) (hv:Oa 255 (-2) l=true) (hlen:l.length≤4611686018427387904):
 Tk [.rp [v] 0,.rp [i64 0] 0]=some ((Jk l).map fun x=>[i64 x]):=by
 have hsm:l.all uH=true:=by
  have:∀ (l:List (Int×Int)) (last:Int),Oa 255 last l=true→l.all uH=true:=by
   intro l
   induction l with
   |nil=>intro _ _;rfl
   |cons p l ih=>
    intro last h
    obtain⟨h1,h2,h3,h4,h5⟩:=Pd h
    rw[List.all_cons,ih _ h5,Bool.and_true]
    exact decide_eq_true (by omega)
  exact this l _ hv
 simp only[Tk,CO h,Option.bind_some,hsm,Bool.true_and]
 rw[if_pos (decide_eq_true (by omega)),pU]
theorem EF {v:PV} {l:List (Int×Int)} (hv:Jm v l) (hp:zc l):∃ u,Di 2 u (de l)∧∀ H,Ga bh 8 39 [.pv v,.pv (i64 0)] H=some (.gl 35 [.pv (.rp [u] 0),.pv (.rp [i64 0] 0)],H):=by
 obtain⟨u,q1,q2⟩:=Px v l hv.is hv.sz
 rw[SH hp.2] at q2
 refine⟨u,q2,fun H=> ?_⟩
 have hu1:(AV.pv u).one=true:=by rcases q2 with⟨h,_⟩ | h <;> rw[h] <;> rfl
 have huc:(AV.pv u).cells=[.pv u]:=by rcases q2 with⟨h,_⟩ | h <;> rw[h] <;> rfl
 have c38:bh 38=some Iu:=rfl
 rw[uz bh 7 39 _ H (f:=om) rfl]
 simp -implicitDefEqProofs only[SX,sevalprocAttr,om,Iu,q1,c38,hu1,huc]
end Go.AM.B1
namespace Go.AM.B1
open Go.AM Go.AM.So
def yX (v:AV) (H:List ba) (es:List PV):Prop:=(es=[]∧v= .pv .pa)∨(∃ tk,es≠[]∧v= .uq tk false 1 es∧H[tk]? =some (.tok 1 es.length false))
theorem vV {x:Int} (h0:0≤x) (h1:x≤255):IntKind.u8.wrap x=x:=by
 unfold IntKind.wrap
 simp[IntKind.signed,IntKind.bits]
 omega
theorem ET {x:Int} (h0:0≤x) (h1:x≤65535):IntKind.u16.wrap x=x:=by
 unfold IntKind.wrap
 simp[IntKind.signed,IntKind.bits]
 omega
theorem aS (call:Za) {e:Tr} {H:List ba} {bx oid m off fl:Nat} {g:Nat→AV} {x:Int} {es:List PV} (h6:e.get 6= .ptr bx 0) (h7:e.get 7= .pv (i64 x)) (hb:H[bx]? =some (.box [.Gc oid m off])) (ho:H[oid]? =some (.seq 258 true (cellsOf m g) fl false))
 (hoff:off+258≤m) (hx0:0≤x) (hx1:x≤255) (hB:yX (g off) H es) (hlen:es.length≤255):
 ∃ s' fl' v,fl'≤m∧ta call Rk ⟨e,H⟩=some (.norm,s')∧s'.H[bx]? =some (.box [.Gc oid m off])∧
  s'.H[oid]? =some (.seq 258 true (cellsOf m (Iv (Iv g off v) (off+1+x.toNat) (.pv (.int .u16 (es.length+1))))) fl' false)∧yX v s'.H (es++[.int .u8 x])∧∀ (j:Nat) c,H[j]? =some (.box c)→s'.H[j]? =some (.box c):=by
 have hbo:bx≠oid:=by intro e;subst e;rw[hb] at ho;cases ho
 have wx:=vV hx0 hx1
 have l6:ya H false 1 (.ptr bx 0)=some (.Gc oid m off):=by simp[ya,hb,lh]
 have lo:=oD (off:=off) ho rfl (by omega)
 have po:∀ d,place H d (.Gc oid m off)=some (.Gc oid m (off+d)):=fun d=>Dt ho rfl
 have app:∃ v H1,ic H false .uq 1 false 1 (g off) (.pv (.lit 1 [.int .u8 x]))=some (v,H1)∧yX v H1 (es++[.int .u8 x])∧H1[bx]? =some (.box [.Gc oid m off])∧H1[oid]? =some (.seq 258 true (cellsOf m g) fl false)∧v.cells=[v]∧v.one=true∧(∀ K,Wb K 0 v=some (es.length+1))∧∀ (j:Nat) c,H[j]? =some (.box c)→H1[j]? =some (.box c):=by
  rcases hB with⟨rfl,hg⟩ | ⟨tk,hne,hg,htk⟩
  ·refine⟨.uq H.length false 1 [.int .u8 x],H++[.tok 1 1 false],by rw[hg];simp[ic,Gf,bp],.inr ⟨H.length,by simp,rfl,by simp⟩,?_,?_,rfl,rfl,fun _=>rfl,fun j c hj=>by rw[getElem?_push (getElem?_lt hj)];exact hj⟩
   ·rw[getElem?_push (getElem?_lt hb)];exact hb
   ·rw[getElem?_push (getElem?_lt ho)];exact ho
  ·have h1:tk≠bx:=by intro e;subst e;rw[hb] at htk;cases htk
   have h2:tk≠oid:=by intro e;subst e;rw[ho] at htk;cases htk
   refine⟨.uq tk false 1 (es++[.int .u8 x]),H.set tk (.tok 1 (es.length+1) false),?_,.inr ⟨tk,by simp,rfl,by rw[List.getElem?_set_self (getElem?_lt htk)];simp⟩,?_,?_,rfl,rfl,fun _=>by simp[Wb],fun j c hj=>by rw[List.getElem?_set_ne (fun e=>by subst e;rw[htk] at hj;cases hj)];exact hj⟩
   ·rw[hg];simp[ic,Gf,htk];omega
   ·rw[List.getElem?_set_ne h1];exact hb
   ·rw[List.getElem?_set_ne h2];exact ho
 obtain⟨v,H1,ha,hB1,hb1,ho1,hv1,hv2,hv3,hbox⟩:=app
 have po1:∀ d,place H1 d (.Gc oid m off)=some (.Gc oid m (off+d)):=fun d=>Dt ho1 rfl
 have st1:=eB (off:=off) ho1 rfl (by omega) hv1 hv2
 generalize hH2:H1.set oid (.seq 258 true (cellsOf m (Iv g off v)) m false)=H2 at st1
 have hb2:H2[bx]? =some (.box [.Gc oid m off]):=by rw[← hH2,List.getElem?_set_ne (Ne.symm hbo)];exact hb1
 have ho2:H2[oid]? =some (.seq 258 true (cellsOf m (Iv g off v)) m false):=by rw[← hH2,List.getElem?_set_self (getElem?_lt ho1)]
 have l62:ya H2 false 1 (.ptr bx 0)=some (.Gc oid m off):=by simp[ya,hb2,lh]
 have lo2:=oD (off:=off) ho2 rfl (by omega)
 rw[ct] at lo2
 have po2:∀ d off',place H2 d (.Gc oid m off')=some (.Gc oid m (off'+d)):=fun d off'=>Dt ho2 rfl
 have w2:IntKind.u16.wrap ((es.length+1:Nat):Int)=(es.length:Int)+1:=by rw[ET (by omega) (by omega)];omega
 have st2:=eB (off:=off+1+x.toNat) (v:= .pv (.int .u16 ((es.length:Int)+1))) ho2 rfl (by omega) rfl rfl
 have hidx:(0≤x∧x < ((256:Nat):Int))=True:=eq_true (by omega)
 generalize hH3:H2.set oid (.seq 258 true (cellsOf m (Iv (Iv g off v) (off+1+x.toNat) (.pv (.int .u16 ((es.length:Int)+1))))) m false)=H3 at st2
 have key:Td (fun r=>r.1= .norm∧r.2.H=H3) (ta call Rk ⟨e,H⟩):=by
  clear hB hB1 hb ho hb1 ho1 hb2 ho2 hH2 hH3
  have hsr:na [AV.pv (PV.int .u8 0)] 0 [AV.pv (PV.int .u8 x)]=[AV.pv (PV.int .u8 x)]:=rfl
  have hal:([AV.pv (PV.int .u8 x)].all AV.one=true)=True:=eq_true rfl
  have hfr:fresh H .lit 1 false 1 [AV.pv (PV.int .u8 x)]=some (.pv (.lit 1 [.int .u8 x]),H):=rfl
  generalize hQ:(fun r:Ex×St=>r.1=Ex.norm∧_)=Q
  simp -implicitDefEqProofs only[SX,sevalprocAttr,Rk,h6,h7,l6,lo,po,wx,ha,po1,st1,l62,lo2,po2,hv3,w2,hidx,st2,hsr,hal,hfr]
  subst hQ
  exact⟨rfl,rfl⟩
 obtain⟨⟨ex,s'⟩,h1,h2,h3⟩:=Fc key
 simp only at h2 h3
 subst h2
 refine⟨s',m,v,Nat.le_refl _,h1,?_,?_,?_,fun j c hj=> ?_⟩
 ·rw[h3,←hH3,List.getElem?_set_ne (Ne.symm hbo)];exact hb2
 ·rw[h3,←hH3];exact List.getElem?_set_self (getElem?_lt ho2)
 ·rcases hB1 with h | ⟨tk,q1,q2,q3⟩
  ·exact .inl h
  ·have h4:tk≠oid:=by intro e;subst e;rw[ho1] at q3;cases q3
   refine .inr ⟨tk,q1,q2,?_⟩
   rw[h3,←hH3,List.getElem?_set_ne (Ne.symm h4),←hH2,List.getElem?_set_ne (Ne.symm h4)];exact q3
 ·have hj1:=hbox j c hj
  have hne:oid≠j:=fun e=>by subst e;rw[ho1] at hj1;cases hj1
  rw[h3,←hH3,List.getElem?_set_ne hne,←hH2,List.getElem?_set_ne hne];exact hj1
end Go.AM.B1
namespace Go.AM.B1
open Go.AM Go.AM.So
def OX (x:Int):PV:= .int .u8 x
theorem of_inner (call:Za) {e:Tr} {bx oid m off:Nat} (h6:e.get 6= .ptr bx 0) (hoff:off+258≤m):∀ (xs:List Int) {H:List ba} {fl:Nat} {g:Nat→AV} {es:List PV},H[bx]? =some (.box [.Gc oid m off])→H[oid]? =some (.seq 258 true (cellsOf m g) fl false)→
 (∀ x∈xs,0≤x∧x≤255)→xs.Nodup→yX (g off) H es→es.length+xs.length≤256→
 ∃ H' fl' g',(fl≤m→fl'≤m)∧Pk (fun x H=>ta call Rk ⟨fC [(7,40)] (Ut [40] x e),H⟩) (xs.map fun x=>[i64 x]) H=some (.norm,H')∧H'[bx]? =some (.box [.Gc oid m off])∧H'[oid]? =some (.seq 258 true (cellsOf m g') fl' false)∧
  yX (g' off) H' (es++xs.map OX)∧(∀ j,j≠off→(∀ x∈xs,j≠off+1+x.toNat)→g' j=g j)∧(∀ (k:Nat) x,xs[k]? =some x→g' (off+1+x.toNat)= .pv (.int .u16 ((es.length+k:Nat)+1)))∧∀ (j:Nat) c,H[j]? =some (.box c)→H'[j]? =some (.box c):=by
 intro xs
 induction xs with
 |nil=>
  intro H fl g es hb ho _ _ hB _
  exact⟨H,fl,g,id,rfl,hb,ho,by simpa using hB,fun _ _ _=>rfl,fun k x h=>by simp at h,fun _ _ h=>h⟩
 |cons x xs ih=>
  intro H fl g es hb ho hx hnd hB hlen
  obtain⟨hx0,hx1⟩:=hx x (by simp)
  have hnd':=List.nodup_cons.1 hnd
  have e6:(fC [(7,40)] (Ut [40] [i64 x] e)).get 6= .ptr bx 0:=by simp[fC,Ut,Tr.aa,h6]
  have e7:(fC [(7,40)] (Ut [40] [i64 x] e)).get 7= .pv (i64 x):=by simp[fC,Ut,Tr.aa]
  obtain⟨s',fl',v,q0,q1,q2,q3,q4,q5⟩:=aS call e6 e7 hb ho hoff hx0 hx1 hB (by simp at hlen;omega)
  have hne:off≠off+1+x.toNat:=by omega
  obtain⟨H',fl2,g',r0,r1,r2,r3,r4,r5,r6,r7⟩:=ih (es:=es++[OX x]) q2 q3 (fun y hy=>hx y (by simp[hy])) hnd'.2 (by rw[cu _ _ hne,ct];exact q4) (by simp at hlen ⊢;omega)
  refine⟨H',fl2,g',fun _=>r0 q0,?_,r2,r3,by simpa using r4,fun j h1 h2=> ?_,fun k y hk=> ?_,fun j c hj=>r7 j c (q5 j c hj)⟩
  ·simp only[List.map_cons,Pk,q1,oB];exact r1
  ·rw[r5 j h1 fun y hy=>h2 y (by simp[hy]),cu _ _ (h2 x (by simp)),cu _ _ h1]
  ·cases k with
   |zero=>
    simp at hk;subst hk
    rw[r5 _ (by omega) (fun y hy e=>by
     have:=(hx y (by simp[hy])).1
     have:y=x:=by omega
     subst this;exact hnd'.1 hy),ct]
    simp
   |succ k=>
    have:=r6 k y (by simpa using hk)
    rw[this]
    congr 3
    simp;omega
end Go.AM.B1
namespace Go.AM.B1
open Go.AM Go.AM.So
theorem zO {e:Tr} {H:List ba} {s:dc} {P:PV} {ps:List PV} {sb oid fl i:Nat} {prod:Int} {g:Nat→AV} (hp:Rf P s.parts ps) (hi:i < s.parts.length) (Aa:zc s.parts[i])
 (h1:e.get 1= .pv (.rp [P,i64 s.first] 0)) (h3:e.get 3= .ptr sb 0) (h4:e.get 4= .pv (i64 prod)) (h5:e.get 5= .pv (i64 i)) (hs:H[sb]? =some (.box [.own oid s.parts.length])) (ho:H[oid]? =some (.seq 258 true (cellsOf (s.parts.length * 258) g) fl false))
 (hg:g (i * 258)= .pv .pa) (hw:IntKind.i64.wrap (prod * (Jk s.parts[i]).length)=prod * (Jk s.parts[i]).length) (hnd:(Jk s.parts[i]).Nodup) (hml:(Jk s.parts[i]).length≤256) (hmb:∀ x∈Jk s.parts[i],0≤x∧x≤255) (hne:Jk s.parts[i]≠[]) (hfl:fl≤s.parts.length * 258) (hi2:i≤4611686018427387904):
 Td (fun r=>r.1= .norm∧r.2.env.get 1= .pv (.rp [P,i64 s.first] 0)∧r.2.env.get 3= .ptr sb 0∧r.2.env.get 4= .pv (i64 (prod * (Jk s.parts[i]).length))∧r.2.env.get 5= .pv (i64 (i - 1))∧r.2.H[sb]? =some (.box [.own oid s.parts.length])∧
  ∃ fl' g',fl'≤s.parts.length * 258∧r.2.H[oid]? =some (.seq 258 true (cellsOf (s.parts.length * 258) g') fl' false)∧yX (g' (i * 258)) r.2.H ((Jk s.parts[i]).map OX)∧(∀ j,j≠i * 258→(∀ x∈Jk s.parts[i],j≠i * 258+1+x.toNat)→g' j=Iv g (i * 258+257) (.pv (i64 prod)) j)∧∀ (k:Nat) x,(Jk s.parts[i])[k]? =some x→g' (i * 258+1+x.toNat)= .pv (.int .u16 ((k:Nat)+1))) (ta (Ga bh 8) Nk ⟨e,H⟩):=by
 obtain⟨v,hv1,hv2,hv3⟩:=hp.get hi
 obtain⟨u,hu,hall⟩:=EF hv3 Aa
 have hso:sb≠oid:=by intro e;subst e;rw[hs] at ho;cases ho
 have hlt:=getElem?_lt hs
 have hlo:=getElem?_lt ho
 generalize hl:s.parts[i]=l at *
 clear hl hp
 generalize hn:s.parts.length=n at *
 have p3:place H 0 (.ptr sb 0)=some (.ptr sb 0):=by simp[place,hs]
 have l3:ya H false 1 (.ptr sb 0)=some (.own oid n):=by simp[ya,hs,lh]
 have ia:qa H 258 (.own oid n) (i:Int)=some (.Gc oid (n * 258) (i * 258)):=by
  simp only[qa,ho,zg]
  rw[if_pos ⟨trivial,by unfold Fa;omega,by unfold nh;omega⟩]
  simp
 have hH2:(H++[ba.box [.pv .Mi]]).set H.length (.box [.Gc oid (n * 258) (i * 258)])=H++[ba.box [.Gc oid (n * 258) (i * 258)]]:=by
  rw[List.set_append_right _ _ (Nat.le_refl _)];simp
 have st0:Ra (H++[ba.box [.pv .Mi]]) 1 (.ptr H.length 0) (.Gc oid (n * 258) (i * 258))=some (H++[ba.box [.Gc oid (n * 258) (i * 258)]]):=by
  rw[← hH2]
  simp[Ra,AV.cells,AV.one,na]
 have hb2:(H++[ba.box [.Gc oid (n * 258) (i * 258)]])[H.length]? =some (.box [.Gc oid (n * 258) (i * 258)]):=by simp
 have ho2:(H++[ba.box [.Gc oid (n * 258) (i * 258)]])[oid]? =some (.seq 258 true (cellsOf (n * 258) g) fl false):=by rw[getElem?_push hlo];exact ho
 have hs2:(H++[ba.box [.Gc oid (n * 258) (i * 258)]])[sb]? =some (.box [.own oid n]):=by rw[getElem?_push hlt];exact hs
 generalize H++[ba.box [.Gc oid (n * 258) (i * 258)]]=H2 at *
 have l6:ya H2 false 1 (.ptr H.length 0)=some (.Gc oid (n * 258) (i * 258)):=by simp[ya,hb2,lh]
 have p6:∀ d,place H2 d (.Gc oid (n * 258) (i * 258))=some (.Gc oid (n * 258) (i * 258+d)):=fun d=>Dt ho2 rfl
 have st1:=eB (off:=i * 258+257) (v:= .pv (i64 prod)) ho2 rfl (by omega) rfl rfl
 have hbo:H.length≠oid:=by omega
 have hs3:(H2.set oid (.seq 258 true (cellsOf (n * 258) (Iv g (i * 258+257) (.pv (i64 prod)))) (n * 258) false))[sb]? =some (.box [.own oid n]):=by rw[List.getElem?_set_ne (Ne.symm hso)];exact hs2
 have hb3:(H2.set oid (.seq 258 true (cellsOf (n * 258) (Iv g (i * 258+257) (.pv (i64 prod)))) (n * 258) false))[H.length]? =some (.box [.Gc oid (n * 258) (i * 258)]):=by rw[List.getElem?_set_ne (Ne.symm hbo)];exact hb2
 have ho3:(H2.set oid (.seq 258 true (cellsOf (n * 258) (Iv g (i * 258+257) (.pv (i64 prod)))) (n * 258) false))[oid]? =some (.seq 258 true (cellsOf (n * 258) (Iv g (i * 258+257) (.pv (i64 prod)))) (n * 258) false):=List.getElem?_set_self (getElem?_lt ho2)
 generalize H2.set oid (.seq 258 true (cellsOf (n * 258) (Iv g (i * 258+257) (.pv (i64 prod)))) (n * 258) false)=H3 at *
 have w5:decide ((i:Int)≥0)=true:=decide_eq_true (by omega)
 have r0:∀ H (x y:PV),ya H false 1 (.pv (.rp [x,y] 0))=some (.pv x):=fun H x y=>rfl
 have q0:∀ H (x y:PV),place H 0 (.pv (.rp [x,y] 0))=some (.pv (.rp [x,y] 0)):=fun H x y=>rfl
 have il:∀ H,qa H 1 (.pv P) (i:Int)=some (.pv (.rp v.cells 0)):=by
  intro H
  subst hv2
  have hq:i < ps.length:=getElem?_lt hv1
  simp only[qa]
  rw[if_pos ⟨trivial,by unfold Fa;omega⟩,Int.toNat_natCast,hv1];rfl
 have hvc:v.cells=[v]:=by rcases hv3.is with⟨h,_⟩ | h <;> rw[h] <;> rfl
 rw[hvc] at il
 have r1:∀ H (x:PV),ya H false 1 (.pv (.rp [x] 0))=some (.pv x):=fun H x=>rfl
 have hlp:=wu Aa.2
 have rv:Ay 35 Tk 1 (.gl 35 [.pv (.rp [u] 0),.pv (.rp [i64 0] 0)])=some ((Jk l).map fun x=>[i64 x]):=by
  have:((Jk l).map fun x=>[i64 x]).all (CT 1)=true:=by
   rw[List.all_eq_true];intro y hy
   obtain⟨x,_,rfl⟩:=List.mem_map.1 hy
   rfl
  simp[Ay,nf,LC hu Aa.2 (by omega)]
  exact fun _ _=>rfl
 have c39:bh 39=some om:=rfl
 have hall':=fun H=>(uz bh 7 39 [AV.pv v,AV.pv (i64 0)] H (f:=om) rfl).symm.trans (hall H)
 generalize hQ:(fun r:Ex×St=>r.1=Ex.norm∧_)=Q
 simp -implicitDefEqProofs only[SX,sevalprocAttr,Nk,jV,h1,h3,h4,h5,p3,l3,ia,st0,l6,p6,st1,w5,r0,q0,il,r1,c39,hall',rv,kH]
 have hin:=fun (E:Tr) (h6:E.get 6= .ptr H.length 0)=>of_inner (Ga bh 8) (e:=E) h6 (off:=i * 258) (m:=n * 258) (by omega) (Jk l) (es:=[]) hb3 ho3 hmb hnd (.inl ⟨rfl,by rw[cu _ _ (by omega)];exact hg⟩) (by simpa using hml)
 generalize hEE:(Tr.set _ 39 _:Tr)=E
 have e6:E.get 6= .ptr H.length 0:=by rw[← hEE];simp[Tr.aa]
 have e1:E.get 1= .pv (.rp [P,i64 s.first] 0):=by rw[← hEE];simp[Tr.aa,h1]
 have e3:E.get 3= .ptr sb 0:=by rw[← hEE];simp[Tr.aa,h3]
 have e4:E.get 4= .pv (i64 prod):=by rw[← hEE];simp[Tr.aa,h4]
 have e5:E.get 5= .pv (i64 i):=by rw[← hEE];simp[Tr.aa,h5]
 clear hEE
 obtain⟨H4,fl4,g4,q0,q1,q2,q3,q4,q5,q6,q7⟩:=hin E e6
 rw[q1]
 have l64:ya H4 false 1 (.ptr H.length 0)=some (.Gc oid (n * 258) (i * 258)):=by simp[ya,q2,lh]
 have p66:∀ d,place H4 d (.Gc oid (n * 258) (i * 258))=some (.Gc oid (n * 258) (i * 258+d)):=fun d=>Dt q3 rfl
 have l67:=oD (off:=i * 258) q3 rfl (by omega)
 have ln:∀ K,Wb K 0 (g4 (i * 258))=some (Jk l).length:=by
  rcases q4 with⟨h,_⟩ | ⟨tk,_,h,_⟩
  ·simp at h;exact absurd h hne
  ·intro K;rw[h];simp[Wb]
 have w1:IntKind.i64.wrap ((i:Int) - 1)=(i:Int) - 1:=Ba (by omega)
 simp -implicitDefEqProofs only[SX,sevalprocAttr,qV,e6,e1,e3,e4,e5,l64,p66,l67,ln,hw,w1]
 subst hQ
 refine⟨rfl,?_,?_,?_,?_,?_,fl4,g4,q0 (Nat.le_refl _),q3,by simpa using q4,q5,fun k x hk=>by simpa using q6 k x hk⟩ <;> first | exact q7 _ _ hs3 | simp[Tr.aa,e1,e3]
end Go.AM.B1
namespace Go.AM.B1
open Go.AM Go.AM.So
def lu (l:List (Int×Int)) (x:Nat):PV:= .int .u16 (if (Md (x:Int) 0 l).2 then (Md (x:Int) 0 l).1+1 else 0)
def Xo (l:List (Int×Int)):PV:= .lit 1 ((Jk l).map OX)
def jH (ls:List (List (Int×Int))) (c:Nat):PV:=
 if c % 258=0 then Xo (ls.getD (c / 258) []) else if c % 258=257 then i64 (Ca (ls.drop (c / 258+1))) else lu (ls.getD (c / 258) []) (c % 258 - 1)
def yH (ls:List (List (Int×Int))) (i:Nat):PV:= .agg ((List.range 258).map fun k=>jH ls (i * 258+k))
def Vi (ls:List (List (Int×Int))):PV:= .rp [.lit 258 ((List.range ls.length).map (yH ls))] 0
def EH (ls:List (List (Int×Int))) (g:Nat→AV) (i:Nat):Prop:=
 (∃ tk,g (i * 258)= .uq tk false 1 ((Jk (ls.getD i [])).map OX))∧(∀ y:Nat,y < 256→g (i * 258+1+y)= .pv (lu (ls.getD i []) y))∧g (i * 258+257)= .pv (i64 (Ca (ls.drop (i+1))))
def sH (g:Nat→AV) (i:Nat):Prop:=g (i * 258)= .pv .pa∧∀ y:Nat,y < 256→g (i * 258+1+y)= .pv (.int .u16 0)
theorem uO {l:List (Int×Int)} (h:zc l):Jk l≠[]:=by
 intro e
 have h1:=nz 0 h.2
 rw[e] at h1
 have:=(qf h).1
 simp at h1;omega
theorem OT {l:List (Int×Int)} (h:zc l):(Jk l).length≤256:=by
 have h1:=nz 0 h.2
 have:=(qf h).2
 omega
theorem lz {l:List (Int×Int)} (h:zc l):∀ x∈Jk l,0≤x∧x≤255:=by
 intro x hx
 obtain⟨k,hk,rfl⟩:=List.getElem_of_mem hx
 have:=Es (n:=0) h.2 (List.getElem?_eq_getElem hk)
 exact⟨this.2.1,this.2.2.1⟩
theorem zM {l:List (Int×Int)} (h:zc l):(Jk l).Nodup:=by
 unfold List.Nodup
 rw[List.pairwise_iff_getElem]
 intro i j hi hj hij e
 have h1:=(Es (n:=0) h.2 (List.getElem?_eq_getElem hi)).1
 have h2:=(Es (n:=0) h.2 (List.getElem?_eq_getElem hj)).1
 rw[e,h2] at h1
 injection h1 with h1 _
 omega
theorem HM {l:List (Int×Int)} (h:zc l) {k:Nat} {x:Int} (hk:(Jk l)[k]? =some x):lu l x.toNat= .int .u16 ((k:Nat)+1):=by
 obtain⟨h1,h2,_⟩:=Es (n:=0) h.2 hk
 unfold lu
 rw[Int.toNat_of_nonneg h2,h1]
 simp
theorem yL {l:List (Int×Int)} (h:zc l) {y:Nat} (hy:(y:Int) ∉ Jk l):lu l y= .int .u16 0:=by
 unfold lu
 rw[if_neg]
 intro hr
 obtain⟨k,h1,_⟩:=Em h.2 hr
 exact hy (List.mem_of_getElem? h1)
theorem KV (z:List PV) (n:Nat):(Lj z n).length=n * z.length:=by
 induction n with
 |zero=>simp[Lj]
 |succ n ih=>rw[Lj,List.length_append,List.length_map,ih,Nat.add_mul];omega
theorem tO {z:List PV}:∀ {n i k:Nat} {v:PV},i < n→z[k]? =some v→(Lj z n)[i * z.length+k]? =some (.pv v)
 |n+1,0,k,v,_,hk=>by
  have:k < z.length:=getElem?_lt hk
  rw[Lj,Nat.zero_mul,Nat.zero_add,List.getElem?_append_left (by simpa using this),List.getElem?_map,hk];rfl
 |n+1,i+1,k,v,hi,hk=>by
  rw[Lj,List.getElem?_append_right (by rw[List.length_map,Nat.add_mul];omega),List.length_map,Nat.add_mul,show i * z.length+1 * z.length+k - z.length=i * z.length+k by omega]
  exact tO (by omega) hk
theorem yI (c:List AV):c=cellsOf c.length (fun j=>c.getD j .undef):=by
 apply List.ext_getElem?
 intro j
 by_cases hj:j < c.length
 ·rw[cr _ hj,List.getD_eq_getElem?_getD,List.getElem?_eq_getElem hj];rfl
 ·rw[List.getElem?_eq_none (by omega),List.getElem?_eq_none (by rw[zg];omega)]
theorem zL {H:List ba} {d:Nat} {f:Nat→PV}:∀ {n:Nat} {g:Nat→AV},(∀ c,c < n→Ub H d (g c)=some (f c))→Qa (Ub H d) (cellsOf n g)=some ((List.range n).map f):=by
 have key:∀ (l:List Nat) (g:Nat→AV),(∀ c∈l,Ub H d (g c)=some (f c))→Qa (Ub H d) (l.map g)=some (l.map f):=by
  intro l g
  induction l with
  |nil=>intro _;rfl
  |cons a l ih=>intro h;rw[List.map_cons,Qa,h a (by simp),Option.bind_some,ih fun c hc=>h c (by simp[hc])];rfl
 intro n g h
 exact key (List.range n) g fun c hc=>h c (List.mem_range.1 hc)
theorem vM {f:Nat→PV} (a n:Nat):(List.range' a n).map f=(List.range n).map fun k=>f (a+k):=by
 rw[List.range'_eq_map_range,List.map_map];rfl
theorem BB {f:Nat→PV} (sz:Nat):∀ (n a:Nat),chunk sz true n ((List.range' a (n * sz)).map f)=(List.range n).map fun i=> .agg ((List.range sz).map fun k=>f (a+(i * sz+k)))
 |0,a=>by simp[chunk]
 |n+1,a=>by
  have e:List.range' a ((n+1) * sz)=List.range' a sz++List.range' (a+sz) (n * sz):=by
   rw[Nat.add_mul,Nat.one_mul,Nat.add_comm,List.range'_append_1]
  have hl:((List.range' a sz).map f).length=sz:=by simp
  rw[e,List.map_append,chunk,if_pos rfl,List.take_left' hl,List.drop_left' hl,BB sz n,List.range_succ_eq_map,List.map_cons,List.map_map,vM]
  congr 1
  ·congr 1;apply List.map_congr_left;intro k _;congr 1;omega
  ·apply List.map_congr_left;intro i _
   simp only[Function.comp]
   congr 1;apply List.map_congr_left;intro k _;congr 1
   rw[Nat.succ_mul];omega
end Go.AM.B1
