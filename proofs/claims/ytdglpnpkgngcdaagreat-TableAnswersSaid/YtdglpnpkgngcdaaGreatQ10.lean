/- What functions of the program compute. -/
import Derived.Test.YtdglpnpkgngcdaaGreatQ3
import Derived.Test.YtdglpnpkgngcdaaGreatQ1
import Derived.Test.YtdglpnpkgngcdaaGreatQ9
import Derived.Test.YtdglpnpkgngcdaaGreatQ8
set_option linter.unusedVariables false
set_option linter.unusedSimpArgs false
namespace Go.AM.B1
open Go.AM Go.AM.So
def zu (g:Nat→Int) (e:Oe):Nat→Int:=fun b=>if e.lo≤(b:Int)∧(b:Int)≤e.hi then e.to else g b
theorem QG {b:Nat}:∀ (l:List Oe) (g:Nat→Int),l.Pairwise (fun a c=>a.hi < c.lo)→l.foldl zu g b=(Df (b:Int) l).getD (g b)
 | [],g,_=>rfl
 |e::l,g,h=>by
  rw[List.pairwise_cons] at h
  rw[List.foldl_cons,QG l _ h.2,Df]
  by_cases hc:e.lo≤(b:Int)∧(b:Int)≤e.hi
  ·rw[if_pos hc]
   have:Df (b:Int) l=none:=by
    cases hs:Df (b:Int) l with
    |none=>rfl
    |some t=>
     obtain⟨x,hx,h1,h2,_⟩:=cw hs
     have:=h.1 x hx
     omega
   rw[this]
   show zu g e b=e.to
   unfold zu;rw[if_pos hc]
  ·rw[if_neg hc]
   have:zu g e b=g b:=by unfold zu;rw[if_neg hc]
   rw[this]
def Ik (l:List Oe) (b:Nat):Int:=(Df (b:Int) l).getD (-2)
structure Sn (l:List Oe):Prop where
 RB:∀ e∈l,0≤e.lo∧e.lo≤e.hi∧e.hi < 256∧ -1≤e.to∧e.to≤64
 ord:l.Pairwise (fun a b=>a.hi < b.lo)
def b8 (g:Nat→Int):ba:= .box (cellsOf 256 fun b=> .pv (.int .i8 (g b)))
theorem Nx {n:Nat} {g g':Nat→AV} (h:∀ b,b < n→g b=g' b):cellsOf n g=cellsOf n g':=by
 unfold cellsOf
 exact List.map_congr_left fun b hb=>h b (List.mem_range.1 hb)
theorem Tt {g g':Nat→Int} (h:∀ b,b < 256→g b=g' b):b8 g=b8 g':=by
 unfold b8;rw[Nx fun b hb=>by rw[h b hb]]
theorem kX (g:Nat→Int) (n:Nat):ma n (b8 g)=some (b8 g):=by
 have:=Fo n ((List.range 256).map fun b=>PV.int .i8 (g b))
 rw[List.map_map] at this
 exact this
theorem wg {H:List ba} {id:Nat} {c:List AV} (h:H[id]? =some (.box c)) (d o:Nat):place H d (.ptr id o)=some (.ptr id (o+d)):=by simp only[place,h]
theorem tJ {H:List ba} {id:Nat} {g:Nat→Int} (h:H[id]? =some (b8 g)) (d:Nat):place H d (.ptr id 0)=some (.ptr id d):=by
 rw[wg h,Nat.zero_add]
theorem YI {H:List ba} {id i:Nat} {g:Nat→Int} (h:H[id]? =some (b8 g)) (hi:i < 256) (v:Int):Ra H 1 (.ptr id i) (.pv (.int .i8 v))=some (H.set id (b8 fun b=>if b=i then v else g b)):=by
 have e:cellsOf 256 (Iv (fun b=>AV.pv (.int .i8 (g b))) i (.pv (.int .i8 v)))=cellsOf 256 (fun b=> .pv (.int .i8 (if b=i then v else g b))):=by
  refine Nx fun b _=> ?_
  unfold Iv;split <;> rfl
 simp only[Ra,AV.cells,PV.cells,List.map_cons,List.map_nil,List.length_cons,List.length_nil,List.all_cons,AV.one,List.all_nil,Bool.and_self,and_self,if_true,h,b8,zg]
 rw[if_pos (by omega)]
 simp only[na,nB,e]
theorem fW {n:Int} (h0: -128≤n) (h1:n≤127):IntKind.i8.wrap n=n:=by
 unfold IntKind.wrap
 simp[IntKind.signed,IntKind.bits]
 omega
section
variable {call:Za} {A:List ba} (hA:Ng A)
include hA
theorem Hz (g:Nat→Int) {n:Nat} (hn:A.length≤n):∀ o∈A++[b8 g],ma n o=some o:=by
 intro o ho
 rcases List.mem_append.1 ho with h | h
 ·exact hA n hn o h
 ·rw[List.mem_singleton] at h;subst h;exact kX g n
theorem ES {E:Tr} {tb:Nat} {L S:PV} {x y:PV} {g0:Nat→Int} (htb:tb < A.length) (h8:E.get 8= .ptr tb 0) (h12:E.get 12= .pv L) (h13:E.get 13= .ptr A.length 0) (h101:E.get 101= .pv S) (h102:E.get 102= .pv x) (h103:E.get 103= .pv y) (h108:E.get 108= .pv (i64 0)):
 Td (fun r=>r.1.stop=true∧∃ E',r=(.exit 4,⟨E',A++[b8 fun _=> -2]⟩)∧∀ t∈[8,12,13,101,102,103],E'.get t=E.get t)
  (ta call (.loop [8,12,13,101,102,103,108] xj) ⟨E,A++[b8 g0]⟩):=by
 have hcut:∀ t∈[8,12,13,101,102,103],(E.get t).cut (A.length+1) deep=some (E.get t):=by
  intro t ht
  simp only[List.mem_cons,List.not_mem_nil,or_false] at ht
  rcases ht with rfl | rfl | rfl | rfl | rfl | rfl <;> simp only[h8,h12,h13,h101,h102,h103,Ia] <;> exact Tu (by omega)
 refine Un (fun i t=>(∀ u∈[8,12,13,101,102,103],t.env.get u=E.get u)∧t.env.get 108= .pv (i64 i)∧t.H=A++[b8 fun b=>if b < i then -2 else g0 b]) 256 (by unfold oa;omega) ?_ ?_ ?_
 ·refine Xg.all rfl (by rw[List.length_append];exact Hz hA g0 (by simp)) ?_ fun E' hE=>⟨fun u hu=>hE u (by simp at hu ⊢;omega),by rw[hE 108 (by simp),h108];rfl,by simp⟩
  intro t ht
  rw[List.length_append]
  by_cases h:t=108
  ·subst h;rw[h108,Ia]
  ·exact hcut t (by simp at ht ⊢;omega)
 ·rintro i ⟨E1,H1⟩ hi ⟨k1,k2,k3⟩
  simp only at k1 k2 k3
  subst k3
  have g13:=k1 13 (by simp)
  rw[h13] at g13
  have e1:decide ((i:Int) < 256)=true:=Da (by omega)
  have t1:IntKind.i64.wrap ((i:Int)+1)=((i+1:Nat):Int):=mj (by omega)
  have hg:=Jj A (b8 fun b=>if b < i then -2 else g0 b)
  have p1:=tJ hg i
  have s1:=YI hg hi (-2)
  rw[Rn] at s1
  have hid:(i < 256)=True:=eq_true hi
  have hc:b8 (fun b=>if b=i then -2 else if b < i then -2 else g0 b)=b8 (fun b=>if b < i+1 then -2 else g0 b):=Tt fun b _=>by
   by_cases h1:b=i
   ·rw[if_pos h1,if_pos (by omega)]
   ·rw[if_neg h1]
    by_cases h2:b < i
    ·rw[if_pos h2,if_pos (by omega)]
    ·rw[if_neg h2,if_neg (by omega)]
  rw[hc] at s1
  generalize hQ:RQ _ _ _ _=Q
  simp -implicitDefEqProofs only[SX,sevalprocAttr,xj,k2,g13,e1,t1,hid,p1,s1]
  subst hQ
  rw[Xl]
  refine Xg.all (by simp) (by rw[List.length_append];exact Hz hA _ (by simp)) ?_ fun E' hE=>⟨fun u hu=> ?_,?_,rfl⟩
  ·intro t ht
   rw[List.length_append]
   by_cases h:t=108
   ·subst h;simp[Tr.aa,Ia]
   ·have hm:t∈[8,12,13,101,102,103]:=by simp at ht ⊢;omega
    have:=k1 t hm
    have h2:=hcut t hm
    simp only[List.mem_cons,List.not_mem_nil,or_false] at hm
    rcases hm with rfl | rfl | rfl | rfl | rfl | rfl <;> simp only[Tr.aa] <;> simp only[this] <;> simpa using h2
  ·rw[hE u (by simp at hu ⊢;omega),←k1 u hu]
   simp only[List.mem_cons,List.not_mem_nil,or_false] at hu
   rcases hu with rfl | rfl | rfl | rfl | rfl | rfl <;> simp[Tr.aa]
  ·rw[hE 108 (by simp)];simp[Tr.aa]
 ·rintro⟨E1,H1⟩ ⟨k1,k2,k3⟩
  simp only at k1 k2 k3
  subst k3
  have e1:decide (((256:Nat):Int) < 256)=false:=Ha (by omega)
  generalize hQ:(fun r:Ex×St=>r.1.stop=true∧_)=Q
  simp -implicitDefEqProofs only[SX,sevalprocAttr,xj,k2,e1]
  subst hQ
  rw[Tt (g':=fun _=> -2) fun b hb=>if_pos hb]
  refine⟨rfl,_,rfl,fun t ht=> ?_⟩
  ·rw[← k1 t ht]
   simp only[List.mem_cons,List.not_mem_nil,or_false] at ht
   rcases ht with rfl | rfl | rfl | rfl | rfl | rfl <;> simp[Tr.aa]
def Zz (e:Oe):ba:= .box [.pv (i64 e.lo),.pv (i64 e.hi),.pv (i64 e.to)]
omit hA in
theorem FU (e:Oe) (n:Nat):ma n (Zz e)=some (Zz e):=Fo n [i64 e.lo,i64 e.hi,i64 e.to]
theorem DU {E:Tr} {tb:Nat} {L S:PV} {x y u v:PV} {g0:Nat→Int} {e:Oe} (he:0≤e.lo∧e.lo≤e.hi∧e.hi < 256∧ -1≤e.to∧e.to≤64) (htb:tb < A.length) (h8:E.get 8= .ptr tb 0) (h13:E.get 13= .ptr A.length 0) (h16:E.get 16= .ptr (A.length+1) 0) (h17:E.get 17= .pv (i64 e.lo))
 (h101:E.get 101= .pv S) (h102:E.get 102= .pv x) (h103:E.get 103= .pv y) (h114:E.get 114= .pv L) (h115:E.get 115= .pv u) (h116:E.get 116= .pv v):
 Td (fun r=>r.1.stop=true∧∃ E',r=(.exit 8,⟨E',(A++[b8 (zu g0 e)])++[Zz e]⟩)∧∀ t∈[8,13,101,102,103,114,115,116],E'.get t=E.get t)
  (ta call (.loop [8,13,16,17,101,102,103,114,115,116] Ij) ⟨E,(A++[b8 g0])++[Zz e]⟩):=by
 have hcut:∀ t∈[8,13,16,101,102,103,114,115,116],(E.get t).cut (A.length+2) deep=some (E.get t):=by
  intro t ht
  simp only[List.mem_cons,List.not_mem_nil,or_false] at ht
  rcases ht with rfl | rfl | rfl | rfl | rfl | rfl | rfl | rfl | rfl <;> simp only[h8,h13,h16,h101,h102,h103,h114,h115,h116,Ia] <;> exact Tu (by omega)
 have hgood:∀ g,∀ o∈(A++[b8 g])++[Zz e],ma (A.length+2) o=some o:=by
  intro g o ho
  rcases List.mem_append.1 ho with h | h
  ·exact Hz hA g (by omega) o h
  ·rw[List.mem_singleton] at h;subst h;exact FU e _
 have hlen:∀ g,((A++[b8 g])++[Zz e]).length=A.length+2:=fun g=>by simp
 refine Un (fun i t=>(∀ u∈[8,13,16,101,102,103,114,115,116],t.env.get u=E.get u)∧t.env.get 17= .pv (i64 (e.lo+i))∧t.H=(A++[b8 fun b=>if e.lo≤(b:Int)∧(b:Int) < e.lo+i then e.to else g0 b])++[Zz e]) (e.hi - e.lo+1).toNat (by unfold oa;omega) ?_ ?_ ?_
 ·refine Xg.all rfl (by rw[hlen];exact hgood g0) ?_ fun E' hE=>⟨fun u hu=>hE u (by simp at hu ⊢;omega),by rw[hE 17 (by simp),h17];simp,?_⟩
  ·intro t ht
   rw[hlen]
   by_cases h:t=17
   ·subst h;rw[h17,Ia]
   ·exact hcut t (by simp at ht ⊢;omega)
  ·show _=_
   rw[Tt (g:=fun b=>if e.lo≤(b:Int)∧(b:Int) < e.lo+((0:Nat):Int) then e.to else g0 b) (g':=g0) fun b _=>if_neg (by omega)]
 ·rintro i ⟨E1,H1⟩ hi ⟨k1,k2,k3⟩
  simp only at k1 k2 k3
  subst k3
  have g13:=k1 13 (by simp)
  rw[h13] at g13
  have g16:=k1 16 (by simp)
  rw[h16] at g16
  have e1:decide (e.lo+(i:Int)≤e.hi)=true:=Da (by omega)
  have t1:IntKind.i64.wrap (e.lo+(i:Int)+1)=e.lo+((i+1:Nat):Int):=by rw[Ba (by omega)];omega
  have t2:IntKind.i8.wrap e.to=e.to:=fW (by omega) (by omega)
  generalize hgi:(fun b:Nat=>if e.lo≤(b:Int)∧(b:Int) < e.lo+i then e.to else g0 b)=gi
  have hg:((A++[b8 gi])++[Zz e])[A.length]? =some (b8 gi):=by rw[List.getElem?_append_left (by simp)];exact Jj _ _
  have hg2:((A++[b8 gi])++[Zz e])[A.length+1]? =some (Zz e):=by
   have:=Jj (A++[b8 gi]) (Zz e)
   rw[List.length_append] at this;exact this
  have p1:=tJ hg (e.lo+(i:Int)).toNat
  have p2:=fun d=>wg hg2 d 0
  have l1:ya ((A++[b8 gi])++[Zz e]) false 1 (.ptr (A.length+1) 1)=some (.pv (i64 e.hi)):=by simp only[ya,hg2];rfl
  have l2:ya ((A++[b8 gi])++[Zz e]) false 1 (.ptr (A.length+1) 2)=some (.pv (i64 e.to)):=by simp only[ya,hg2];rfl
  have s1:=YI hg (i:=(e.lo+(i:Int)).toNat) (by omega) e.to
  have hset:((A++[b8 gi])++[Zz e]).set A.length (b8 fun b=>if b=(e.lo+(i:Int)).toNat then e.to else gi b)=(A++[b8 fun b=>if e.lo≤(b:Int)∧(b:Int) < e.lo+((i+1:Nat):Int) then e.to else g0 b])++[Zz e]:=by
   rw[List.set_append_left _ _ (by simp),Rn]
   congr 3
   refine Tt fun b _=> ?_
   subst hgi
   by_cases h1:b=(e.lo+(i:Int)).toNat
   ·rw[if_pos h1,if_pos (by omega)]
   ·rw[if_neg h1]
    dsimp only
    by_cases h2:e.lo≤(b:Int)∧(b:Int) < e.lo+i
    ·rw[if_pos h2,if_pos (by omega)]
    ·rw[if_neg h2,if_neg (by omega)]
  rw[hset] at s1
  have hid:(0≤e.lo+(i:Int)∧e.lo+(i:Int) < ((256:Nat):Int))=True:=eq_true (by omega)
  generalize (A++[b8 gi])++[Zz e]=HH at *
  generalize hQ:RQ _ _ _ _=Q
  simp -implicitDefEqProofs only[SX,sevalprocAttr,Ij,k2,g13,g16,e1,t1,t2,hid,p1,p2,l1,l2,s1]
  subst hQ
  rw[Xl]
  refine Xg.all (by simp) (by rw[hlen];exact hgood _) ?_ fun E' hE=>⟨fun u hu=> ?_,?_,rfl⟩
  ·intro t ht
   rw[hlen]
   by_cases h:t=17
   ·subst h;simp[Tr.aa,Ia]
   ·have hm:t∈[8,13,16,101,102,103,114,115,116]:=by simp at ht ⊢;omega
    have:=k1 t hm
    have h2:=hcut t hm
    simp only[List.mem_cons,List.not_mem_nil,or_false] at hm
    rcases hm with rfl | rfl | rfl | rfl | rfl | rfl | rfl | rfl | rfl <;> simp only[Tr.aa] <;> simp only[this] <;> simpa using h2
  ·rw[hE u (by simp at hu ⊢;omega),←k1 u hu]
   simp only[List.mem_cons,List.not_mem_nil,or_false] at hu
   rcases hu with rfl | rfl | rfl | rfl | rfl | rfl | rfl | rfl | rfl <;> simp[Tr.aa]
  ·rw[hE 17 (by simp)];simp[Tr.aa]
 ·rintro⟨E1,H1⟩ ⟨k1,k2,k3⟩
  simp only at k1 k2 k3
  subst k3
  have g16:=k1 16 (by simp)
  rw[h16] at g16
  rw[show e.lo+((e.hi - e.lo+1).toNat:Int)=e.hi+1 by omega] at k2
  have e1:decide (e.hi+1≤e.hi)=false:=Ha (by omega)
  have hb:b8 (fun b:Nat=>if e.lo≤(b:Int)∧(b:Int) < e.lo+((e.hi - e.lo+1).toNat:Int) then e.to else g0 b)=b8 (zu g0 e):=Tt fun b _=>by
   unfold zu
   by_cases h:e.lo≤(b:Int)∧(b:Int)≤e.hi
   ·rw[if_pos h,if_pos (by omega)]
   ·rw[if_neg h,if_neg (by omega)]
  rw[hb]
  have hg2:((A++[b8 (zu g0 e)])++[Zz e])[A.length+1]? =some (Zz e):=by
   have:=Jj (A++[b8 (zu g0 e)]) (Zz e)
   rw[List.length_append] at this;exact this
  have p2:=fun d=>wg hg2 d 0
  have l1:ya ((A++[b8 (zu g0 e)])++[Zz e]) false 1 (.ptr (A.length+1) 1)=some (.pv (i64 e.hi)):=by simp only[ya,hg2];rfl
  generalize (A++[b8 (zu g0 e)])++[Zz e]=HH at *
  generalize hQ:(fun r:Ex×St=>r.1.stop=true∧_)=Q
  simp -implicitDefEqProofs only[SX,sevalprocAttr,Ij,k2,g16,e1,p2,l1]
  subst hQ
  refine⟨rfl,_,rfl,fun t ht=> ?_⟩
  ·rw[← k1 t (by simp at ht ⊢;omega)]
   simp only[List.mem_cons,List.not_mem_nil,or_false] at ht
   rcases ht with rfl | rfl | rfl | rfl | rfl | rfl | rfl | rfl <;> simp[Tr.aa]
end
end Go.AM.B1
namespace Go.AM.B1
open Go.AM Go.AM.So
section
variable {call:Za} {A:List ba} (hA:Ng A)
include hA
theorem jU {E:Tr} {tb:Nat} {L S:PV} {x y:PV} {es:List Oe} (Aa:Sn es) (hL:Di 3 L (es.map ry)) (hlen:es.length≤256) (htb:tb < A.length) (h8:E.get 8= .ptr tb 0) (h13:E.get 13= .ptr A.length 0)
 (h101:E.get 101= .pv S) (h102:E.get 102= .pv x) (h103:E.get 103= .pv y) (h114:E.get 114= .pv L) (h115:E.get 115= .pv (i64 es.length)) (h116:E.get 116= .pv (i64 0)):
 Td (fun r=>r.1.stop=true∧∃ E',r=(.exit 6,⟨E',A++[b8 (Ik es)]⟩)∧∀ t∈[8,13,101,102,103],E'.get t=E.get t)
  (ta call (.loop [8,13,101,102,103,114,115,116] Dj) ⟨E,A++[b8 fun _=> -2]⟩):=by
 have hcut:Fit (A.length+1) [8,13,101,102,103,114,115] E:=
  .cons h8 (Tu (by omega)) (.cons h13 (Tu (by omega)) (.cons h101 Ia (.cons h102 Ia (.cons h103 Ia (.cons h114 Ia (.cons h115 Ia (.nil _ _)))))))
 refine Un (fun i t=>Zd [8,13,101,102,103,114,115] E t.env∧t.env.get 116= .pv (i64 i)∧t.H=A++[b8 ((es.take i).foldl zu fun _=> -2)]) es.length (by unfold oa;omega) ?_ ?_ ?_
 ·rw[List.length_append]
  exact Xg.all (by simp) (Hz hA _ (by simp)) (Fit.sub (.cons h116 Ia hcut) rfl) fun E' hE=>⟨Zd.sub hE rfl,by rw[hE 116 (by simp),h116];rfl,rfl⟩
 ·rintro i ⟨E1,H1⟩ hi ⟨k1,k2,k3⟩
  simp only at k1 k2 k3
  subst k3
  have g8:=k1 8 (by simp)
  rw[h8] at g8
  have g13:=k1 13 (by simp)
  rw[h13] at g13
  have g101:=k1 101 (by simp)
  rw[h101] at g101
  have g102:=k1 102 (by simp)
  rw[h102] at g102
  have g103:=k1 103 (by simp)
  rw[h103] at g103
  have g114:=k1 114 (by simp)
  rw[h114] at g114
  have g115:=k1 115 (by simp)
  rw[h115] at g115
  have hle:=hL.lit (i:=i) (by simpa using hi)
  have hea:=Aa.RB es[i] (List.getElem_mem hi)
  have htk:(es.take (i+1)).foldl zu (fun _=> -2)=zu ((es.take i).foldl zu fun _=> -2) es[i]:=by
   rw[List.take_succ_eq_append_getElem hi,List.foldl_append];rfl
  have a1:qa (A++[b8 ((es.take i).foldl zu fun _=> -2)]) 3 (.pv L) (i:Int)=some (.pv (.rp [i64 es[i].lo,i64 es[i].hi,i64 es[i].to] 0)):=by
   rw[hle]
   simp only[qa]
   rw[if_pos ⟨trivial,by unfold Fa;rw[List.length_map];omega⟩,Int.toNat_natCast,List.getElem?_map,List.getElem?_eq_getElem hi];rfl
  rw[htk]
  generalize (es.take i).foldl zu (fun _=> -2)=g0 at *
  generalize es[i]=e at *
  have e1:decide ((i:Int) < (es.length:Int))=true:=Da (by omega)
  have t1:IntKind.i64.wrap ((i:Int)+1)=((i+1:Nat):Int):=mj (by omega)
  have r3:∀ H (x y z:PV),ya H true 3 (.pv (.rp [x,y,z] 0))=some (.pv (.agg [x,y,z])):=fun H x y z=>rfl
  have hln:(A++[b8 g0]).length=A.length+1:=by simp
  have s1:Ra ((A++[b8 g0])++[.box [.pv (i64 0),.pv (i64 0),.pv (i64 0)]]) 3 (.ptr (A.length+1) 0) (.pv (.agg [i64 e.lo,i64 e.hi,i64 e.to]))=some ((A++[b8 g0])++[Zz e]):=by
   have:=Rn (A++[b8 g0]) (.box [.pv (i64 0),.pv (i64 0),.pv (i64 0)]) (Zz e)
   have hg:=Jj (A++[b8 g0]) (.box [.pv (i64 0),.pv (i64 0),.pv (i64 0)])
   rw[hln] at this hg
   simp only[Ra,hg]
   rw[if_pos (by simp[AV.cells,PV.cells,AV.one]),if_pos (by simp)]
   rw[← this];rfl
  have hg2:((A++[b8 g0])++[Zz e])[A.length+1]? =some (Zz e):=by
   have:=Jj (A++[b8 g0]) (Zz e)
   rw[hln] at this;exact this
  have p2:=fun d=>wg hg2 d 0
  have l0:ya ((A++[b8 g0])++[Zz e]) false 1 (.ptr (A.length+1) 0)=some (.pv (i64 e.lo)):=by simp only[ya,hg2];rfl
  have hed:=fun (E2:Tr) (q8:E2.get 8= .ptr tb 0) (q13:E2.get 13= .ptr A.length 0) (q16:E2.get 16= .ptr (A.length+1) 0) (q17:E2.get 17= .pv (i64 e.lo)) (q101:E2.get 101= .pv S) (q102:E2.get 102= .pv x) (q103:E2.get 103= .pv y) (q114:E2.get 114= .pv L) (q115:E2.get 115= .pv (i64 es.length)) (q116:E2.get 116= .pv (i64 i))=>
   DU (call:=call) hA (g0:=g0) hea htb q8 q13 q16 q17 q101 q102 q103 q114 q115 q116
  generalize hHH:(A++[b8 g0])++[Zz e]=HH at *
  generalize hHK:(A++[b8 g0])++[ba.box [.pv (i64 0),.pv (i64 0),.pv (i64 0)]]=HK at *
  generalize hQ:RQ _ _ _ _=Q
  simp -implicitDefEqProofs only[SX,sevalprocAttr,Dj,k2,g114,g115,e1,a1,r3,hln,hHK,s1,p2,l0]
  generalize hEE:(Tr.set _ 17 _:Tr)=E2
  have q8:E2.get 8= .ptr tb 0:=by rw[← hEE];simp[Tr.aa,g8]
  have q13:E2.get 13= .ptr A.length 0:=by rw[← hEE];simp[Tr.aa,g13]
  have q16:E2.get 16= .ptr (A.length+1) 0:=by rw[← hEE];simp[Tr.aa]
  have q17:E2.get 17= .pv (i64 e.lo):=by rw[← hEE];simp[Tr.aa]
  have q101:E2.get 101= .pv S:=by rw[← hEE];simp[Tr.aa,g101]
  have q102:E2.get 102= .pv x:=by rw[← hEE];simp[Tr.aa,g102]
  have q103:E2.get 103= .pv y:=by rw[← hEE];simp[Tr.aa,g103]
  have q114:E2.get 114= .pv L:=by rw[← hEE];simp[Tr.aa,g114]
  have q115:E2.get 115= .pv (i64 es.length):=by rw[← hEE];simp[Tr.aa,g115]
  have q116:E2.get 116= .pv (i64 i):=by rw[← hEE];simp[Tr.aa,k2]
  refine xa (hed E2 q8 q13 q16 q17 q101 q102 q103 q114 q115 q116) ?_
  rintro r ⟨_,E3,rfl,hE3⟩
  have z116:=hE3 116 (by simp)
  rw[q116] at z116
  have kE:Zd [8,13,101,102,103,114,115] E E3:=by
   refine Zd.trans ?_ (Zd.sub hE3 rfl)
   rw[← hEE]
   repeat refine Zd.set ?_ rfl
   exact k1
  simp -implicitDefEqProofs only[SX,sevalprocAttr,z116,t1]
  subst hQ
  rw[Xl]
  have kF:∀ v w,Zd [8,13,101,102,103,114,115] E ((E3.set 133 v).set 116 w):=fun v w=>Zd.set (Zd.set kE rfl) rfl
  rw[List.length_append]
  exact Xg.front (by simp) (Hz hA _ (by simp)) (Fit.sub (.cons (t:=116) (by rw[Tr.aa,if_pos rfl]) Ia (hcut.Be (kF _ _))) rfl) fun E' hE=>⟨(kF _ _).trans (Zd.sub hE rfl),by rw[hE 116 (by simp),Tr.aa,if_pos rfl],rfl⟩
 ·rintro⟨E1,H1⟩ ⟨k1,k2,k3⟩
  simp only at k1 k2 k3
  subst k3
  have g115:=k1 115 (by simp)
  rw[h115] at g115
  have e1:decide ((es.length:Int) < (es.length:Int))=false:=Ha (by omega)
  rw[List.take_length,Tt (g:=es.foldl zu fun _=> -2) (g':=Ik es) fun b _=>QG es _ Aa.ord]
  generalize hQ:(fun r:Ex×St=>r.1.stop=true∧_)=Q
  simp -implicitDefEqProofs only[SX,sevalprocAttr,Dj,k2,g115,e1]
  subst hQ
  exact⟨rfl,_,rfl,Zd.set (Zd.sub k1 rfl) rfl⟩
end
end Go.AM.B1
namespace Go.AM.B1
open Go.AM Go.AM.So
section
variable {ss:List dc} {sets:List Al} {C:List (List Int)} (W:yl ss sets C) (hl:C.length=sets.length)
include W hl
theorem yl.gL {k:Nat} (hk:k < C.length):0≤cls C k:=((W.gy hl).Oo hk).1
theorem yl.dJ:∀ (w:List Nat) (i j:Nat),Bytes w→i < C.length→j < C.length→cls C i=cls C j→(runT C i w= -1↔runT C j w= -1)
 | [],i,j,_,_,_,_=>by
   show ((i:Int)= -1↔(j:Int)= -1)
   constructor <;> intro h <;> omega
 |x::w,i,j,hb,hi,hj,h=>by
  have hx:x < 256:=hb x (by simp)
  have hbw:Bytes w:=fun y hy=>hb y (by simp[hy])
  have hn:=(W.fH hl hi hj).1 h x hx
  have b1:=W.bound hl hi hx
  have b2:=W.bound hl hj hx
  rw[runT,runT,if_neg (by omega),if_neg (by omega),Int.toNat_natCast,Int.toNat_natCast]
  unfold aq at hn
  by_cases h1:0≤Dg C i x
  ·by_cases h2:0≤Dg C j x
   ·rw[if_pos h1,if_pos h2] at hn
    have:=yl.dJ w (Dg C i x).toNat (Dg C j x).toNat hbw (by omega) (by omega) hn
    rw[Int.toNat_of_nonneg h1,Int.toNat_of_nonneg h2] at this
    exact this
   ·rw[if_pos h1,if_neg h2] at hn
    have:=W.gL hl (k:=(Dg C i x).toNat) (by omega)
    omega
  ·by_cases h2:0≤Dg C j x
   ·rw[if_neg h1,if_pos h2] at hn
    have:=W.gL hl (k:=(Dg C j x).toNat) (by omega)
    omega
   ·rw[if_neg h1,if_neg h2] at hn
    rw[hn]
theorem yl.path:∀ (m k:Nat),k≤m→k < C.length→∃ w,Bytes w∧runT C 0 w=(k:Int)
 |0,k,hm,hk=>by
  have:k=0:=by omega
  subst this
  exact⟨[],by simp[Bytes],rfl⟩
 |m+1,k,hm,hk=>by
  rcases Nat.eq_zero_or_pos k with rfl | h0
  ·exact⟨[],by simp[Bytes],rfl⟩
  ·obtain⟨j,x,hj,hjC,hx,hn⟩:=W.reach k h0 (by omega)
   obtain⟨w,hw,hr⟩:=yl.path m j (by omega) hjC
   refine⟨w++[x],?_,?_⟩
   ·intro y hy
    rcases List.mem_append.1 hy with h | h
    ·exact hw y h
    ·simp at h;subst h;exact hx
   ·rw[lG,hr,if_neg (by omega),Int.toNat_natCast,hn]
end
theorem mem_some {l:List (Int×Int)} (h:zc l):∃ x,x < 256∧Uf l x=true:=by
 obtain⟨p,hp⟩:=List.exists_mem_of_ne_nil _ h.1
 have h1:=an h.2 p hp
 refine⟨p.1.toNat,by omega,?_⟩
 rw[Uf,h.2,Bool.true_and,Pp,Int.toNat_of_nonneg h1.1]
 exact⟨p,hp,Int.le_refl _,h1.2.1⟩
theorem vP {s:dc} (h:∀ l∈s.parts,zc l):∃ w,Bytes w∧Full s w:=by
 have key:∀ (ls:List (List (Int×Int))),(∀ l∈ls,zc l)→∃ w:List Nat,w.length=ls.length∧(∀ x∈w,x < 256)∧∀ (j x:Nat),w[j]? =some x→∃ l,ls[j]? =some l∧Uf l x=true:=by
  intro ls
  induction ls with
  |nil=>exact fun _=>⟨[],rfl,by simp,by simp⟩
  |cons l ls ih=>
   intro h
   obtain⟨x,hx,hm⟩:=mem_some (h l (by simp))
   obtain⟨w,h1,h2,h3⟩:=ih fun l' hl'=>h l' (by simp[hl'])
   refine⟨x::w,by simp[h1],?_,?_⟩
   ·intro y hy
    rcases List.mem_cons.1 hy with rfl | hy
    ·exact hx
    ·exact h2 y hy
   ·intro j y hj
    cases j with
    |zero=>simp at hj;subst hj;exact⟨l,rfl,hm⟩
    |succ j=>simp at hj;exact h3 j y hj
 obtain⟨w,h1,h2,h3⟩:=key s.parts h
 refine⟨w,h2,?_,h1⟩
 intro j x hj
 obtain⟨l,h4,h5⟩:=h3 j x hj
 unfold Zn
 rw[h4];exact h5
theorem rU {ss:List dc} (h:ss≠[]):∃ s∈ss,∀ q∈ss,q.parts.length≤s.parts.length:=by
 induction ss with
 |nil=>exact absurd rfl h
 |cons a ss ih=>
  by_cases hs:ss=[]
  ·subst hs;exact⟨a,by simp,by simp⟩
  ·obtain⟨s,h1,h2⟩:=ih hs
   rcases Nat.lt_or_ge a.parts.length s.parts.length with h3 | h3
   ·refine⟨s,by simp[h1],fun q hq=> ?_⟩
    rcases List.mem_cons.1 hq with rfl | hq
    ·omega
    ·exact h2 q hq
   ·refine⟨a,by simp,fun q hq=> ?_⟩
    rcases List.mem_cons.1 hq with rfl | hq
    ·exact Nat.le_refl _
    ·exact Nat.le_trans (h2 q hq) h3
theorem yl.MB {ss:List dc} {sets:List Al} {C:List (List Int)} (Aa:Hc ss) (hpre:gh ss) (W:yl ss sets C) (hl:C.length=sets.length) {k:Nat} (h0:0 < k) (hk:k < C.length):cls C 0≠cls C k:=by
 intro he
 obtain⟨w,hw,hr⟩:=W.path hl k k (Nat.le_refl _) hk
 have hwne:w≠[]:=by
  rintro rfl
  have:(0:Int)=(k:Int):=hr
  omega
 have hne:ss≠[]:=by
  rintro rfl
  rcases yC Aa hpre W hl _ w rfl hw with⟨h1,_⟩ | ⟨_,_,h1,_⟩ | ⟨h1,_⟩
  ·omega
  ·rcases h1 with h1 | ⟨s,hs,_⟩
   ·exact hwne h1
   ·cases hs
  ·omega
 obtain⟨s,hs,hmax⟩:=rU hne
 obtain⟨u,hu,hf⟩:=vP (Aa.As s hs).parts
 have h1:runT C 0 u= -1:=by
  rcases yC Aa hpre W hl _ u rfl hu with⟨h1,_⟩ | ⟨_,_,_,h1⟩ | ⟨_,_,h1⟩
  ·exact h1
  ·exact absurd hf (h1 s hs)
  ·exact absurd hf.1 (h1 s hs)
 have h2:runT C k u= -1:=(W.dJ hl u 0 k hu (by omega) hk he).1 h1
 have h3:runT C 0 (w++u)= -1:=by rw[MC,hr];exact h2
 have hb:Bytes (w++u):=by
  intro y hy
  rcases List.mem_append.1 hy with h | h
  ·exact hw y h
  ·exact hu y h
 rcases yC Aa hpre W hl _ (w++u) rfl hb with⟨_,q,hq,hfq⟩ | ⟨h4,_⟩ | ⟨h4,_⟩
 ·have h5:=hmax q hq
  have h6:=hfq.2
  have h7:=hf.2
  have h8:0 < w.length:=by
   cases w with
   |nil=>exact absurd rfl hwne
   |cons=>simp
  rw[List.length_append] at h6
  omega
 ·omega
 ·omega
end Go.AM.B1
namespace Go.AM.B1
open Go.AM Go.AM.So
attribute [local irreducible] Td
abbrev vX (v:PV) (n i:Int):Tr:=(((Tr.lf.set 5 (.pv (i64 i))).set 4 (.own 0 i.toNat)).set 3 (.pv (i64 n))).set 0 (.pv v)
def bn (n i:Nat):List AV:=(List.range i).map fun k=> .own (2 * k+1) n
theorem TM (n i:Nat):(bn n i).length=i:=by rw[bn,List.length_map,List.length_range]
theorem lJ (n i:Nat):bn n (i+1)=bn n i++[.own (2 * i+1) n]:=by
 rw[bn,List.range_succ,List.map_append];rfl
theorem eN {n i m:Nat} (h:2 * i+1≤m) (fl:Nat) (nl:Bool):ma m (.seq 1 false (bn n i) fl nl)=some (.seq 1 false (bn n i) fl nl):=by
 have:(bn n i).all (AV.Be m deep)=true:=by
  rw[List.all_eq_true]
  intro v hv
  obtain⟨k,hk,rfl⟩:=List.mem_map.1 hv
  have:k < i:=by simpa using hk
  show decide (2 * k+1 < m)=true
  exact decide_eq_true (by omega)
 simp[ma,this]
structure HF (H:List ba) (n i:Nat):Prop where
 len:H.length=2 * i+1
 hd:∃ nl,H[0]? =some (.seq 1 false (bn n i) 0 nl)∧(nl=true→i=0)
 row:∀ k,k < i→H[2 * k+1]? =some (PA n (fun _=>false) 0)
 xI:Ng H
theorem HF.step {H:List ba} {n i:Nat} (h:HF H n i) (Y:ba) (hY:Y= .seq 1 false [.own (2 * i+1) n] 0 false):
 HF ((H++[PA n (fun _=>false) 0]++[Y]).set 0 (.seq 1 false (bn n (i+1)) 0 false)) n (i+1):=by
 have hl:=h.len
 refine⟨by simp[hl];omega,⟨false,?_,fun h=>by cases h⟩,?_,?_⟩
 ·rw[List.getElem?_set_self (by simp)]
 ·intro k hk
  rw[List.getElem?_set_ne (by omega)]
  rcases Nat.lt_or_ge k i with h1 | h1
  ·rw[List.getElem?_append_left (by simp;omega),List.getElem?_append_left (by omega)]
   exact h.row k h1
  ·have:k=i:=by omega
   subst this
   rw[List.getElem?_append_left (by simp;omega),List.getElem?_append_right (by omega),hl,Nat.sub_self]
   rfl
 ·intro m hm o ho
  simp only[List.length_set,List.length_append,List.length_singleton,hl] at hm
  rcases List.mem_or_eq_of_mem_set ho with h1 | h1
  ·rw[List.mem_append,List.mem_append,List.mem_singleton,List.mem_singleton] at h1
   rcases h1 with (h1 | h1) | h1
   ·exact h.xI m (by omega) o h1
   ·subst h1;exact QI _ _ _ _
   ·subst h1 hY
    have:([AV.own (2 * i+1) n]).all (AV.Be m deep)=true:=by
     show (decide (2 * i+1 < m)&&true)=true
     rw[decide_eq_true (by omega)];rfl
    simp[ma,this]
  ·subst h1;exact eN (by omega) _ _
theorem QM (n:Nat):Lj [.bool false] n=(Mf n fun _=>false).map AV.pv:=by
 have:∀ n,Lj [.bool false] n=List.replicate n (.pv (.bool false)):=by
  intro n
  induction n with
  |zero=>rfl
  |succ n ih=>rw[Lj,ih];rfl
 rw[this,←yE,List.map_replicate]
theorem GR (call:Za) (v:PV) (n:Nat) (hn:n≤64):
 Td (fun r=>∃ E H,r=(.exit 0,⟨E,H⟩)∧HF H n n∧E.get 0= .pv v∧E.get 3= .pv (i64 n)∧E.get 4= .own 0 n)
  (gb (fa (ta call Ze) (fun s=>some (tidy [0,3,4,5] s))) oa ⟨vX v n 0,[.seq 1 false [] 0 true]⟩):=by
 refine xa (Nb (g:=fa (ta call Ze) (fun s=>some (tidy [0,3,4,5] s)))
  (fun i t=>∃ H,t=⟨vX v n i,H⟩∧HF H n i)
  n (by unfold oa;omega) _ ⟨_,rfl,⟨rfl,⟨true,rfl,fun _=>rfl⟩,fun k h=>by omega,?_⟩⟩ ?_ ?_) (fun r h=>h.2)
 ·intro m hm o ho
  rw[List.mem_singleton] at ho
  subst ho;rfl
 ·rintro i t hi ⟨H,rfl,hM⟩
  have e1:decide ((i:Int) < (n:Int))=true:=Da (by omega)
  have t2:IntKind.i64.wrap ((i:Int)+1)=((i+1:Nat):Int):=Ba (by omega)
  have ti:((i:Int)).toNat=i:=by simp
  have ti1:(((i+1:Nat):Int)).toNat=i+1:=by simp
  have tn:((n:Int)).toNat=n:=by simp
  have hrep:=QM n
  have hl:=hM.len
  have hc:((0:Int)≤(n:Int)∧(n:Int)≤(n:Int)∧pb n 1)=True:=eq_true ⟨by omega,by omega,by unfold pb;omega⟩
  have hl1:(H++[ba.seq 1 false ((Mf n fun _=>false).map AV.pv) 0 false]).length=2 * i+2:=by simp[hl]
  obtain⟨nl,hd,hnl⟩:=hM.hd
  have hstep:=hM.step _ rfl
  have hap:ic (H++[ba.seq 1 false ((Mf n fun _=>false).map AV.pv) 0 false]++[ba.seq 1 false [AV.own (2 * i+1) n] 0 false]) true .own 1 false 24 (.own 0 i) (.own (2 * i+2) 1)=
   some (.own 0 (i+1),(H++[ba.seq 1 false ((Mf n fun _=>false).map AV.pv) 0 false]++[ba.seq 1 false [AV.own (2 * i+1) n] 0 false]).set 0 (.seq 1 false (bn n (i+1)) 0 false)):=by
   have g0:(H++[ba.seq 1 false ((Mf n fun _=>false).map AV.pv) 0 false]++[ba.seq 1 false [AV.own (2 * i+1) n] 0 false])[0]? =some (.seq 1 false (bn n i) 0 nl):=by
    rw[List.getElem?_append_left (by simp),List.getElem?_append_left (by omega)];exact hd
   have g1:(H++[ba.seq 1 false ((Mf n fun _=>false).map AV.pv) 0 false]++[ba.seq 1 false [AV.own (2 * i+1) n] 0 false])[2 * i+2]? =some (ba.seq 1 false [AV.own (2 * i+1) n] 0 false):=by
    rw[List.getElem?_append_right (by rw[hl1];exact Nat.le_refl _),hl1,Nat.sub_self];rfl
   simp only[ic,if_true,g0,Bj,g1,List.length_singleton]
   rw[if_pos ⟨trivial,trivial⟩]
   simp only[Option.bind_some]
   rw[if_pos ⟨trivial,by rw[TM];omega,by unfold pb;omega,rfl⟩,lJ]
   simp
  have hLN:LN (fun i t=>∃ H,t=⟨vX v n i,H⟩∧HF H n i) (fun r=>∃ E H,r=(.exit 0,⟨E,H⟩)∧HF H n n∧E.get 0= .pv v∧E.get 3= .pv (i64 n)∧E.get 4= .own 0 n) i
   (.norm,⟨vX v n (i+1:Nat),(H++[ba.seq 1 false ((Mf n fun _=>false).map AV.pv) 0 false]++[ba.seq 1 false [AV.own (2 * i+1) n] 0 false]).set 0 (.seq 1 false (bn n (i+1)) 0 false)⟩):=⟨_,rfl,hstep⟩
  generalize LN _ _ i=QQ at hLN ⊢
  generalize bn n (i+1)=ow at *
  simp -implicitDefEqProofs only[SP,WP,na,sevalprocAttr,-List.reduceReplicate,Ze,e1,t2,ti,ti1,tn,hc,hrep,hl,hl1,hap,tidy,Dc,vX]
  simp only[vX,ti1] at hLN
  exact hLN
 ·rintro t ⟨H,rfl,hM⟩
  have e1:decide ((n:Int) < (n:Int))=false:=Ha (by omega)
  have tn:((n:Int)).toNat=n:=by simp
  have hfin:∀ E,E.get 0= .pv v→E.get 3= .pv (i64 n)→E.get 4= .own 0 n→(Ex.exit 0,(⟨E,H⟩:St)).1.stop=true∧∃ E' H',(Ex.exit 0,(⟨E,H⟩:St))=(.exit 0,⟨E',H'⟩)∧HF H' n n∧E'.get 0= .pv v∧E'.get 3= .pv (i64 n)∧E'.get 4= .own 0 n:=fun E k0 k3 k4=>⟨rfl,E,H,rfl,hM,k0,k3,k4⟩
  generalize hQ:(fun r:Ex×St=>r.1.stop=true∧_)=Q
  simp -implicitDefEqProofs only[SX,sevalprocAttr,-List.reduceReplicate,Ze,e1,tn,vX]
  subst hQ
  exact hfin _ (by simp[Tr.aa]) (by simp[Tr.aa]) (by simp[Tr.aa])
theorem nH:∀ l:List PV,chunk 1 false l.length l=l
 | []=>rfl
 |a::l=>by simp only[List.length_cons,chunk,Bool.false_eq_true,if_false,List.headD_cons,List.drop_succ_cons,List.drop_zero,nH l]
theorem ZI {α β γ:Type} (f:β→Option γ) (g:α→β) (k:α→γ):∀ (l:List α),(∀ a∈l,f (g a)=some (k a))→Qa f (l.map g)=some (l.map k)
 | [],_=>rfl
 |a::l,h=>by
  rw[List.map_cons,Qa,h a (by simp),ZI f g k l (fun x hx=>h x (by simp[hx]))];rfl
def Rj (n:Nat) (f:Nat→Nat→Bool):PV:= .lit 1 ((List.range n).map fun i=> .lit 1 (Mf n (f i)))
theorem sr.Ub {H:List ba} {n:Nat} {f:Nat→Nat→Bool} (h:sr H n f):Go.AM.Ub H 6 (.own 0 n)=some (Rj n f):=by
 obtain⟨nl,hnl,h0⟩:=h.hd
 subst hnl
 have hrow:∀ k∈List.range n,Go.AM.Ub H 5 (.own (2 * k+1) n)=some (.lit 1 (Mf n (f k))):=by
  intro k hk
  obtain⟨fl,hf,h1⟩:=h.row k (by simpa using hk)
  simp only[Go.AM.Ub,h1,PA]
  rw[if_pos ⟨by rw[List.length_map,Gg];omega,rfl⟩,wC]
  simp only[Bool.false_eq_true,if_false,Option.map_some]
  have:=nH (Mf n (f k))
  rw[Gg] at this
  rw[this]
 simp only[Go.AM.Ub,h0]
 rw[if_pos ⟨by rw[QC];omega,rfl⟩,owns,ZI _ _ _ _ hrow]
 simp only[Bool.false_eq_true,if_false,Option.map_some,Rj]
 have:=nH ((List.range n).map fun i=>PV.lit 1 (Mf n (f i)))
 rw[List.length_map,List.length_range] at this
 rw[this]
theorem HF.AY {H:List ba} {n:Nat} (h:HF H n n) (hn:0 < n):sr H n fun _ _=>false:=by
 obtain⟨nl,h1,h2⟩:=h.hd
 refine⟨h.len,⟨nl,?_,h1⟩,fun k hk=>⟨0,by omega,h.row k hk⟩,h.xI⟩
 cases nl with
 |false=>rfl
 |true=>have:=h2 rfl;omega
theorem ZO {C:List (List Int)} (hC:GI C) (hn:0 < C.length) {D:Nat→Nat→Prop} (hD:FK C D):
 ∃ f,Vx C D f false∧ng [.lit 256 (C.map yi)]=some (Rj C.length f):=by
 have hl0:=GR (Ga (fun _=>none) 8) (.lit 256 (C.map yi)) C.length hC.sz
 have ln:Wb [] 0 (.pv (.lit 256 (C.map yi)))=some C.length:=by simp[Wb]
 have tn:((C.length:Int)).toNat=C.length:=by simp
 have g1:(0 < 1)=True:=by simp
 have hz:(0 < 2 * C.length+1)=True:=by simp
 have key:Td (fun r=>∃ f,Vx C D f false∧r=Rj C.length f) (ng [.lit 256 (C.map yi)]):=by
  have hl1:=fun {H} (hM:sr H C.length fun _ _=>false)=>QT (Ga (fun _=>none) 8) hC hD hM ⟨fun a b h=>(by cases h),fun a b=>rfl,fun h=>(by cases h)⟩
  generalize hQQ:(fun r:PV=>_)=QQ
  generalize (PV.lit 256 (C.map yi))=L at *
  simp -implicitDefEqProofs only[ng,SP,WP,na,sevalprocAttr,-List.reduceReplicate,Hj,ln,Vf,g1,Dp,xb,tidy,Dc]
  refine xa hl0 ?_
  rintro r ⟨E,H,rfl,hM,k0,k3,k4⟩
  have hM2:=hM.AY hn
  have hcut:=hM2.cut
  have hlen:=hM2.len
  have hl1':=hl1 hM2
  simp -implicitDefEqProofs only[SP,WP,na,sevalprocAttr,-List.reduceReplicate,xb,k0,k3,k4,hlen,hcut,hz,ga,za,AV.cut,wa]
  simp only[zV,tn] at hl1'
  refine xa hl1' ?_
  rintro r ⟨E,H,f,rfl,hM3,hK,k4⟩
  have hpv:=hM3.Ub
  simp -implicitDefEqProofs only[SP,WP,na,sevalprocAttr,-List.reduceReplicate,k4,hpv]
  subst hQQ
  exact⟨f,hK,rfl⟩
 obtain⟨r,h1,f,hK,rfl⟩:=Fc key
 exact⟨f,hK,h1⟩
end Go.AM.B1
namespace Go.AM.B1
open Go.AM
def CB:Na:=(jQ [Cv 92 13,jn 93 0 92,jK 94 .gtr 93 0,Cv 95 94,jT 96 95 (.km 13),jT 97 95 (.km 13),jT 98 95 (.kn 0 97),jT 99 95 (.kK .sub 98 1),jT 100 95 (.ki 3 96 99),jT 101 95 (.kf 2 100),jT 102 95 (.kl 1 101),jT 103 95 (.km 15),jT 104 95 (.kB .eql 102 103),ja 105 95 104,Cv 106 105,jT 107 106 (.km 13),jT 108 106 (.km 13),jT 109 106 (.kn 0 108),jT 110 106 (.kK .sub 109 1),jT 111 106 (.ki 3 107 110),jT 112 106 (.kf 1 111),jT 113 106 (.kl 1 112),jT 114 106 (.km 14),jT 115 106 (.kK .sub 114 1),jT 116 106 (.kB .eql 113 115),ja 117 106 116] (jC 117 (.region [Cv 118 13,Cv 119 13,jn 120 0 119,jK 121 .sub 120 1,Cv 122 14,ji 123 3 118 121,jf 124 1 123,jS 1 124 122]) (.region [Cv 125 13,Cv 126 14,Cv 127 14,Cv 128 15,Co 129 (.build [(.int .i64 0),(.int .i64 0),(.int .i64 0)] [(0,1,(.t 126)),(1,1,(.t 127)),(2,1,(.t 128))]),Co 130 (.Yb .lit 3 true 1 [(.int .i64 0),(.int .i64 0),(.int .i64 0)] [(0,(.t 129))]),Co 131 (.append true .own 3 true 24 (.t 125) (.t 130)),Cv 13 131])))
def tN:Na:=(jQ [Cv 63 15,jK 64 .geq 63 0] (jC 64 (jQ [jk 16 0] (.seq (.block 4 (.loop [2,7,9,10,11,12,13,14,15,16] Tc)) (.seq (jQ [Cv 83 16,Cv 84 10,jn 85 0 84,jB 86 .eql 83 85] (jC 86 (.region [Cv 87 10,Cv 88 15,Co 89 (.Yb .lit 1 false 1 [(.int .i64 0)] [(0,(.t 88))]),Co 90 (.ku 1 false 8 87 89),Cv 10 90]) .skip)) (.region [Cv 91 16,Cv 15 91])))) .skip))
theorem Bw:We=
 (.seq (.seq (.region [⟨(some 48),.move (.t 14),none,false⟩,
 ⟨(some 49),.bin .lss (.t 48) (.c (.int .i64 256)),none,false⟩])
 (.cond (.t 49) (.skip) (.exit 2)))
 (.seq (.block 3 (.seq (.region [⟨(some 52),.move (.t 7),none,false⟩,
  ⟨(some 53),.move (.t 10),none,false⟩,
  ⟨(some 54),.move (.t 12),none,false⟩,
  ⟨(some 55),.pd 1 (.t 53) (.t 54),none,false⟩,
  ⟨(some 56),.load false 1 (.t 55),none,false⟩,
  ⟨(some 57),.move (.t 14),none,false⟩,
  ⟨(some 58),.pd 256 (.t 52) (.t 56),none,false⟩,
  ⟨(some 59),.Tv 256 1 (.t 58) (.t 57),none,false⟩,
  ⟨(some 60),.load false 1 (.t 59),none,false⟩,
  ⟨(some 15),.move (.t 60),none,false⟩])
  (.seq (.seq (.region [⟨(some 61),.move (.t 15),none,false⟩,
   ⟨(some 62),.bin .eql (.t 61) (.c (.int .i64 (-2))),none,false⟩])
  (.cond (.t 62) (.exit 3) (.skip)))
  (.seq tN
  CB))))
 (.region [⟨(some 50),.move (.t 14),none,false⟩,
  ⟨(some 51),.bin .add (.t 50) (.c (.int .i64 1)),none,false⟩,
  ⟨(some 14),.move (.t 51),none,false⟩]))):=rfl
end Go.AM.B1
namespace Go.AM.B1
open Go.AM Go.AM.So
attribute [local irreducible] Td
abbrev ur (l:List Oe) (fl:Nat):ba:= .seq 3 true (Ka (bd l)) fl l.isEmpty
section
variable (call:Za) (E:Tr) (o0 o1 o2 o3:ba) (x:Nat) (to:Int) (g14:E.get 14= .pv (i64 x)) (g15:E.get 15= .pv (i64 to)) (hx:x < 256) (hto:to≠ -2)
include g14 g15 hx hto
omit hx hto in
theorem TK (nl:Bool) (g13:E.get 13= .own 4 0):
 Td (fun r=>∃ E',r=(.norm,⟨E',[o0,o1,o2,o3,ur [⟨x,x,to⟩] 0]⟩)∧E'.get 13= .own 4 1∧E'.get 2=E.get 2∧E'.get 7=E.get 7∧E'.get 9=E.get 9∧E'.get 10=E.get 10∧E'.get 11=E.get 11∧E'.get 12=E.get 12∧E'.get 14=E.get 14)
  (ta call CB ⟨E,[o0,o1,o2,o3,.seq 3 true [] 0 nl]⟩):=by
 have ln:Wb [o0,o1,o2,o3,.seq 3 true [] 0 nl] 0 (.own 4 0)=some 0:=by
  simp only[Wb,List.getElem?_cons_succ,List.getElem?_cons_zero];rfl
 have hap:ic [o0,o1,o2,o3,.seq 3 true [] 0 nl] true .own 3 true 24 (.own 4 0) (.pv (.lit 3 [.agg [i64 x,i64 x,i64 to]]))=some (.own 4 1,[o0,o1,o2,o3,ur [⟨x,x,to⟩] 0]):=by
  simp only[ic,if_true,List.getElem?_cons_succ,List.getElem?_cons_zero,Bj,Gf,Option.map_some,Option.bind_some]
  rw[if_pos ⟨trivial,rfl,by unfold pb;simp,rfl⟩]
  simp[ur,bd,Ka,flat,PV.cells]
 generalize hQQ:(fun r:Ex×St=>_)=QQ
 generalize hO:ur [⟨x,x,to⟩] 0=O at *
 simp -implicitDefEqProofs only[SP,WP,na,sevalprocAttr,CB,g13,g14,g15,ln,hap,Zi,AV.cF,AV.Up]
 subst hQQ
 refine⟨_,rfl,?_,?_,?_,?_,?_,?_,?_,?_⟩ <;> simp[Tr.aa]
variable (l:List Oe) (e:Oe) (hl:l.length < 256) (fl:Nat) (hfl:fl≤(l.length+1) * 3) (g13:E.get 13= .own 4 (l.length+1))
include hl hfl g13
theorem VM:
 Td (fun r=>∃ E' fl',fl'≤(Qf x to (l++[e])).length * 3∧r=(.norm,⟨E',[o0,o1,o2,o3,ur (Qf x to (l++[e])) fl']⟩)∧E'.get 13= .own 4 (Qf x to (l++[e])).length∧E'.get 2=E.get 2∧E'.get 7=E.get 7∧E'.get 9=E.get 9∧E'.get 10=E.get 10∧E'.get 11=E.get 11∧E'.get 12=E.get 12∧E'.get 14=E.get 14)
  (ta call CB ⟨E,[o0,o1,o2,o3,.seq 3 true (Ka (bd l++[e.lo,e.hi,e.to])) fl false]⟩):=by
 have e3:decide (((l.length+1:Nat):Int) > 0)=true:=Da (by omega)
 have t3:IntKind.i64.wrap (((l.length+1:Nat):Int) - 1)=(l.length:Int):=by rw[Ba (by omega)];omega
 have t4:((l.length:Int)).toNat=l.length:=by simp
 have t5:IntKind.i64.wrap ((x:Int) - 1)=(x:Int) - 1:=Ba (by omega)
 have hlen:∀ h,(Ka (bd l++[e.lo,h,e.to])).length=(l.length+1) * 3:=fun h=>by rw[fb,List.length_append,Yj];simp;omega
 have ln:Wb [o0,o1,o2,o3,.seq 3 true (Ka (bd l++[e.lo,e.hi,e.to])) fl false] 0 (.own 4 (l.length+1))=some (l.length+1):=by
  simp only[Wb,List.getElem?_cons_succ,List.getElem?_cons_zero]
  rw[if_pos];rw[hlen];unfold nh;omega
 have i1:qa [o0,o1,o2,o3,.seq 3 true (Ka (bd l++[e.lo,e.hi,e.to])) fl false] 3 (.own 4 (l.length+1)) (l.length:Int)=some (.Gc 4 ((l.length+1) * 3) (l.length * 3)):=by
  simp only[qa,List.getElem?_cons_succ,List.getElem?_cons_zero]
  rw[if_pos,t4]
  refine⟨trivial,?_,?_⟩
  ·unfold Fa;omega
  ·rw[hlen];unfold nh;omega
 have pl:∀ d,place [o0,o1,o2,o3,.seq 3 true (Ka (bd l++[e.lo,e.hi,e.to])) fl false] d (.Gc 4 ((l.length+1) * 3) (l.length * 3))=some (.Gc 4 ((l.length+1) * 3) (l.length * 3+d)):=by
  intro d
  simp only[place,List.getElem?_cons_succ,List.getElem?_cons_zero]
  rw[if_pos (hlen _)]
 have ld:∀ k,k < 3→ya [o0,o1,o2,o3,.seq 3 true (Ka (bd l++[e.lo,e.hi,e.to])) fl false] false 1 (.Gc 4 ((l.length+1) * 3) (l.length * 3+k))=some (.pv (i64 (if k=0 then e.lo else if k=1 then e.hi else e.to))):=by
  intro k hk
  simp only[ya,List.getElem?_cons_succ,List.getElem?_cons_zero]
  rw[if_pos (hlen _)]
  have:=AE (bd l) e k hk
  rw[Yj] at this
  simp only[lh,Bool.false_eq_true,if_false,this]
 have l1:=ld 1 (by omega)
 have l2:=ld 2 (by omega)
 simp only[if_true,Nat.one_ne_zero,if_false,show ¬(2=0) by omega,show ¬(2=1) by omega] at l1 l2
 have hst:Ra [o0,o1,o2,o3,.seq 3 true (Ka (bd l++[e.lo,e.hi,e.to])) fl false] 1 (.Gc 4 ((l.length+1) * 3) (l.length * 3+1)) (.pv (i64 x))=some [o0,o1,o2,o3,ur (l++[⟨e.lo,x,e.to⟩]) ((l.length+1) * 3)]:=by
  have hc:(AV.pv (i64 x)).cells=[.pv (i64 x)]:=rfl
  simp only[Ra,List.getElem?_cons_succ,List.getElem?_cons_zero,hc]
  rw[if_pos ⟨rfl,rfl⟩,if_pos ⟨hlen _,by show l.length * 3+1+1≤(l.length+1) * 3;omega⟩,na,na,gj]
  have:(bd l++[e.lo,e.hi,e.to]).set (l.length * 3+1) (x:Int)=bd (l++[⟨e.lo,x,e.to⟩]):=by
   rw[bm,←Yj,List.set_append_right _ _ (by omega),Nat.add_sub_cancel_left];rfl
  rw[this]
  have he:(l++[(⟨e.lo,x,e.to⟩:Oe)]).isEmpty=false:=by cases l <;> rfl
  simp only[ur,he,List.set_cons_succ,List.set_cons_zero]
 have hap:ic [o0,o1,o2,o3,.seq 3 true (Ka (bd l++[e.lo,e.hi,e.to])) fl false] true .own 3 true 24 (.own 4 (l.length+1)) (.pv (.lit 3 [.agg [i64 x,i64 x,i64 to]]))=some (.own 4 (l.length+1+1),[o0,o1,o2,o3,ur (l++[e]++[⟨x,x,to⟩]) fl]):=by
  simp only[ic,if_true,List.getElem?_cons_succ,List.getElem?_cons_zero,Bj,Gf,Option.map_some,Option.bind_some]
  rw[if_pos ⟨trivial,(hlen _).symm,by unfold pb;simp;omega,rfl⟩]
  have he:(l++[e]++[(⟨x,x,to⟩:Oe)]).isEmpty=false:=by cases l <;> rfl
  simp only[ur,he,bm,KD,List.set_cons_succ,List.set_cons_zero]
  rfl
 have hR:∀ l' fl',Qf x to (l++[e])=l'→fl'≤l'.length * 3→∀ E',E'.get 13= .own 4 l'.length→E'.get 2=E.get 2→E'.get 7=E.get 7→E'.get 9=E.get 9→E'.get 10=E.get 10→E'.get 11=E.get 11→E'.get 12=E.get 12→E'.get 14=E.get 14→
  ∃ E'' fl'',fl''≤(Qf x to (l++[e])).length * 3∧(Ex.norm,(⟨E',[o0,o1,o2,o3,ur l' fl']⟩:St))=(.norm,⟨E'',[o0,o1,o2,o3,ur (Qf x to (l++[e])) fl'']⟩)∧E''.get 13= .own 4 (Qf x to (l++[e])).length∧E''.get 2=E.get 2∧E''.get 7=E.get 7∧E''.get 9=E.get 9∧E''.get 10=E.get 10∧E''.get 11=E.get 11∧E''.get 12=E.get 12∧E''.get 14=E.get 14:=by
  intro l' fl' h1 h2 E' k13 k2 k7 k9 k10 k11 k12 k14
  subst h1
  exact⟨E',fl',h2,rfl,k13,k2,k7,k9,k10,k11,k12,k14⟩
 have hlj:(l++[(⟨e.lo,x,e.to⟩:Oe)]).length=l.length+1:=by simp
 have hlp:(l++[e]++[(⟨x,x,to⟩:Oe)]).length=l.length+1+1:=by simp
 generalize hQQ:(fun r:Ex×St=>_)=QQ
 by_cases h1:e.to=to
 ·have b1:(e.to==to)=true:=by simp[h1]
  by_cases h2:e.hi=(x:Int) - 1
  ·have b2:(e.hi==(x:Int) - 1)=true:=by simp[h2]
   have hj:Qf x to (l++[e])=l++[⟨e.lo,x,e.to⟩]:=by rw[← h1];exact qy (by rw[h1];exact hto) h2
   generalize ba.seq 3 true (Ka (bd l++[e.lo,e.hi,e.to])) fl false=oE at *
   generalize hO:ur (l++[⟨e.lo,x,e.to⟩]) ((l.length+1) * 3)=O at *
   simp -implicitDefEqProofs only[SP,WP,na,sevalprocAttr,CB,g13,g14,g15,ln,e3,t3,t5,i1,pl,l1,l2,b1,b2,hst,Zi,AV.cF,AV.Up]
   subst hQQ hO
   refine hR _ _ hj (by rw[hlj];exact Nat.le_refl _) _ ?_ ?_ ?_ ?_ ?_ ?_ ?_ ?_
   ·rw[hlj];simp only[Tr.aa];exact g13
   all_goals simp[Tr.aa]
  ·have b2:(e.hi==(x:Int) - 1)=false:=ni h2
   have hj:=Su (l:=l) (x:=(x:Int)) (e:=e) hto (fun h=>h2 h.2)
   generalize ba.seq 3 true (Ka (bd l++[e.lo,e.hi,e.to])) fl false=oE at *
   generalize hO:ur (l++[e]++[⟨x,x,to⟩]) fl=O at *
   simp -implicitDefEqProofs only[SP,WP,na,sevalprocAttr,CB,g13,g14,g15,ln,e3,t3,t5,i1,pl,l1,l2,b1,b2,hap,Zi,AV.cF,AV.Up]
   subst hQQ hO
   exact hR _ _ hj (by rw[hlp];omega) _ (by rw[hlp];simp[Tr.aa]) (by simp[Tr.aa]) (by simp[Tr.aa]) (by simp[Tr.aa]) (by simp[Tr.aa]) (by simp[Tr.aa]) (by simp[Tr.aa]) (by simp[Tr.aa])
 ·have b1:(e.to==to)=false:=ni h1
  have hj:=Su (l:=l) (x:=(x:Int)) (e:=e) hto (fun h=>h1 h.1)
  generalize ba.seq 3 true (Ka (bd l++[e.lo,e.hi,e.to])) fl false=oE at *
  generalize hO:ur (l++[e]++[⟨x,x,to⟩]) fl=O at *
  simp -implicitDefEqProofs only[SP,WP,na,sevalprocAttr,CB,g13,g14,g15,ln,e3,t3,t5,i1,pl,l1,l2,b1,hap,Zi,AV.cF,AV.Up]
  subst hQQ hO
  exact hR _ _ hj (by rw[hlp];omega) _ (by rw[hlp];simp[Tr.aa]) (by simp[Tr.aa]) (by simp[Tr.aa]) (by simp[Tr.aa]) (by simp[Tr.aa]) (by simp[Tr.aa]) (by simp[Tr.aa]) (by simp[Tr.aa])
end
end Go.AM.B1
namespace Go.AM.B1
open Go.AM Go.AM.So
attribute [local irreducible] Td
abbrev ints (O:List Nat):List PV:=O.map fun (o:Nat)=>i64 (Int.ofNat o)
def yf (f:Nat→Nat→Bool) (O:List Nat) (to:Int):List Nat×Int:=
 if to < 0 then (O,to) else
  (if O.findIdx (fun o=> !f o to.toNat)=O.length then O++[to.toNat] else O,(O.findIdx (fun o=> !f o to.toNat):Int))
theorem VA (H:List ba) {id:Nat} {nl:Bool} {O:List Nat} {k:Nat} (hk:k < O.length):qa H 1 (.uq id nl 1 (ints O)) (k:Int)=some (.pv (.rp [i64 (O[k]:Int)] 0)):=by
 simp only[qa]
 rw[if_pos (by refine⟨trivial,?_⟩;unfold Fa;simp;omega)]
 simp[hk,PV.cells]
theorem BE (H:List ba) {n:Nat} {f:Nat→Nat→Bool} {k:Nat} (hk:k < n):qa H 1 (.pv (Rj n f)) (k:Int)=some (.pv (.rp [.lit 1 (Mf n (f k))] 0)):=by
 simp only[qa,Rj]
 rw[if_pos (by refine⟨trivial,?_⟩;unfold Fa;simp;omega)]
 simp[hk,PV.cells]
theorem rE (H:List ba) {n:Nat} {f:Nat→Bool} {k:Nat} (hk:k < n):qa H 1 (.pv (.lit 1 (Mf n f))) (k:Int)=some (.pv (.rp [.bool (f k)] 0)):=by
 simp only[qa]
 rw[if_pos (by refine⟨trivial,?_⟩;unfold Fa;rw[Gg];omega),Int.toNat_natCast,Kz _ hk]
 rfl
theorem gx (H:List ba) (x:PV):ya H false 1 (.pv (.rp [x] 0))=some (.pv x):=rfl
abbrev BX (L M:PV) (O:List PV) (k len x:Nat) (to:Int) (m:Int):Tr:=
 (((((((((Tr.lf.set 16 (.pv (i64 m))).set 15 (.pv (i64 to))).set 14 (.pv (i64 x))).set 13 (.own 4 len)).set 12 (.pv (i64 k))).set 11 (.ptr 2 0)).set 10 (.uq 1 false 1 O)).set 9 (.pv M)).set 7 (.pv L)).set 2 (.ptr 0 0)
section
variable (call:Za) (L:PV) (n:Nat) (f:Nat→Nat→Bool) (O:List Nat) (k len x:Nat) (o0 o2 o3 o4:ba)
 (hc:Qa (ma 5) [o0,.tok 1 O.length false,o2,o3,o4]=some [o0,.tok 1 O.length false,o2,o3,o4]) (hO:∀ o∈O,o < n) (hO2:O.length≤64)
include hc hO hO2
theorem KO (to:Nat) (hto:to < n):
 Td (fun r=>∃ E,r=(.exit 4,⟨E,[o0,.tok 1 O.length false,o2,o3,o4]⟩)∧E.get 2= .ptr 0 0∧E.get 7= .pv L∧E.get 9= .pv (Rj n f)∧E.get 10= .uq 1 false 1 (ints O)∧E.get 11= .ptr 2 0∧E.get 12= .pv (i64 k)∧E.get 13= .own 4 len∧E.get 14= .pv (i64 x)∧E.get 15= .pv (i64 to)∧E.get 16= .pv (i64 (O.findIdx (fun o=> !f o to):Nat)))
  (gb (fa (ta call Tc) (ga 5 [2,7,9,10,11,12,13,14,15,16])) oa ⟨BX L (Rj n f) (ints O) k len x to 0,[o0,.tok 1 O.length false,o2,o3,o4]⟩):=by
 have hle:O.findIdx (fun o=> !f o to)≤O.length:=List.findIdx_le_length
 have hlO:(ints O).length=O.length:=by rw[List.length_map]
 refine xa (Nb (g:=fa (ta call Tc) (ga 5 [2,7,9,10,11,12,13,14,15,16]))
  (fun m t=>t=⟨BX L (Rj n f) (ints O) k len x to m,[o0,.tok 1 O.length false,o2,o3,o4]⟩)
  (O.findIdx (fun o=> !f o to)) (by unfold oa;omega) _ rfl ?_ ?_) (fun r h=>h.2)
 ·rintro m t hm rfl
  have hmO:m < O.length:=by omega
  have hf:f O[m] to=true:=by
   have:=List.not_of_lt_findIdx hm
   simpa using this
  have e1:decide ((m:Int) < (O.length:Int))=true:=Da (by omega)
  have t2:IntKind.i64.wrap ((m:Int)+1)=((m+1:Nat):Int):=Ba (by omega)
  have i1:=fun H=>VA H (id:=1) (nl:=false) hmO
  have i2:=fun H=>BE H (f:=f) (hO _ (List.getElem_mem hmO))
  have i3:=fun H=>rE H (f:=f O[m]) hto
  rw[hf] at i3
  generalize O[m]=o at *
  generalize Mf n (f o)=T at *
  generalize Rj n f=M at *
  generalize ints O=os at *
  have d0:(0 < 5)=True:=by simp
  have d1:(1 < 5)=True:=by simp
  have d2:(2 < 5)=True:=by simp
  have d4:(4 < 5)=True:=by simp
  have htk:∀ a b c d e:ba,([a,b,c,d,e]:List ba).take 5=[a,b,c,d,e]:=fun a b c d e=>rfl
  generalize hQ:LN _ _ m=Q
  simp -implicitDefEqProofs only[SX,sevalprocAttr,Tc,hlO,e1,t2,i1,i2,i3,gx,hc,htk,d0,d1,d2,d4,ga,za,AV.cut,wa,BX]
  subst hQ
  show (_:St)=_
  rfl
 ·rintro t rfl
  generalize hN:O.findIdx (fun o=> !f o to)=N at *
  have hfin:∀ E:Tr,E.get 2= .ptr 0 0→E.get 7= .pv L→E.get 9= .pv (Rj n f)→E.get 10= .uq 1 false 1 (ints O)→E.get 11= .ptr 2 0→E.get 12= .pv (i64 k)→E.get 13= .own 4 len→E.get 14= .pv (i64 x)→E.get 15= .pv (i64 to)→E.get 16= .pv (i64 N)→
   (Ex.exit 4,(⟨E,[o0,.tok 1 O.length false,o2,o3,o4]⟩:St)).1.stop=true∧∃ E',(Ex.exit 4,(⟨E,[o0,.tok 1 O.length false,o2,o3,o4]⟩:St))=(.exit 4,⟨E',[o0,.tok 1 O.length false,o2,o3,o4]⟩)∧E'.get 2= .ptr 0 0∧E'.get 7= .pv L∧E'.get 9= .pv (Rj n f)∧E'.get 10= .uq 1 false 1 (ints O)∧E'.get 11= .ptr 2 0∧E'.get 12= .pv (i64 k)∧E'.get 13= .own 4 len∧E'.get 14= .pv (i64 x)∧E'.get 15= .pv (i64 to)∧E'.get 16= .pv (i64 N):=
   fun E k2 k7 k9 k10 k11 k12 k13 k14 k15 k16=>⟨rfl,E,rfl,k2,k7,k9,k10,k11,k12,k13,k14,k15,k16⟩
  generalize hQ:(fun r:Ex×St=>r.1.stop=true∧_)=Q
  by_cases hlt:N < O.length
  ·have hf:f O[N] to=false:=by
    have:=List.findIdx_getElem (w:=by rw[hN];exact hlt) (p:=fun o=> !f o to) (xs:=O)
    simp only[hN] at this
    simpa using this
   have e1:decide ((N:Int) < (O.length:Int))=true:=Da (by omega)
   have i1:=fun H=>VA H (id:=1) (nl:=false) hlt
   have i2:=fun H=>BE H (f:=f) (hO _ (List.getElem_mem hlt))
   have i3:=fun H=>rE H (f:=f O[N]) hto
   rw[hf] at i3
   generalize O[N]=o at *
   generalize Mf n (f o)=T at *
   generalize Rj n f=M at *
   generalize ints O=os at *
   simp -implicitDefEqProofs only[SX,sevalprocAttr,Tc,hlO,e1,i1,i2,i3,gx,BX]
   subst hQ
   exact hfin _ (by simp[Tr.aa]) (by simp[Tr.aa]) (by simp[Tr.aa]) (by simp[Tr.aa]) (by simp[Tr.aa]) (by simp[Tr.aa]) (by simp[Tr.aa]) (by simp[Tr.aa]) (by simp[Tr.aa]) (by simp[Tr.aa])
  ·have e1:decide ((N:Int) < (O.length:Int))=false:=Ha (by omega)
   generalize Rj n f=M at *
   generalize ints O=os at *
   simp -implicitDefEqProofs only[SX,sevalprocAttr,Tc,hlO,e1,BX]
   subst hQ
   exact hfin _ (by simp[Tr.aa]) (by simp[Tr.aa]) (by simp[Tr.aa]) (by simp[Tr.aa]) (by simp[Tr.aa]) (by simp[Tr.aa]) (by simp[Tr.aa]) (by simp[Tr.aa]) (by simp[Tr.aa]) (by simp[Tr.aa])
theorem AP (E:Tr) (to:Int) (hto:to < (n:Int)) (g2:E.get 2= .ptr 0 0) (g7:E.get 7= .pv L) (g9:E.get 9= .pv (Rj n f)) (g10:E.get 10= .uq 1 false 1 (ints O)) (g11:E.get 11= .ptr 2 0) (g12:E.get 12= .pv (i64 k)) (g13:E.get 13= .own 4 len) (g14:E.get 14= .pv (i64 x)) (g15:E.get 15= .pv (i64 to)):
 Td (fun r=>∃ E',r=(.norm,⟨E',[o0,.tok 1 (yf f O to).1.length false,o2,o3,o4]⟩)∧E'.get 2= .ptr 0 0∧E'.get 7= .pv L∧E'.get 9= .pv (Rj n f)∧E'.get 10= .uq 1 false 1 (ints (yf f O to).1)∧E'.get 11= .ptr 2 0∧E'.get 12= .pv (i64 k)∧E'.get 13= .own 4 len∧E'.get 14= .pv (i64 x)∧E'.get 15= .pv (i64 (yf f O to).2))
  (ta call tN ⟨E,[o0,.tok 1 O.length false,o2,o3,o4]⟩):=by
 have hR:∀ O' v,yf f O to=(O',v)→∀ E':Tr,E'.get 2= .ptr 0 0→E'.get 7= .pv L→E'.get 9= .pv (Rj n f)→E'.get 10= .uq 1 false 1 (ints O')→E'.get 11= .ptr 2 0→E'.get 12= .pv (i64 k)→E'.get 13= .own 4 len→E'.get 14= .pv (i64 x)→E'.get 15= .pv (i64 v)→
  ∃ E'',(Ex.norm,(⟨E',[o0,.tok 1 O'.length false,o2,o3,o4]⟩:St))=(.norm,⟨E'',[o0,.tok 1 (yf f O to).1.length false,o2,o3,o4]⟩)∧E''.get 2= .ptr 0 0∧E''.get 7= .pv L∧E''.get 9= .pv (Rj n f)∧E''.get 10= .uq 1 false 1 (ints (yf f O to).1)∧E''.get 11= .ptr 2 0∧E''.get 12= .pv (i64 k)∧E''.get 13= .own 4 len∧E''.get 14= .pv (i64 x)∧E''.get 15= .pv (i64 (yf f O to).2):=by
  intro O' v h E' k2 k7 k9 k10 k11 k12 k13 k14 k15
  rw[h]
  exact⟨E',rfl,k2,k7,k9,k10,k11,k12,k13,k14,k15⟩
 by_cases hneg:to < 0
 ·have d1:decide (to≥0)=false:=Ha (by omega)
  have hcl:yf f O to=(O,to):=by unfold yf;rw[if_pos hneg]
  generalize hQQ:(fun r:Ex×St=>_)=QQ
  simp -implicitDefEqProofs only[SP,WP,na,sevalprocAttr,tN,g15,d1]
  subst hQQ
  exact hR O to hcl _ (by simp[Tr.aa,g2]) (by simp[Tr.aa,g7]) (by simp[Tr.aa,g9]) (by simp[Tr.aa,g10]) (by simp[Tr.aa,g11]) (by simp[Tr.aa,g12]) (by simp[Tr.aa,g13]) (by simp[Tr.aa,g14]) (by simp[Tr.aa,g15])
 ·have d1:decide (to≥0)=true:=Da (by omega)
  obtain⟨t,rfl⟩:∃ t:Nat,to=t:=⟨to.toNat,by omega⟩
  have hlp:=KO call L n f O k len x o0 o2 o3 o4 hc hO hO2 t (by omega)
  have hcl:yf f O (t:Int)=(if O.findIdx (fun o=> !f o t)=O.length then O++[t] else O,(O.findIdx (fun o=> !f o t):Int)):=by unfold yf;rw[if_neg hneg,Int.toNat_natCast]
  have hlO:(ints O).length=O.length:=by rw[List.length_map]
  generalize O.findIdx (fun o=> !f o t)=N at *
  have d0:(0 < 5)=True:=by simp
  have d1':(1 < 5)=True:=by simp
  have d2:(2 < 5)=True:=by simp
  have d4:(4 < 5)=True:=by simp
  have htk:∀ a b c d e:ba,([a,b,c,d,e]:List ba).take 5=[a,b,c,d,e]:=fun a b c d e=>rfl
  have hap:ic [o0,.tok 1 O.length false,o2,o3,o4] false .uq 1 false 8 (.uq 1 false 1 (ints O)) (.pv (.lit 1 [i64 t]))=some (.uq 1 false 1 (ints (O++[t])),[o0,.tok 1 (O.length+1) false,o2,o3,o4]):=by
   have:=qj (A:=[o0,.tok 1 O.length false,o2,o3,o4]) (id:=1) (n:=O.length) (sz:=1) (h:= .uq) (nl:=false) (ag:=false) (bytes:=8) (es:=ints O) rfl (by rw[List.length_map]) (by unfold pb;omega) (i64 t)
   rw[this]
   simp[ints]
  have hlen2:(O++[t]).length=O.length+1:=by simp
  generalize hQQ:(fun r:Ex×St=>_)=QQ
  generalize hM:Rj n f=M at *
  generalize hos:ints O=os at *
  generalize hos2:ints (O++[t])=os2 at *
  simp -implicitDefEqProofs only[SP,WP,na,sevalprocAttr,tN,g2,g7,g9,g10,g11,g12,g13,g14,g15,d1,xb,hc,htk,d0,d1',d2,d4,ga,za,AV.cut,wa]
  simp only[BX,hos] at hlp
  refine xa hlp ?_
  rintro r ⟨E2,rfl,k2,k7,k9,k10,k11,k12,k13,k14,k15,k16⟩
  by_cases hN:N=O.length
  ·have e2:((N:Int)==(O.length:Int))=true:=by simp[hN]
   rw[if_pos hN] at hcl
   simp -implicitDefEqProofs only[SP,WP,na,sevalprocAttr,k2,k7,k9,k10,k11,k12,k13,k14,k15,k16,hlO,e2,hap,Zi,AV.cF,AV.Up]
   subst hQQ
   rw[← hlen2]
   exact hR (O++[t]) N hcl _ (by simp[Tr.aa,k2]) (by simp[Tr.aa,k7]) (by simp[Tr.aa,k9]) (by simp[Tr.aa,hos2]) (by simp[Tr.aa,k11]) (by simp[Tr.aa,k12]) (by simp[Tr.aa,k13]) (by simp[Tr.aa,k14]) (by simp[Tr.aa])
  ·have e2:((N:Int)==(O.length:Int))=false:=ni (by omega)
   rw[if_neg hN] at hcl
   simp -implicitDefEqProofs only[SP,WP,na,sevalprocAttr,k2,k7,k9,k10,k11,k12,k13,k14,k15,k16,hlO,e2]
   subst hQQ
   exact hR O N hcl _ (by simp[Tr.aa,k2]) (by simp[Tr.aa,k7]) (by simp[Tr.aa,k9]) (by simp[Tr.aa,k10,hos]) (by simp[Tr.aa,k11]) (by simp[Tr.aa,k12]) (by simp[Tr.aa,k13]) (by simp[Tr.aa,k14]) (by simp[Tr.aa])
end
end Go.AM.B1
namespace Go.AM.B1
open Go.AM Go.AM.So
attribute [local irreducible] Td
theorem YT (l:List Oe) (e:Oe) (fl:Nat):ur (l++[e]) fl= .seq 3 true (Ka (bd l++[e.lo,e.hi,e.to])) fl false:=by
 have he:(l++[e]).isEmpty=false:=by cases l <;> rfl
 rw[ur,he,bm]
theorem rN (l:List Oe) (fl n:Nat):ma n (ur l fl)=some (ur l fl):=by
 have:(Ka (bd l)).all (AV.Be n deep)=true:=by
  rw[List.all_eq_true]
  intro v hv
  obtain⟨p,_,rfl⟩:=List.mem_map.1 hv
  rfl
 simp[ma,ur,this]
theorem GP (call:Za) (E:Tr) (o0 o1 o2 o3:ba) (x:Nat) (to:Int) (g14:E.get 14= .pv (i64 x)) (g15:E.get 15= .pv (i64 to)) (hx:x < 256) (hto:to≠ -2) (l:List Oe) (hl:l.length≤256) (fl:Nat) (hfl:fl≤l.length * 3) (g13:E.get 13= .own 4 l.length):
 Td (fun r=>∃ E' fl',fl'≤(Qf x to l).length * 3∧r=(.norm,⟨E',[o0,o1,o2,o3,ur (Qf x to l) fl']⟩)∧E'.get 13= .own 4 (Qf x to l).length∧E'.get 2=E.get 2∧E'.get 7=E.get 7∧E'.get 9=E.get 9∧E'.get 10=E.get 10∧E'.get 11=E.get 11∧E'.get 12=E.get 12∧E'.get 14=E.get 14)
  (ta call CB ⟨E,[o0,o1,o2,o3,ur l fl]⟩):=by
 rcases List.eq_nil_or_concat l with rfl | ⟨l',e,rfl⟩
 ·have:fl=0:=by simpa using hfl
  subst this
  refine xa (TK call E o0 o1 o2 o3 x to g14 g15 true g13) ?_
  rintro r ⟨E',rfl,k13,k2,k7,k9,k10,k11,k12,k14⟩
  have hj:=jw (x:=(x:Int)) hto
  rw[hj]
  exact⟨E',0,by omega,rfl,k13,k2,k7,k9,k10,k11,k12,k14⟩
 ·rw[List.concat_eq_append] at *
  have hl1:(l'++[e]).length=l'.length+1:=by simp
  rw[hl1] at hl hfl g13
  rw[YT]
  exact VM call E o0 o1 o2 o3 x to g14 g15 hx hto l' e (by omega) fl hfl g13
theorem FG (x to:Int) (l:List Oe):(Qf x to l).length≤l.length+1:=by
 by_cases h:to= -2
 ·subst h;rw[Dy];omega
 ·rcases List.eq_nil_or_concat l with rfl | ⟨l',e,rfl⟩
  ·rw[jw h];simp
  ·rw[List.concat_eq_append]
   by_cases h2:e.to=to∧e.hi=x - 1
   ·obtain⟨rfl,h3⟩:=h2
    rw[qy h h3];simp
   ·rw[Su h h2];simp
def Lm (C:List (List Int)) (f:Nat→Nat→Bool) (o:Nat) (r:List Nat×List Oe) (x:Nat):List Nat×List Oe:=
 if Dg C o x= -2 then r else ((yf f r.1 (Dg C o x)).1,Qf x (yf f r.1 (Dg C o x)).2 r.2)
structure Yv (n:Nat) (O:List Nat):Prop where
 nd:O.Nodup
 lt:∀ o∈O,o < n
theorem Yv.len {n:Nat} {O:List Nat} (h:Yv n O):O.length≤n:=by
 have h1:=KA n (O.map fun (o:Nat)=>Int.ofNat o) ?_ ?_
 ·simpa using h1
 ·rw[List.Nodup,List.pairwise_map]
  exact h.nd.imp fun hne he=>hne (Int.ofNat.inj he)
 ·intro o ho
  obtain⟨p,hp,rfl⟩:=List.mem_map.1 ho
  have:=h.lt p hp
  constructor
  ·exact Int.natCast_nonneg p
  ·exact Int.ofNat_lt.2 this
theorem OD {n:Nat} {f:Nat→Nat→Bool} (hf:∀ a,f a a=false) {O:List Nat} (h:Yv n O) {to:Int} (hto:to < n):Yv n (yf f O to).1∧∃ t,(yf f O to).1=O++t:=by
 unfold yf
 by_cases h1:to < 0
 ·rw[if_pos h1];exact⟨h,[],by simp⟩
 ·rw[if_neg h1]
  by_cases h2:O.findIdx (fun o=> !f o to.toNat)=O.length
  ·rw[if_pos h2]
   have hall:∀ o∈O,f o to.toNat=true:=by
    intro o ho
    obtain⟨k,hk,rfl⟩:=List.getElem_of_mem ho
    have:=List.not_of_lt_findIdx (p:=fun o=> !f o to.toNat) (xs:=O) (i:=k) (by omega)
    simpa using this
   refine⟨⟨?_,?_⟩,[to.toNat],rfl⟩
   ·rw[List.nodup_append]
    refine⟨h.nd,by simp,?_⟩
    intro a ha b hb
    rw[List.mem_singleton] at hb
    subst hb
    intro he
    subst he
    have:=hall _ ha
    rw[hf] at this;cases this
   ·intro o ho
    rcases List.mem_append.1 ho with h3 | h3
    ·exact h.lt o h3
    ·rw[List.mem_singleton] at h3;subst h3;omega
  ·rw[if_neg h2];exact⟨h,[],by simp⟩
theorem yP {f:Nat→Nat→Bool} {O:List Nat} {to:Int} (h:to≠ -2) (h2: -2≤to):(yf f O to).2≠ -2:=by
 unfold yf
 by_cases h1:to < 0
 ·rw[if_pos h1];exact h
 ·rw[if_neg h1];simp only;omega
abbrev mU (L M:PV) (O:List PV) (k len x:Nat):Tr:=
 (((((((Tr.lf.set 14 (.pv (i64 x))).set 13 (.own 4 len)).set 12 (.pv (i64 k))).set 11 (.ptr 2 0)).set 10 (.uq 1 false 1 O)).set 9 (.pv M)).set 7 (.pv L)).set 2 (.ptr 0 0)
section
variable (call:Za) {C:List (List Int)} (hC:GI C) (hge:∀ r∈C,∀ v∈r,-2≤v) {f:Nat→Nat→Bool} (hf:∀ a,f a a=false) (k:Nat) (o0 o2 o3:ba) (h0:∀ n,ma n o0=some o0) (h2:ma 5 o2=some o2) (h3:∀ n,ma n o3=some o3)
include hC hge hf h0 h2 h3
omit hf in
theorem DD {O:List Nat} (hO:Yv C.length O) {o:Nat} (hk:O[k]? =some o) {l:List Oe} {x:Nat} (hx:x < 256) (hl:l.length≤x) {fl:Nat} (hfl:fl≤l.length * 3):
 Td (fun r=>∃ fl',fl'≤(Lm C f o (O,l) x).2.length * 3∧r=(.norm,⟨mU (.lit 256 (C.map yi)) (Rj C.length f) (ints (Lm C f o (O,l) x).1) k (Lm C f o (O,l) x).2.length (x+1),[o0,.tok 1 (Lm C f o (O,l) x).1.length false,o2,o3,ur (Lm C f o (O,l) x).2 fl']⟩))
  (fa (ta call We) (ga 5 [2,7,9,10,11,12,13,14]) ⟨mU (.lit 256 (C.map yi)) (Rj C.length f) (ints O) k l.length x,[o0,.tok 1 O.length false,o2,o3,ur l fl]⟩):=by
 have hkO:=(List.getElem?_eq_some_iff.1 hk).1
 have hko:O[k]=o:=(List.getElem?_eq_some_iff.1 hk).2
 have ho:o < C.length:=by rw[← hko];exact hO.lt _ (List.getElem_mem hkO)
 have hO64:O.length≤64:=Nat.le_trans hO.len hC.sz
 have i1:=fun H=>VA H (id:=1) (nl:=false) hkO
 rw[hko] at i1
 have i2:=fun H=>hC.pd ho H
 have l2:=fun H=>hC.load ho hx H
 have hv:=(hC.get ho hx).2
 have hv2: -2≤Dg C o x:=hge _ (List.getElem_mem ho) _ (List.mem_of_getElem? (hC.get ho hx).1)
 have e1:decide ((x:Int) < 256)=true:=Da (by omega)
 have hq:Fa (x:Int) 256:=by unfold Fa;omega
 have t1:((x:Int)).toNat=x:=by simp
 have m1:x * 1=x:=by omega
 have z1:0+x=x:=by omega
 have t2:IntKind.i64.wrap ((x:Int)+1)=((x+1:Nat):Int):=Ba (by omega)
 have hcl:∀ (m:Nat) (l:List Oe) (fl:Nat),Qa (ma 5) [o0,.tok 1 m false,o2,o3,ur l fl]=some [o0,.tok 1 m false,o2,o3,ur l fl]:=by
  intro m l fl
  have c1:ma 5 (.tok 1 m false)=some (.tok 1 m false):=rfl
  simp only[Qa,h0,h2,h3,c1,rN,Option.bind_some,Option.map_some]
 have htk:∀ a b c d e:ba,([a,b,c,d,e]:List ba).take 5=[a,b,c,d,e]:=fun a b c d e=>rfl
 have d0:(0 < 5)=True:=by simp
 have d1:(1 < 5)=True:=by simp
 have d2:(2 < 5)=True:=by simp
 have d4:(4 < 5)=True:=by simp
 have hfind:=fun (E:Tr) g2 g7 g9 g10 g11 g12 g13 g14 g15=>AP call (.lit 256 (C.map yi)) C.length f O k l.length x o0 o2 o3 (ur l fl) (hcl _ _ _) hO.lt hO64 E (Dg C o x) hv g2 g7 g9 g10 g11 g12 g13 g14 g15
 have hce:Dg C o x≠ -2→(yf f O (Dg C o x)).2≠ -2:=fun h=>yP h hv2
 have hR:∀ r,Lm C f o (O,l) x=r→∀ fl',fl'≤r.2.length * 3→∀ s:St,s=⟨mU (.lit 256 (C.map yi)) (Rj C.length f) (ints r.1) k r.2.length (x+1),[o0,.tok 1 r.1.length false,o2,o3,ur r.2 fl']⟩→
  ∃ fl',fl'≤(Lm C f o (O,l) x).2.length * 3∧(Ex.norm,s)=(.norm,⟨mU (.lit 256 (C.map yi)) (Rj C.length f) (ints (Lm C f o (O,l) x).1) k (Lm C f o (O,l) x).2.length (x+1),[o0,.tok 1 (Lm C f o (O,l) x).1.length false,o2,o3,ur (Lm C f o (O,l) x).2 fl']⟩):=by
  intro r hr fl' hfl' s hs
  subst hr
  exact⟨fl',hfl',by rw[hs]⟩
 have hrx:Dg C o x= -2→Lm C f o (O,l) x=(O,l):=fun h=>by unfold Lm;rw[if_pos h]
 have hrx2:Dg C o x≠ -2→Lm C f o (O,l) x=((yf f O (Dg C o x)).1,Qf x (yf f O (Dg C o x)).2 l):=fun h=>by unfold Lm;rw[if_neg h]
 generalize hQQ:(fun r:Ex×St=>_)=QQ
 generalize Dg C o x=to at *
 generalize hL:(PV.lit 256 (C.map yi))=L at *
 generalize hM:Rj C.length f=M at *
 generalize hoR:C[o].map i64=oR at *
 by_cases hto:to= -2
 ·have b1:(to== -2)=true:=by simp[hto]
  have hclx:=hcl O.length l fl
  have hfin:=hR (O,l) (hrx hto) fl hfl
  generalize hos:ints O=os at *
  generalize hO4:ur l fl=o4 at *
  simp -implicitDefEqProofs only[SP,WP,na,sevalprocAttr,Bw,e1,i1,i2,l2,gx,rj,eq_true hq,t1,m1,z1,b1,t2,hclx,htk,d0,d1,d2,d4,ga,za,AV.cut,wa,mU]
  subst hQQ
  exact hfin _ (by simp only[mU,hos,hO4])
 ·have b1:(to== -2)=false:=ni hto
  have hce':=hce hto
  generalize hos:ints O=os at *
  generalize hO4:ur l fl=o4 at *
  simp -implicitDefEqProofs only[SP,WP,na,sevalprocAttr,Bw,e1,i1,i2,l2,gx,rj,eq_true hq,t1,m1,z1,b1,mU]
  refine xa (hfind _ ?_ ?_ ?_ ?_ ?_ ?_ ?_ ?_ ?_) ?_
  any_goals (simp[Tr.aa];done)
  rintro r ⟨E2,rfl,k2,k7,k9,k10,k11,k12,k13,k14,k15⟩
  simp -implicitDefEqProofs only[SP,WP,na,sevalprocAttr]
  subst hO4
  refine xa (GP call E2 o0 _ o2 o3 x _ k14 k15 hx hce' l (by omega) fl hfl k13) ?_
  rintro r ⟨E3,fl',hfl',rfl,j13,j2,j7,j9,j10,j11,j12,j14⟩
  rw[k2] at j2;rw[k7] at j7;rw[k9] at j9;rw[k10] at j10;rw[k11] at j11;rw[k12] at j12;rw[k14] at j14
  have hclx:=hcl (yf f O to).1.length (Qf x (yf f O to).2 l) fl'
  have hfin:=hR _ (hrx2 hto) fl' hfl'
  simp only at hfin
  generalize (yf f O to).1.length=n1 at *
  generalize hos1:ints (yf f O to).1=os1 at *
  generalize (Qf x (yf f O to).2 l).length=n2 at *
  generalize ur (Qf x (yf f O to).2 l) fl'=o4 at *
  simp -implicitDefEqProofs only[SP,WP,na,sevalprocAttr,j2,j7,j9,j10,j11,j12,j13,j14,t2,hclx,htk,d0,d1,d2,d4,ga,za,AV.cut,wa]
  subst hQQ
  exact hfin _ rfl
end
end Go.AM.B1
namespace Go.AM.B1
open Go.AM Go.AM.So
attribute [local irreducible] Td
def mg (C:List (List Int)) (f:Nat→Nat→Bool) (o:Nat) (O:List Nat) (x:Nat):List Nat×List Oe:=(List.range x).foldl (Lm C f o) (O,[])
theorem Oy (C:List (List Int)) (f:Nat→Nat→Bool) (o:Nat) (O:List Nat) (x:Nat):mg C f o O (x+1)=Lm C f o (mg C f o O x) x:=by
 unfold mg
 rw[List.range_succ,List.foldl_append];rfl
theorem AT {C:List (List Int)} (hC:GI C) {f:Nat→Nat→Bool} (hf:∀ a,f a a=false) {o:Nat} (ho:o < C.length) {r:List Nat×List Oe} (h:Yv C.length r.1) {x:Nat} (hx:x < 256):
 Yv C.length (Lm C f o r x).1∧(∃ t,(Lm C f o r x).1=r.1++t)∧(Lm C f o r x).2.length≤r.2.length+1:=by
 unfold Lm
 split
 ·exact⟨h,⟨[],by simp⟩,by omega⟩
 ·obtain⟨h1,h2⟩:=OD hf h (hC.get ho hx).2
  exact⟨h1,h2,FG _ _ _⟩
theorem IA {C:List (List Int)} (hC:GI C) {f:Nat→Nat→Bool} (hf:∀ a,f a a=false) {o:Nat} (ho:o < C.length) {O:List Nat} (h:Yv C.length O):∀ (x:Nat),x≤256→
 Yv C.length (mg C f o O x).1∧(∃ t,(mg C f o O x).1=O++t)∧(mg C f o O x).2.length≤x
 |0,_=>⟨h,⟨[],by simp[mg]⟩,by simp[mg]⟩
 |x+1,hx=>by
  obtain⟨h1,⟨t,h2⟩,h3⟩:=IA hC hf ho h x (by omega)
  obtain⟨k1,⟨t',k2⟩,k3⟩:=AT hC hf ho h1 (x:=x) (by omega)
  rw[Oy]
  exact⟨k1,⟨t++t',by rw[k2,h2,List.append_assoc]⟩,by omega⟩
def yp (C:List (List Int)) (f:Nat→Nat→Bool):Nat→List Nat×List (List Oe)→List Nat×List (List Oe)
 |0,r=>r
 |k+1,r=>match r.1[r.2.length]? with
  |none=>r
  |some o=>yp C f k ((mg C f o r.1 256).1,r.2++[(mg C f o r.1 256).2])
theorem ZF {C:List (List Int)} {f:Nat→Nat→Bool} {k:Nat} {r:List Nat×List (List Oe)} (h:r.1[r.2.length]? =none):yp C f k r=r:=by
 cases k with
 |zero=>rfl
 |succ k=>rw[yp,h]
theorem PE {C:List (List Int)} {f:Nat→Nat→Bool} {k:Nat} {r:List Nat×List (List Oe)} {o:Nat} (h:r.1[r.2.length]? =some o):yp C f (k+1) r=yp C f k ((mg C f o r.1 256).1,r.2++[(mg C f o r.1 256).2]):=by
 rw[yp,h]
section
variable (call:Za) {C:List (List Int)} (hC:GI C) (hge:∀ r∈C,∀ v∈r,-2≤v) {f:Nat→Nat→Bool} (hf:∀ a,f a a=false)
include hC hge hf
theorem PT (k:Nat) (o0 o2 o3:ba) (h0:∀ n,ma n o0=some o0) (h2:ma 5 o2=some o2) (h3:∀ n,ma n o3=some o3) {O:List Nat} (hO:Yv C.length O) {o:Nat} (hk:O[k]? =some o):
 Td (fun r=>∃ E fl,r=(.exit 2,⟨E,[o0,.tok 1 (mg C f o O 256).1.length false,o2,o3,ur (mg C f o O 256).2 fl]⟩)∧E.get 2= .ptr 0 0∧E.get 7= .pv (.lit 256 (C.map yi))∧E.get 9= .pv (Rj C.length f)∧E.get 10= .uq 1 false 1 (ints (mg C f o O 256).1)∧E.get 11= .ptr 2 0∧E.get 12= .pv (i64 k)∧E.get 13= .own 4 (mg C f o O 256).2.length)
  (gb (fa (ta call We) (ga 5 [2,7,9,10,11,12,13,14])) oa ⟨mU (.lit 256 (C.map yi)) (Rj C.length f) (ints O) k 0 0,[o0,.tok 1 O.length false,o2,o3,ur [] 0]⟩):=by
 have hkO:=(List.getElem?_eq_some_iff.1 hk).1
 have hko:O[k]=o:=(List.getElem?_eq_some_iff.1 hk).2
 have ho:o < C.length:=by rw[← hko];exact hO.lt _ (List.getElem_mem hkO)
 refine xa (Nb (g:=fa (ta call We) (ga 5 [2,7,9,10,11,12,13,14]))
  (fun x t=>∃ fl,fl≤(mg C f o O x).2.length * 3∧t=⟨mU (.lit 256 (C.map yi)) (Rj C.length f) (ints (mg C f o O x).1) k (mg C f o O x).2.length x,[o0,.tok 1 (mg C f o O x).1.length false,o2,o3,ur (mg C f o O x).2 fl]⟩)
  256 (by unfold oa;omega) _ ⟨0,by omega,rfl⟩ ?_ ?_) (fun r h=>h.2)
 ·rintro x t hx ⟨fl,hfl,rfl⟩
  obtain⟨q1,⟨t,q2⟩,q3⟩:=IA hC hf ho hO x (by omega)
  have hk':(mg C f o O x).1[k]? =some o:=by rw[q2,List.getElem?_append_left hkO];exact hk
  refine xa (DD call hC hge k o0 o2 o3 h0 h2 h3 q1 hk' hx q3 hfl) ?_
  rintro r ⟨fl',hfl',rfl⟩
  have:Lm C f o ((mg C f o O x).1,(mg C f o O x).2) x=mg C f o O (x+1):=(Oy C f o O x).symm
  rw[this] at hfl' ⊢
  exact⟨fl',hfl',rfl⟩
 ·rintro t ⟨fl,hfl,rfl⟩
  have e1:decide (((256:Nat):Int) < 256)=false:=Ha (by omega)
  generalize mg C f o O 256=r at *
  have hfin:∀ E:Tr,E.get 2= .ptr 0 0→E.get 7= .pv (.lit 256 (C.map yi))→E.get 9= .pv (Rj C.length f)→E.get 10= .uq 1 false 1 (ints r.1)→E.get 11= .ptr 2 0→E.get 12= .pv (i64 k)→E.get 13= .own 4 r.2.length→
   (Ex.exit 2,(⟨E,[o0,.tok 1 r.1.length false,o2,o3,ur r.2 fl]⟩:St)).1.stop=true∧∃ E' fl',(Ex.exit 2,(⟨E,[o0,.tok 1 r.1.length false,o2,o3,ur r.2 fl]⟩:St))=(.exit 2,⟨E',[o0,.tok 1 r.1.length false,o2,o3,ur r.2 fl']⟩)∧E'.get 2= .ptr 0 0∧E'.get 7= .pv (.lit 256 (C.map yi))∧E'.get 9= .pv (Rj C.length f)∧E'.get 10= .uq 1 false 1 (ints r.1)∧E'.get 11= .ptr 2 0∧E'.get 12= .pv (i64 k)∧E'.get 13= .own 4 r.2.length:=
   fun E k2 k7 k9 k10 k11 k12 k13=>⟨rfl,E,fl,rfl,k2,k7,k9,k10,k11,k12,k13⟩
  generalize hQ:(fun r:Ex×St=>r.1.stop=true∧_)=Q
  generalize (PV.lit 256 (C.map yi))=L at *
  generalize Rj C.length f=M at *
  generalize ints r.1=os at *
  generalize ur r.2 fl=o4 at *
  simp -implicitDefEqProofs only[SX,sevalprocAttr,Bw,e1,mU]
  subst hQ
  exact hfin _ (by simp[Tr.aa]) (by simp[Tr.aa]) (by simp[Tr.aa]) (by simp[Tr.aa]) (by simp[Tr.aa]) (by simp[Tr.aa]) (by simp[Tr.aa])
end
abbrev XW (L M:PV) (O:List PV) (k:Nat):Tr:=
 (((((Tr.lf.set 12 (.pv (i64 k))).set 11 (.ptr 2 0)).set 10 (.uq 1 false 1 O)).set 9 (.pv M)).set 7 (.pv L)).set 2 (.ptr 0 0)
abbrev Ry (nl:Bool) (es:List PV):ba:= .box [.uq 3 nl 1 es]
abbrev zC (out:List (List Oe)):List PV:=out.map ee
section
variable (call:Za) {C:List (List Int)} (hC:GI C) (hge:∀ r∈C,∀ v∈r,-2≤v) {f:Nat→Nat→Bool} (hf:∀ a,f a a=false)
include hC hge hf
theorem TE (o0:ba) (h0:∀ n,ma n o0=some o0) {O:List Nat} (hO:Yv C.length O) {out:List (List Oe)} {o:Nat} (hk:O[out.length]? =some o):
 Td (fun r=>r=(.norm,⟨XW (.lit 256 (C.map yi)) (Rj C.length f) (ints (mg C f o O 256).1) (out.length+1),[o0,.tok 1 (mg C f o O 256).1.length false,Ry false (zC (out++[(mg C f o O 256).2])),.tok 1 (out.length+1) false]⟩))
  (fa (ta call Rc) (ga 4 [2,7,9,10,11,12]) ⟨XW (.lit 256 (C.map yi)) (Rj C.length f) (ints O) out.length,[o0,.tok 1 O.length false,Ry out.isEmpty (zC out),.tok 1 out.length out.isEmpty]⟩):=by
 have hkO:=(List.getElem?_eq_some_iff.1 hk).1
 have hko:O[out.length]=o:=(List.getElem?_eq_some_iff.1 hk).2
 have hO64:O.length≤64:=Nat.le_trans hO.len hC.sz
 have ho:o < C.length:=by rw[← hko];exact hO.lt _ (List.getElem_mem hkO)
 have hlO:(ints O).length=O.length:=by rw[List.length_map]
 have hlo:(zC out).length=out.length:=by rw[List.length_map]
 have e1:decide ((out.length:Int) < (O.length:Int))=true:=Da (by omega)
 have t2:IntKind.i64.wrap ((out.length:Int)+1)=((out.length+1:Nat):Int):=Ba (by omega)
 have hc2:∀ nl es,ma 5 (Ry nl es)=some (Ry nl es):=fun nl es=>rfl
 have hl1:=PT call hC hge hf out.length o0 (Ry out.isEmpty (zC out)) (.tok 1 out.length out.isEmpty) h0 (hc2 _ _) (fun n=>rfl) hO hk
 have hcl5:∀ (m:Nat) (nl:Bool) (es:List PV) (n:Nat) (l:List Oe) (fl:Nat),Qa (ma 5) [o0,.tok 1 m false,Ry nl es,.tok 1 n nl,ur l fl]=some [o0,.tok 1 m false,Ry nl es,.tok 1 n nl,ur l fl]:=by
  intro m nl es n l fl
  have c1:∀ m nl,ma 5 (.tok 1 m nl)=some (.tok 1 m nl):=fun m nl=>rfl
  simp only[Qa,h0,hc2,c1,rN,Option.bind_some,Option.map_some]
 have hc24:∀ nl es,ma 4 (Ry nl es)=some (Ry nl es):=fun nl es=>rfl
 have hcl4:∀ (m:Nat) (nl:Bool) (es:List PV) (n:Nat),Qa (ma 4) [o0,.tok 1 m false,Ry nl es,.tok 1 n nl]=some [o0,.tok 1 m false,Ry nl es,.tok 1 n nl]:=by
  intro m nl es n
  have c1:∀ m nl,ma 4 (.tok 1 m nl)=some (.tok 1 m nl):=fun m nl=>rfl
  simp only[Qa,h0,hc24,c1,Option.bind_some,Option.map_some]
 have hez:ba.seq 3 true [] 0 true=ur [] 0:=rfl
 have htk5:∀ a b c d e:ba,([a,b,c,d,e]:List ba).take 5=[a,b,c,d,e]:=fun a b c d e=>rfl
 have htk4:∀ a b c d e:ba,([a,b,c,d,e]:List ba).take 4=[a,b,c,d]:=fun a b c d e=>rfl
 have d50:(0 < 5)=True:=by simp
 have d51:(1 < 5)=True:=by simp
 have d52:(2 < 5)=True:=by simp
 have d54:(4 < 5)=True:=by simp
 have d40:(0 < 4)=True:=by simp
 have d41:(1 < 4)=True:=by simp
 have d42:(2 < 4)=True:=by simp
 have g3:(0 < 3)=True:=by simp
 generalize hr:mg C f o O 256=r at *
 obtain⟨O',l⟩:=r
 simp only at hl1 ⊢
 have hfz:∀ (E:Tr) (fl:Nat) (a b c d:ba),E.get 13= .own 4 l.length→Vf (.freeze 13) ⟨E,[a,b,c,d,ur l fl]⟩=some ⟨E.set 13 (.pv (ee l)),[a,b,c,d,.dead]⟩:=by
  intro E fl a b c d h
  have h1:l.length * 3=(Ka (bd l)).length:=by rw[fb,Yj]
  simp only[Vf,h,List.getElem?_cons_succ,List.getElem?_cons_zero,ur]
  rw[if_pos ⟨h1,rfl⟩,List.set_cons_succ,List.set_cons_succ,List.set_cons_succ,List.set_cons_succ,List.set_cons_zero]
  cases hl:l with
  |nil=>rfl
  |cons e l'=>
   rw[← hl]
   have:l.isEmpty=false:=by rw[hl];rfl
   rw[this]
   simp only[Bool.false_eq_true,if_false]
   have h2:nf (Ka (bd l))=some ((bd l).map i64):=by rw[Ys,uf]
   rw[h2,Option.map_some,RM,ee,this]
   rfl
 have hpl:∀ (a b c d:ba) nl es,place [a,b,Ry nl es,c,d] 0 (.ptr 2 0)=some (.ptr 2 0):=fun a b c d nl es=>rfl
 have hld:∀ (a b c d:ba) nl es,ya [a,b,Ry nl es,c,d] false 1 (.ptr 2 0)=some (.uq 3 nl 1 es):=fun a b c d nl es=>rfl
 have hst:∀ (a b c d:ba) nl nl' es es',Ra [a,b,Ry nl es,c,d] 1 (.ptr 2 0) (.uq 3 nl' 1 es')=some [a,b,Ry nl' es',c,d]:=fun a b c d nl nl' es es'=>rfl
 have hap:ic [o0,.tok 1 O'.length false,Ry out.isEmpty (zC out),.tok 1 out.length out.isEmpty,.dead] false .uq 1 false 24 (.uq 3 out.isEmpty 1 (zC out)) (.pv (.lit 1 [ee l]))=some (.uq 3 false 1 (zC (out++[l])),[o0,.tok 1 O'.length false,Ry out.isEmpty (zC out),.tok 1 (out.length+1) false,.dead]):=by
  have:=qj (A:=[o0,.tok 1 O'.length false,Ry out.isEmpty (zC out),.tok 1 out.length out.isEmpty,.dead]) (id:=3) (n:=out.length) (sz:=1) (h:= .uq) (nl:=out.isEmpty) (ag:=false) (bytes:=24) (es:=zC out) rfl hlo.symm (by unfold pb;omega) (ee l)
  rw[this]
  simp[zC]
 have hone:(AV.pv (ee l)).one=true:=by unfold ee;split <;> rfl
 have hcel:(AV.pv (ee l)).cells=[.pv (ee l)]:=by unfold ee;split <;> rfl
 have hpu:(AV.pv (ee l)).cF= .pv (ee l):=by unfold ee;split <;> rfl
 have hpc:(ee l).cells=[ee l]:=by unfold ee;split <;> rfl
 have hcl5z:=hcl5 O.length out.isEmpty (zC out) out.length [] 0
 have hcl4z:=hcl4 O'.length false (zC (out++[l])) (out.length+1)
 generalize ee l=el at *
 generalize hQQ:(fun r:Ex×St=>_)=QQ
 generalize hL:(PV.lit 256 (C.map yi))=L at *
 generalize hM:Rj C.length f=M at *
 generalize hos:ints O=os at *
 generalize hos':ints O'=os' at *
 generalize hou:zC out=ou at *
 generalize hou':zC (out++[l])=ou' at *
 generalize hzb:ur [] 0=zb at *
 generalize hob:Ry out.isEmpty ou=ob at *
 simp -implicitDefEqProofs only[SP,WP,na,sevalprocAttr,Rc,hlO,e1,Vf,g3,hez,xb,hcl5z,htk5,d50,d51,d52,d54,ga,za,AV.cut,wa,XW]
 refine xa hl1 ?_
 rintro r ⟨E,fl,rfl,k2,k7,k9,k10,k11,k12,k13⟩
 have hfz':=hfz E fl o0 (.tok 1 O'.length false) ob (.tok 1 out.length out.isEmpty) k13
 subst hob
 simp -implicitDefEqProofs only[SP,WP,na,sevalprocAttr,hfz',k2,k7,k9,k10,k11,k12,hpl,hld,hap,hst,Zi,hone,hcel,hpu,hpc,t2,hcl4z,htk4,d40,d41,d42,ga,za,AV.cut,wa]
 subst hQQ
 rfl
end
end Go.AM.B1
namespace Go.AM.B1
open Go.AM Go.AM.So
theorem rB (eb:List Int):∀ (xs:List Nat) (r:List Int×List Int),Gd eb xs r=xs.foldl (fun r x=>Si x (eb.getD x 0) r) r
 | [],r=>rfl
 |x::xs,r=>by rw[Gd,rB eb xs,List.foldl_cons]
theorem Sy (row:List Int):∀ (xs:List Nat) (l:List Oe),ye row xs l=xs.foldl (fun l (x:Nat)=>Qf x (row.getD x 0) l) l
 | [],l=>rfl
 |x::xs,l=>by rw[ye,Sy row xs,List.foldl_cons]
theorem foldl_congr {α β:Type} {f g:β→α→β}:∀ (l:List α) (b:β),(∀ b,∀ a∈l,f b a=g b a)→l.foldl f b=l.foldl g b
 | [],b,_=>rfl
 |a::l,b,h=>by
  rw[List.foldl_cons,List.foldl_cons,h b a (by simp)]
  exact foldl_congr l _ fun b a' ha=>h b a' (by simp[ha])
theorem eL {v:Int} {co:Nat→Int} {p:Nat→Bool}:∀ (O:List Nat) (k:Nat),(∀ o∈O,(v=co o↔p o=true))→
 Ft v (O.map co) k=if O.findIdx p < O.length then some (k+O.findIdx p) else none
 | [],k,_=>by simp[Ft]
 |o::O,k,h=>by
  rw[List.map_cons,Ft,List.findIdx_cons]
  have ho:=h o (by simp)
  by_cases hp:p o=true
  ·rw[if_pos (ho.2 hp),hp];simp
  ·have hp':p o=false:=by simpa using hp
   rw[if_neg fun e=>hp (ho.1 e),hp',eL O (k+1) fun o' ho'=>h o' (by simp[ho'])]
   simp only[cond_false,List.length_cons]
   by_cases hlt:O.findIdx p < O.length
   ·rw[if_pos hlt,if_pos (by omega)];congr 1;omega
   ·rw[if_neg hlt,if_neg (by omega)]
def co (C:List (List Int)) (o:Nat):Int:=if o=0 then 0 else cls C o
section
variable {ss:List dc} {sets:List Al} {C:List (List Int)} (Aa:Hc ss) (hpre:gh ss) (W:yl ss sets C) (hl:C.length=sets.length)
 {f:Nat→Nat→Bool} (hf:∀ a,f a a=false) (hK:∀ i j,i < C.length→j < C.length→(f i j=false↔cls C i=cls C j))
include Aa hpre W hl hf hK
omit hf hK in
theorem qO {t:Nat} (h0:0 < t) (ht:t < C.length):cls C t≠0:=by
 intro h
 have h1:=(W.gy hl).Oo ht
 have h2:(Ie C.length C.flatten).yc.getD t 0=0:=h
 rw[h2] at h1
 exact W.MB Aa hpre hl h0 ht (((W.gy hl).QJ (by omega) ht).2 h1.2.2)
omit Aa hpre hf hK in
theorem YH {o x:Nat} (ho:o < C.length) (hx:x < 256):(Wa (Ie C.length C.flatten).C (co C o).toNat).getD x 0=aq C o x:=by
 rw[← W.XP hl ho hx]
 unfold co
 by_cases h:o=0
 ·rw[if_pos h,h];rfl
 ·rw[if_neg h]
  have:=((W.gy hl).Oo ho).2.2
  unfold cls
  rw[this]
omit hf in
theorem iN {O:List Nat} (hO:Yv C.length O) {t:Nat} (h0:0 < t) (ht:t < C.length):Ft (cls C t) (O.map (co C)) 0=if O.findIdx (fun o=> !f o t) < O.length then some (O.findIdx (fun o=> !f o t)) else none:=by
 rw[eL (p:=fun o=> !f o t)]
 ·simp
 ·intro o ho
  have hoC:=hO.lt o ho
  unfold co
  by_cases hz:o=0
  ·subst hz
   rw[if_pos rfl]
   constructor
   ·intro h;exact absurd h (qO Aa hpre W hl h0 ht)
   ·intro h
    have:f 0 t=false:=by simpa using h
    exact absurd ((hK 0 t (by omega) ht).1 this) (W.MB Aa hpre hl h0 ht)
  ·rw[if_neg hz]
   have:=hK o t hoC ht
   constructor
   ·intro h;have:=this.2 h.symm;simp[this]
   ·intro h;exact (this.1 (by simpa using h)).symm
structure pW (C:List (List Int)) (o:Nat) (x:Nat) (rt:List Int×List Int) (rr:List Nat×List Oe):Prop where
 ord:Yv C.length rr.1
 fst:rt.1=rr.1.map (co C)
 len:rt.2.length=256
 rest:∀ y,x≤y→y < 256→rt.2.getD y 0=aq C o y
 zW:rr.2=(List.range x).foldl (fun l (y:Nat)=>Qf y (rt.2.getD y 0) l) []
theorem fR {o x:Nat} (ho:o < C.length) (hx:x < 256) {rt:List Int×List Int} {rr:List Nat×List Oe} (h:pW C o x rt rr):pW C o (x+1) (Si x (aq C o x) rt) (Lm C f o rr x):=by
 have hbd:=W.bound hl ho hx
 have hcur:=h.rest x (Nat.le_refl _) hx
 have hkeep:∀ (row:List Int) (l:List Oe),(∀ y,y≠x→row.getD y 0=rt.2.getD y 0)→l=Qf x (row.getD x 0) rr.2→l=(List.range (x+1)).foldl (fun l (y:Nat)=>Qf y (row.getD y 0) l) []:=by
  intro row l h1 h2
  rw[List.range_succ,List.foldl_append,h2,h.zW]
  show Qf x _ _=Qf x _ _
  congr 1
  refine foldl_congr _ _ fun b a ha=> ?_
  have:a < x:=by simpa using ha
  rw[h1 a (by omega)]
 by_cases hneg:Dg C o x < 0
 ·have hn:aq C o x=Dg C o x:=by unfold aq;rw[if_neg (by omega)]
  have ht:Si x (aq C o x) rt=rt:=by unfold Si;rw[if_pos (by omega)]
  rw[ht]
  have hr1:(Lm C f o rr x).1=rr.1:=by
   unfold Lm yf
   split
   ·rfl
   ·first | rfl | rw[if_pos hneg]
  have hr2:(Lm C f o rr x).2=Qf x (rt.2.getD x 0) rr.2:=by
   rw[hcur,hn]
   unfold Lm yf
   split
   ·next h2=>rw[h2,Dy]
   ·first | rfl | rw[if_pos hneg]
  exact⟨by rw[hr1];exact h.ord,by rw[hr1];exact h.fst,h.len,fun y h1 h2=>h.rest y (by omega) h2,hkeep _ _ (fun _ _=>rfl) hr2⟩
 ·obtain⟨t,ht⟩:∃ t:Nat,Dg C o x=t:=⟨(Dg C o x).toNat,by omega⟩
  have hdeep:=W.TA hl ho hx (by omega)
  have h0:0 < t:=by omega
  have htC:t < C.length:=by omega
  have hn:aq C o x=cls C t:=by unfold aq;rw[if_pos (by omega),ht,Int.toNat_natCast]
  have hnn:=W.gL hl htC
  have hsc:=iN Aa hpre W hl hK h.ord h0 htC
  have hrf:Lm C f o rr x=(if rr.1.findIdx (fun o=> !f o t)=rr.1.length then rr.1++[t] else rr.1,Qf x (rr.1.findIdx (fun o=> !f o t):Int) rr.2):=by
   unfold Lm yf
   rw[if_neg (by omega),if_neg hneg,ht,Int.toNat_natCast]
  have hoC:=(OD hf h.ord (to:=(t:Int)) (by omega)).1
  have hcl:(yf f rr.1 (t:Int)).1=if rr.1.findIdx (fun o=> !f o t)=rr.1.length then rr.1++[t] else rr.1:=by
   unfold yf
   rw[if_neg (by omega),Int.toNat_natCast]
  rw[hcl] at hoC
  have hle:rr.1.findIdx (fun o=> !f o t)≤rr.1.length:=List.findIdx_le_length
  rw[hrf]
  have hset:∀ v:Int,(∀ y,y≠x→(rt.2.set x v).getD y 0=rt.2.getD y 0)∧(rt.2.set x v).getD x 0=v:=by
   intro v
   refine⟨fun y hy=> ?_,?_⟩
   ·rw[List.getD_eq_getElem?_getD,List.getElem?_set_ne (Ne.symm hy),←List.getD_eq_getElem?_getD]
   ·rw[List.getD_eq_getElem?_getD,List.getElem?_set_self (by rw[h.len];exact hx)];rfl
  by_cases hlt:rr.1.findIdx (fun o=> !f o t) < rr.1.length
  ·rw[if_pos hlt] at hsc
   have htd:Si x (aq C o x) rt=(rt.1,rt.2.set x (rr.1.findIdx (fun o=> !f o t):Int)):=by
    unfold Si
    rw[hn,if_neg (by omega),h.fst,hsc]
   rw[htd,if_neg (by omega)]
   refine⟨h.ord,h.fst,by simp[h.len],fun y h1 h2=> ?_,?_⟩
   ·rw[(hset _).1 y (by omega)];exact h.rest y (by omega) h2
   ·exact hkeep _ _ (hset _).1 (by rw[(hset _).2])
  ·rw[if_neg hlt] at hsc
   have hfe:rr.1.findIdx (fun o=> !f o t)=rr.1.length:=by omega
   have htd:Si x (aq C o x) rt=(rt.1++[cls C t],rt.2.set x (rt.1.length:Int)):=by
    unfold Si
    rw[hn,if_neg (by omega),h.fst,hsc]
   rw[if_pos hfe] at hoC
   rw[htd,if_pos hfe]
   have hll:rt.1.length=rr.1.length:=by rw[h.fst,List.length_map]
   refine⟨hoC,?_,by simp[h.len],fun y h1 h2=> ?_,?_⟩
   ·simp only[List.map_append,List.map_cons,List.map_nil,h.fst]
    unfold co
    rw[if_neg (by omega:¬t=0)]
   ·rw[(hset _).1 y (by omega)];exact h.rest y (by omega) h2
   ·exact hkeep _ _ (hset _).1 (by rw[(hset _).2,hll,hfe])
theorem sS {o:Nat} (ho:o < C.length) {O:List Nat} (hO:Yv C.length O):dg (Ie C.length C.flatten).C (co C o) (O.map (co C))=((mg C f o O 256).1.map (co C),(dg (Ie C.length C.flatten).C (co C o) (O.map (co C))).2)∧
 Wf (dg (Ie C.length C.flatten).C (co C o) (O.map (co C))).2=(mg C f o O 256).2∧Yv C.length (mg C f o O 256).1:=by
 have hrl:(Wa (Ie C.length C.flatten).C (co C o).toNat).length=256:=by
  refine Yh (W.gy hl).hC ?_
  unfold co
  split
  ·simp;omega
  ·have:=(W.gy hl).Oo ho
   unfold cls;omega
 have key:∀ x,x≤256→pW C o x ((List.range x).foldl (fun r x=>Si x ((Wa (Ie C.length C.flatten).C (co C o).toNat).getD x 0) r) (O.map (co C),Wa (Ie C.length C.flatten).C (co C o).toNat)) (mg C f o O x):=by
  intro x
  induction x with
  |zero=>
   intro _
   exact⟨hO,rfl,hrl,fun y _ hy=>YH W hl ho hy,rfl⟩
  |succ x ih=>
   intro hx
   have h1:=fR Aa hpre W hl hf hK ho (show x < 256 by omega) (ih (by omega))
   rw[Oy,List.range_succ,List.foldl_append]
   have h2:(Wa (Ie C.length C.flatten).C (co C o).toNat).getD x 0=aq C o x:=YH W hl ho (by omega)
   show pW C o (x+1) (Si x ((Wa (Ie C.length C.flatten).C (co C o).toNat).getD x 0) _) _
   rw[h2]
   exact h1
 have h:=key 256 (Nat.le_refl _)
 unfold dg
 rw[rB]
 refine⟨?_,?_,h.ord⟩
 ·rw[← h.fst]
 ·rw[Wf,Sy];exact h.zW.symm
theorem pN:∀ (k:Nat) (O:List Nat) (out:List (List Oe)),Yv C.length O→wj (Ie C.length C.flatten).C k (O.map (co C),out)=((yp C f k (O,out)).1.map (co C),(yp C f k (O,out)).2)
 |0,O,out,_=>rfl
 |k+1,O,out,hO=>by
  cases ho:O[out.length]? with
  |none=>
   have h1:(O.map (co C))[out.length]? =none:=by rw[List.getElem?_map,ho];rfl
   rw[Gq h1,ZF (r:=(O,out)) ho]
  |some o=>
   have h1:(O.map (co C))[out.length]? =some (co C o):=by rw[List.getElem?_map,ho];rfl
   have hoC:=hO.lt o (List.mem_of_getElem? ho)
   obtain⟨q1,q2,q3⟩:=sS Aa hpre W hl hf hK hoC hO
   rw[br (r:=(O.map (co C),out)) h1,PE (r:=(O,out)) ho,q2]
   have q4:(dg (Ie C.length C.flatten).C (co C o) (O.map (co C))).1=(mg C f o O 256).1.map (co C):=by rw[q1]
   simp only[q4]
   exact pN k _ _ q3
theorem eT (hn:0 < C.length):rn (Ie C.length C.flatten).C=(yp C f 64 ([0],[])).2:=by
 have h:=pN Aa hpre W hl hf hK 64 [0] [] ⟨by simp,by simp;exact hn⟩
 have h0:([0]:List Nat).map (co C)=[0]:=rfl
 unfold rn
 rw[← h0,h]
end
end Go.AM.B1
namespace Go.AM.B1
open Go.AM Go.AM.So
attribute [local irreducible] Td
section
variable (call:Za) {C:List (List Int)} (hC:GI C) (hge:∀ r∈C,∀ v∈r,-2≤v) {f:Nat→Nat→Bool} (hf:∀ a,f a a=false)
include hC hge hf
theorem zS (hn:0 < C.length) (o0:ba) (h0:∀ n,ma n o0=some o0):
 Td (fun r=>∃ E O,r=(.exit 0,⟨E,[o0,.tok 1 O false,Ry (yp C f 64 ([0],[])).2.isEmpty (zC (yp C f 64 ([0],[])).2),.tok 1 (yp C f 64 ([0],[])).2.length (yp C f 64 ([0],[])).2.isEmpty]⟩)∧E.get 2= .ptr 0 0∧E.get 11= .ptr 2 0∧0 < (yp C f 64 ([0],[])).2.length)
  (gb (fa (ta call Rc) (ga 4 [2,7,9,10,11,12])) oa ⟨XW (.lit 256 (C.map yi)) (Rj C.length f) (ints [0]) 0,[o0,.tok 1 1 false,Ry true (zC []),.tok 1 0 true]⟩):=by
 have hsz:=hC.sz
 refine xa (Iq (g:=fa (ta call Rc) (ga 4 [2,7,9,10,11,12]))
  (fun k t=>∃ (O:List Nat) (out:List (List Oe)),t=⟨XW (.lit 256 (C.map yi)) (Rj C.length f) (ints O) out.length,[o0,.tok 1 O.length false,Ry out.isEmpty (zC out),.tok 1 out.length out.isEmpty]⟩∧k+out.length=64∧Yv C.length O∧0 < O.length∧out.length≤O.length∧yp C f 64 ([0],[])=yp C f k (O,out))
  oa 64 _ (by unfold oa;omega) ⟨[0],[],rfl,rfl,⟨by simp,by simp;exact hn⟩,by simp,by simp,rfl⟩ ?_) (fun r h=>h.2)
 rintro k t ⟨O,out,rfl,hk,hO,hpos,hle,hs⟩
 have hOl:=hO.len
 cases ho:O[out.length]? with
 |some o=>
  have hlt:=(List.getElem?_eq_some_iff.1 ho).1
  obtain⟨k',rfl⟩:∃ k',k=k'+1:=⟨k - 1,by omega⟩
  have hoC:=hO.lt o (List.mem_of_getElem? ho)
  obtain⟨q1,⟨t,q2⟩,_⟩:=IA hC hf hoC hO 256 (Nat.le_refl _)
  refine xa (TE call hC hge hf o0 h0 hO ho) ?_
  rintro r rfl
  have hie:(out++[(mg C f o O 256).2]).isEmpty=false:=by cases out <;> rfl
  have hlo:(out++[(mg C f o O 256).2]).length=out.length+1:=by simp
  refine⟨k',by omega,(mg C f o O 256).1,out++[(mg C f o O 256).2],by rw[hie,hlo],by rw[hlo];omega,q1,?_,?_,?_⟩
  ·rw[q2,List.length_append];omega
  ·rw[hlo,q2,List.length_append];omega
  ·rw[hs,PE (r:=(O,out)) ho]
 |none=>
  have hge2:O.length≤out.length:=by
   rcases Nat.lt_or_ge out.length O.length with h | h
   ·rw[List.getElem?_eq_getElem h] at ho;cases ho
   ·exact h
  rw[ZF (r:=(O,out)) ho] at hs
  rw[hs]
  have e1:decide ((out.length:Int) < (O.length:Int))=false:=Ha (by omega)
  have hlO:(ints O).length=O.length:=by rw[List.length_map]
  have hgen:Td (fun r=>∃ E,r=(.exit 0,⟨E,[o0,.tok 1 O.length false,Ry out.isEmpty (zC out),.tok 1 out.length out.isEmpty]⟩)∧E.get 2= .ptr 0 0∧E.get 11= .ptr 2 0)
   (fa (ta call Rc) (ga 4 [2,7,9,10,11,12]) ⟨XW (.lit 256 (C.map yi)) (Rj C.length f) (ints O) out.length,[o0,.tok 1 O.length false,Ry out.isEmpty (zC out),.tok 1 out.length out.isEmpty]⟩):=by
   generalize hQ:(fun r:Ex×St=>_)=Q
   generalize (PV.lit 256 (C.map yi))=L at *
   generalize Rj C.length f=M at *
   generalize hos:ints O=os at *
   generalize Ry out.isEmpty (zC out)=ob at *
   simp -implicitDefEqProofs only[SX,sevalprocAttr,-List.reduceReplicate,Rc,hlO,e1,XW]
   subst hQ
   exact⟨_,rfl,by simp[Tr.aa],by simp[Tr.aa]⟩
  refine xa hgen ?_
  rintro r ⟨E,rfl,k2,k11⟩
  exact⟨E,O.length,rfl,k2,k11,by show 0 < out.length;omega⟩
end
theorem On {S:PV} {ss:List dc} {es:List PV} (hS:Ab S ss es):
 (¬ Hc ss→Ya [.agg [S]]=some (.Zb [.agg [.pa],i64 84]))∧
 (Hc ss→¬gh ss→Ya [.agg [S]]=some (.Zb [.agg [.pa],i64 110]))∧
 (Hc ss→gh ss→vh ss=none→Ya [.agg [S]]=some (.Zb [.agg [.pa],i64 130]))∧
 (Hc ss→gh ss→∀ l,vh ss=some l→Ya [.agg [S]]=some (.Zb [.agg [Ai l],i64 0])):=by
 have hS1:(AV.pv S).one=true:=by rcases hS.is with⟨h,_⟩ | h <;> rw[h] <;> rfl
 have hp:=JD hS
 have st0:∀ (a:PV),Ra [.box [.pv .pa]] 1 (.ptr 0 0) (.pv (.agg [.pa]))=some [.box [.pv .pa]]:=fun a=>rfl
 have ld0:ya [.box [.pv .pa]] true 1 (.ptr 0 0)=some (.pv (.agg [.pa])):=rfl
 refine⟨?_,?_,?_,?_⟩
 ·intro h
  have h1:=hp.1 h
  have b1:((84:Int) != 0)=true:=by decide
  simp -implicitDefEqProofs only[Ya,SX,sevalprocAttr,-List.reduceReplicate,Ue,hS1,Pf,h1,b1,st0 .pa,ld0]
 ·intro Aa hpre
  obtain⟨b,h1,hb⟩:=hp.2 Aa
  have:b=false:=by cases b with | false=>rfl | true=>exact absurd (hb.1 rfl) hpre
  subst this
  have b1:((0:Int) != 0)=false:=by decide
  simp -implicitDefEqProofs only[Ya,SX,sevalprocAttr,-List.reduceReplicate,Ue,hS1,Pf,h1,b1,st0 .pa,ld0]
 ·intro Aa hpre hau
  obtain⟨b,h1,hb⟩:=hp.2 Aa
  have:=hb.2 hpre
  subst this
  have hn:Qg ss 64 (Pg ss,[])=none:=by unfold vh at hau;simpa using hau
  have h2:=(MJ hS Aa).2 hn
  have b1:((0:Int) != 0)=false:=by decide
  simp -implicitDefEqProofs only[Ya,SX,sevalprocAttr,-List.reduceReplicate,Ue,hS1,Pf,h1,h2,b1,st0 .pa,ld0]
 ·intro Aa hpre l hau
  obtain⟨b,h1,hb⟩:=hp.2 Aa
  have:=hb.2 hpre
  subst this
  obtain⟨p,hn,hl⟩:∃ r,Qg ss 64 (Pg ss,[])=some r∧rn (Ie r.2.length r.2.flatten).C=l:=by
   unfold vh at hau;simpa using hau
  obtain⟨h2,_⟩:=(MJ hS Aa).1 p hn
  obtain⟨W,hlen⟩:=qG Aa.len Aa.ne hn
  have hpos:0 < p.2.length:=by
   have:=(List.getElem?_eq_some_iff.1 W.first).1
   omega
  obtain⟨f,hK,h3⟩:=ZO (W.ae hlen) hpos (W.MX hlen)
  have hff:∀ a,f a a=false:=fun a=>by
   cases h:f a a with
   |false=>rfl
   |true=>exact absurd rfl (hK.snd a a h)
  have hfk:=W.known hlen hK
  have htr:=eT Aa hpre W hlen hff hfk hpos
  have hl0:=zS (Ga (fun _=>none) 8) (W.ae hlen) (W.ge hlen) hff hpos (.box [.pv .pa]) (fun n=>rfl)
  rw[htr] at hl
  rw[hl] at hl0
  have b1:((0:Int) != 0)=false:=by decide
  have hi0:ints [0]=[i64 0]:=rfl
  have ho0:zC []=[]:=rfl
  rw[hi0,ho0] at hl0
  have key:Td (fun r=>r=PV.Zb [.agg [Ai l],i64 0]) (Ya [.agg [S]]):=by
   have hes:Ai l= .lit 1 (zC l):=rfl
   have hne:0 < l.length→l.isEmpty=false:=fun h=>by cases l with | nil=>simp at h | cons=>rfl
   have g1:(0 < 1)=True:=by simp
   have st1:Ra [.box [.pv .pa],.tok 1 1 false,.box [.pv .pa]] 1 (.ptr 2 0) (.pv (.agg [.pa]))=some [.box [.pv .pa],.tok 1 1 false,.box [.pv .pa]]:=rfl
   have hc4:Qa (ma 4) [.box [.pv .pa],.tok 1 1 false,Ry true [],.tok 1 0 true]=some [.box [.pv .pa],.tok 1 1 false,Ry true [],.tok 1 0 true]:=rfl
   have htk:∀ a b c d:ba,([a,b,c,d]:List ba).take 4=[a,b,c,d]:=fun a b c d=>rfl
   have d40:(0 < 4)=True:=by simp
   have d41:(1 < 4)=True:=by simp
   have d42:(2 < 4)=True:=by simp
   generalize hQQ:(fun r:PV=>_)=QQ
   generalize (PV.lit 256 (p.2.map yi))=L at *
   generalize hM:Rj p.2.length f=M at *
   have hMo:(AV.pv M).one=true:=by rw[← hM];rfl
   generalize p.1.map Re=se at *
   simp -implicitDefEqProofs only[Ya,SP,WP,na,sevalprocAttr,-List.reduceReplicate,Ue,hS1,Pf,h1,h2,h3,b1,st1,Vf,g1,Zi,AV.cF,AV.Up,xb,hc4,htk,d40,d41,d42,ga,za,AV.cut,wa]
   refine xa hl0 ?_
   rintro r ⟨E,O,rfl,k2,k11,hpos2⟩
   rw[hne hpos2]
   have ld1:∀ (out:List PV) (a b:ba),ya [.box [.pv .pa],a,Ry false out,b] true 1 (.ptr 2 0)=some (.agg [.uq 3 false 1 out]):=fun out a b=>rfl
   have st2:∀ (out:List PV) (a b c:ba),Ra [.box [.pv .pa],a,b,c] 1 (.ptr 0 0) (.agg [.uq 3 false 1 out])=some [Ry false out,a,b,c]:=fun out a b c=>rfl
   have ld2:∀ (out:List PV) (a b c:ba),ya [Ry false out,a,b,c] true 1 (.ptr 0 0)=some (.agg [.uq 3 false 1 out]):=fun out a b c=>rfl
   generalize zC l=out at *
   simp -implicitDefEqProofs only[SP,WP,na,sevalprocAttr,-List.reduceReplicate,k2,k11,ld1,st2,ld2]
   subst hQQ
   rw[hes]
  exact Lk key
end Go.AM.B1
