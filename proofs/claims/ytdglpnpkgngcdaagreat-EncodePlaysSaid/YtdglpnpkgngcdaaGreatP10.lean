/- What functions of the program compute. -/
import Derived.Test.YtdglpnpkgngcdaaGreatP3
import Derived.Test.YtdglpnpkgngcdaaGreatP1
import Derived.Test.YtdglpnpkgngcdaaGreatP9
import Derived.Test.YtdglpnpkgngcdaaGreatP8
set_option linter.unusedVariables false
set_option linter.unusedSimpArgs false
namespace Go.AM.B1
open Go.AM Go.AM.So
def Su (g:Nat→Int) (e:Af):Nat→Int:=fun b=>if e.lo≤(b:Int)∧(b:Int)≤e.hi then e.to else g b
theorem eG {b:Nat}:∀ (l:List Af) (g:Nat→Int),l.Pairwise (fun a c=>a.hi < c.lo)→l.foldl Su g b=(rh (b:Int) l).getD (g b)
 | [],g,_=>rfl
 |e::l,g,h=>by
  rw[List.pairwise_cons] at h
  rw[List.foldl_cons,eG l _ h.2,rh]
  by_cases hc:e.lo≤(b:Int)∧(b:Int)≤e.hi
  ·rw[if_pos hc]
   have:rh (b:Int) l=none:=by
    cases hs:rh (b:Int) l with
    |none=>rfl
    |some t=>
     obtain⟨x,hx,h1,h2,_⟩:=YB hs
     have:=h.1 x hx
     omega
   rw[this]
   show Su g e b=e.to
   unfold Su;rw[if_pos hc]
  ·rw[if_neg hc]
   have:Su g e b=g b:=by unfold Su;rw[if_neg hc]
   rw[this]
def Tm (l:List Af) (b:Nat):Int:=(rh (b:Int) l).getD (-2)
structure Rn (l:List Af):Prop where
 JI:∀ e∈l,0≤e.lo∧e.lo≤e.hi∧e.hi < 256∧ -1≤e.to∧e.to≤64
 ord:l.Pairwise (fun a b=>a.hi < b.lo)
def b8 (g:Nat→Int):ba:= .box (cellsOf 256 fun b=> .pv (.int .i8 (g b)))
theorem Tx {n:Nat} {g g':Nat→AV} (h:∀ b,b < n→g b=g' b):cellsOf n g=cellsOf n g':=by
 unfold cellsOf
 exact List.map_congr_left fun b hb=>h b (List.mem_range.1 hb)
theorem Qs {g g':Nat→Int} (h:∀ b,b < 256→g b=g' b):b8 g=b8 g':=by
 unfold b8;rw[Tx fun b hb=>by rw[h b hb]]
theorem lX (g:Nat→Int) (n:Nat):oa n (b8 g)=some (b8 g):=by
 have:=Xh n ((List.range 256).map fun b=>PV.int .i8 (g b))
 rw[List.map_map] at this
 exact this
theorem gd {H:List ba} {id:Nat} {c:List AV} (h:H[id]? =some (.box c)) (d o:Nat):place H d (.ptr id o)=some (.ptr id (o+d)):=by simp only[place,h]
theorem HJ {H:List ba} {id:Nat} {g:Nat→Int} (h:H[id]? =some (b8 g)) (d:Nat):place H d (.ptr id 0)=some (.ptr id d):=by
 rw[gd h,Nat.zero_add]
theorem TK {H:List ba} {id i:Nat} {g:Nat→Int} (h:H[id]? =some (b8 g)) (hi:i < 256) (v:Int):Ea H 1 (.ptr id i) (.pv (.int .i8 v))=some (H.set id (b8 fun b=>if b=i then v else g b)):=by
 have e:cellsOf 256 (Mv (fun b=>AV.pv (.int .i8 (g b))) i (.pv (.int .i8 v)))=cellsOf 256 (fun b=> .pv (.int .i8 (if b=i then v else g b))):=by
  refine Tx fun b _=> ?_
  unfold Mv;split <;> rfl
 simp only[Ea,AV.cells,PV.cells,List.map_cons,List.map_nil,List.length_cons,List.length_nil,List.all_cons,AV.one,List.all_nil,Bool.and_self,and_self,if_true,h,b8,Ag]
 rw[if_pos (by omega)]
 simp only[ga,BB,e]
theorem UU {n:Int} (h0: -128≤n) (h1:n≤127):IntKind.i8.wrap n=n:=by
 unfold IntKind.wrap
 simp[IntKind.signed,IntKind.bits]
 omega
section
variable {call:Ta} {A:List ba} (hA:He A)
include hA
theorem Jz (g:Nat→Int) {n:Nat} (hn:A.length≤n):∀ o∈A++[b8 g],oa n o=some o:=by
 intro o ho
 rcases List.mem_append.1 ho with h | h
 ·exact hA n hn o h
 ·rw[List.mem_singleton] at h;subst h;exact lX g n
theorem QS {E:Tr} {tb:Nat} {L S:PV} {x y:PV} {g0:Nat→Int} (htb:tb < A.length) (h8:E.get 8= .ptr tb 0) (h12:E.get 12= .pv L) (h13:E.get 13= .ptr A.length 0) (h101:E.get 101= .pv S) (h102:E.get 102= .pv x) (h103:E.get 103= .pv y) (h108:E.get 108= .pv (i64 0)):
 Pd (fun r=>r.1.stop=true∧∃ E',r=(.exit 4,⟨E',A++[b8 fun _=> -2]⟩)∧∀ t∈[8,12,13,101,102,103],E'.get t=E.get t)
  (qa call (.loop [8,12,13,101,102,103,108] Cj) ⟨E,A++[b8 g0]⟩):=by
 have hcut:∀ t∈[8,12,13,101,102,103],(E.get t).cut (A.length+1) deep=some (E.get t):=by
  intro t ht
  simp only[List.mem_cons,List.not_mem_nil,or_false] at ht
  rcases ht with rfl | rfl | rfl | rfl | rfl | rfl <;> simp only[h8,h12,h13,h101,h102,h103,Qa] <;> exact Er (by omega)
 refine yp (fun i t=>(∀ u∈[8,12,13,101,102,103],t.env.get u=E.get u)∧t.env.get 108= .pv (i64 i)∧t.H=A++[b8 fun b=>if b < i then -2 else g0 b]) 256 (by unfold pa;omega) ?_ ?_ ?_
 ·refine ah.all rfl (by rw[List.length_append];exact Jz hA g0 (by simp)) ?_ fun E' hE=>⟨fun u hu=>hE u (by simp at hu ⊢;omega),by rw[hE 108 (by simp),h108];rfl,by simp⟩
  intro t ht
  rw[List.length_append]
  by_cases h:t=108
  ·subst h;rw[h108,Qa]
  ·exact hcut t (by simp at ht ⊢;omega)
 ·rintro i ⟨E1,H1⟩ hi ⟨k1,k2,k3⟩
  simp only at k1 k2 k3
  subst k3
  have g13:=k1 13 (by simp)
  rw[h13] at g13
  have e1:decide ((i:Int) < 256)=true:=Fa (by omega)
  have t1:IntKind.i64.wrap ((i:Int)+1)=((i+1:Nat):Int):=fj (by omega)
  have hg:=Ej A (b8 fun b=>if b < i then -2 else g0 b)
  have p1:=HJ hg i
  have s1:=TK hg hi (-2)
  rw[Jn] at s1
  have hid:(i < 256)=True:=eq_true hi
  have hc:b8 (fun b=>if b=i then -2 else if b < i then -2 else g0 b)=b8 (fun b=>if b < i+1 then -2 else g0 b):=Qs fun b _=>by
   by_cases h1:b=i
   ·rw[if_pos h1,if_pos (by omega)]
   ·rw[if_neg h1]
    by_cases h2:b < i
    ·rw[if_pos h2,if_pos (by omega)]
    ·rw[if_neg h2,if_neg (by omega)]
  rw[hc] at s1
  generalize hQ:RQ _ _ _ _=Q
  simp -implicitDefEqProofs only[SX,sevalprocAttr,Cj,k2,g13,e1,t1,hid,p1,s1]
  subst hQ
  rw[ml]
  refine ah.all (by simp) (by rw[List.length_append];exact Jz hA _ (by simp)) ?_ fun E' hE=>⟨fun u hu=> ?_,?_,rfl⟩
  ·intro t ht
   rw[List.length_append]
   by_cases h:t=108
   ·subst h;simp[Tr.aa,Qa]
   ·have hm:t∈[8,12,13,101,102,103]:=by simp at ht ⊢;omega
    have:=k1 t hm
    have h2:=hcut t hm
    simp only[List.mem_cons,List.not_mem_nil,or_false] at hm
    rcases hm with rfl | rfl | rfl | rfl | rfl | rfl <;> simp only[Tr.aa] <;> simp only[this] <;> simpa using h2
  ·rw[hE u (by simp at hu ⊢;omega),←k1 u hu]
   simp only[List.mem_cons,List.not_mem_nil,or_false] at hu
   rcases hu with rfl | rfl | rfl | rfl | rfl | rfl <;> simp[Tr.aa]
  ·rw[hE 108 (by simp)];simp[Tr.aa]
 ·rintro⟨E1,H1⟩ ⟨k1,k2,k3⟩
  simp only at k1 k2 k3
  subst k3
  have e1:decide (((256:Nat):Int) < 256)=false:=Ha (by omega)
  generalize hQ:(fun r:Ex×St=>r.1.stop=true∧_)=Q
  simp -implicitDefEqProofs only[SX,sevalprocAttr,Cj,k2,e1]
  subst hQ
  rw[Qs (g':=fun _=> -2) fun b hb=>if_pos hb]
  refine⟨rfl,_,rfl,fun t ht=> ?_⟩
  ·rw[← k1 t ht]
   simp only[List.mem_cons,List.not_mem_nil,or_false] at ht
   rcases ht with rfl | rfl | rfl | rfl | rfl | rfl <;> simp[Tr.aa]
def gA (e:Af):ba:= .box [.pv (i64 e.lo),.pv (i64 e.hi),.pv (i64 e.to)]
omit hA in
theorem sV (e:Af) (n:Nat):oa n (gA e)=some (gA e):=Xh n [i64 e.lo,i64 e.hi,i64 e.to]
theorem oV {E:Tr} {tb:Nat} {L S:PV} {x y u v:PV} {g0:Nat→Int} {e:Af} (he:0≤e.lo∧e.lo≤e.hi∧e.hi < 256∧ -1≤e.to∧e.to≤64) (htb:tb < A.length) (h8:E.get 8= .ptr tb 0) (h13:E.get 13= .ptr A.length 0) (h16:E.get 16= .ptr (A.length+1) 0) (h17:E.get 17= .pv (i64 e.lo))
 (h101:E.get 101= .pv S) (h102:E.get 102= .pv x) (h103:E.get 103= .pv y) (h114:E.get 114= .pv L) (h115:E.get 115= .pv u) (h116:E.get 116= .pv v):
 Pd (fun r=>r.1.stop=true∧∃ E',r=(.exit 8,⟨E',(A++[b8 (Su g0 e)])++[gA e]⟩)∧∀ t∈[8,13,101,102,103,114,115,116],E'.get t=E.get t)
  (qa call (.loop [8,13,16,17,101,102,103,114,115,116] wj) ⟨E,(A++[b8 g0])++[gA e]⟩):=by
 have hcut:∀ t∈[8,13,16,101,102,103,114,115,116],(E.get t).cut (A.length+2) deep=some (E.get t):=by
  intro t ht
  simp only[List.mem_cons,List.not_mem_nil,or_false] at ht
  rcases ht with rfl | rfl | rfl | rfl | rfl | rfl | rfl | rfl | rfl <;> simp only[h8,h13,h16,h101,h102,h103,h114,h115,h116,Qa] <;> exact Er (by omega)
 have hgood:∀ g,∀ o∈(A++[b8 g])++[gA e],oa (A.length+2) o=some o:=by
  intro g o ho
  rcases List.mem_append.1 ho with h | h
  ·exact Jz hA g (by omega) o h
  ·rw[List.mem_singleton] at h;subst h;exact sV e _
 have hlen:∀ g,((A++[b8 g])++[gA e]).length=A.length+2:=fun g=>by simp
 refine yp (fun i t=>(∀ u∈[8,13,16,101,102,103,114,115,116],t.env.get u=E.get u)∧t.env.get 17= .pv (i64 (e.lo+i))∧t.H=(A++[b8 fun b=>if e.lo≤(b:Int)∧(b:Int) < e.lo+i then e.to else g0 b])++[gA e]) (e.hi - e.lo+1).toNat (by unfold pa;omega) ?_ ?_ ?_
 ·refine ah.all rfl (by rw[hlen];exact hgood g0) ?_ fun E' hE=>⟨fun u hu=>hE u (by simp at hu ⊢;omega),by rw[hE 17 (by simp),h17];simp,?_⟩
  ·intro t ht
   rw[hlen]
   by_cases h:t=17
   ·subst h;rw[h17,Qa]
   ·exact hcut t (by simp at ht ⊢;omega)
  ·show _=_
   rw[Qs (g:=fun b=>if e.lo≤(b:Int)∧(b:Int) < e.lo+((0:Nat):Int) then e.to else g0 b) (g':=g0) fun b _=>if_neg (by omega)]
 ·rintro i ⟨E1,H1⟩ hi ⟨k1,k2,k3⟩
  simp only at k1 k2 k3
  subst k3
  have g13:=k1 13 (by simp)
  rw[h13] at g13
  have g16:=k1 16 (by simp)
  rw[h16] at g16
  have e1:decide (e.lo+(i:Int)≤e.hi)=true:=Fa (by omega)
  have t1:IntKind.i64.wrap (e.lo+(i:Int)+1)=e.lo+((i+1:Nat):Int):=by rw[Aa (by omega)];omega
  have t2:IntKind.i8.wrap e.to=e.to:=UU (by omega) (by omega)
  generalize hgi:(fun b:Nat=>if e.lo≤(b:Int)∧(b:Int) < e.lo+i then e.to else g0 b)=gi
  have hg:((A++[b8 gi])++[gA e])[A.length]? =some (b8 gi):=by rw[List.getElem?_append_left (by simp)];exact Ej _ _
  have hg2:((A++[b8 gi])++[gA e])[A.length+1]? =some (gA e):=by
   have:=Ej (A++[b8 gi]) (gA e)
   rw[List.length_append] at this;exact this
  have p1:=HJ hg (e.lo+(i:Int)).toNat
  have p2:=fun d=>gd hg2 d 0
  have l1:ta ((A++[b8 gi])++[gA e]) false 1 (.ptr (A.length+1) 1)=some (.pv (i64 e.hi)):=by simp only[ta,hg2];rfl
  have l2:ta ((A++[b8 gi])++[gA e]) false 1 (.ptr (A.length+1) 2)=some (.pv (i64 e.to)):=by simp only[ta,hg2];rfl
  have s1:=TK hg (i:=(e.lo+(i:Int)).toNat) (by omega) e.to
  have hset:((A++[b8 gi])++[gA e]).set A.length (b8 fun b=>if b=(e.lo+(i:Int)).toNat then e.to else gi b)=(A++[b8 fun b=>if e.lo≤(b:Int)∧(b:Int) < e.lo+((i+1:Nat):Int) then e.to else g0 b])++[gA e]:=by
   rw[List.set_append_left _ _ (by simp),Jn]
   congr 3
   refine Qs fun b _=> ?_
   subst hgi
   by_cases h1:b=(e.lo+(i:Int)).toNat
   ·rw[if_pos h1,if_pos (by omega)]
   ·rw[if_neg h1]
    dsimp only
    by_cases h2:e.lo≤(b:Int)∧(b:Int) < e.lo+i
    ·rw[if_pos h2,if_pos (by omega)]
    ·rw[if_neg h2,if_neg (by omega)]
  rw[hset] at s1
  have hid:(0≤e.lo+(i:Int)∧e.lo+(i:Int) < ((256:Nat):Int))=True:=eq_true (by omega)
  generalize (A++[b8 gi])++[gA e]=HH at *
  generalize hQ:RQ _ _ _ _=Q
  simp -implicitDefEqProofs only[SX,sevalprocAttr,wj,k2,g13,g16,e1,t1,t2,hid,p1,p2,l1,l2,s1]
  subst hQ
  rw[ml]
  refine ah.all (by simp) (by rw[hlen];exact hgood _) ?_ fun E' hE=>⟨fun u hu=> ?_,?_,rfl⟩
  ·intro t ht
   rw[hlen]
   by_cases h:t=17
   ·subst h;simp[Tr.aa,Qa]
   ·have hm:t∈[8,13,16,101,102,103,114,115,116]:=by simp at ht ⊢;omega
    have:=k1 t hm
    have h2:=hcut t hm
    simp only[List.mem_cons,List.not_mem_nil,or_false] at hm
    rcases hm with rfl | rfl | rfl | rfl | rfl | rfl | rfl | rfl | rfl <;> simp only[Tr.aa] <;> simp only[this] <;> simpa using h2
  ·rw[hE u (by simp at hu ⊢;omega),←k1 u hu]
   simp only[List.mem_cons,List.not_mem_nil,or_false] at hu
   rcases hu with rfl | rfl | rfl | rfl | rfl | rfl | rfl | rfl | rfl <;> simp[Tr.aa]
  ·rw[hE 17 (by simp)];simp[Tr.aa]
 ·rintro⟨E1,H1⟩ ⟨k1,k2,k3⟩
  simp only at k1 k2 k3
  subst k3
  have g16:=k1 16 (by simp)
  rw[h16] at g16
  rw[show e.lo+((e.hi - e.lo+1).toNat:Int)=e.hi+1 by omega] at k2
  have e1:decide (e.hi+1≤e.hi)=false:=Ha (by omega)
  have hb:b8 (fun b:Nat=>if e.lo≤(b:Int)∧(b:Int) < e.lo+((e.hi - e.lo+1).toNat:Int) then e.to else g0 b)=b8 (Su g0 e):=Qs fun b _=>by
   unfold Su
   by_cases h:e.lo≤(b:Int)∧(b:Int)≤e.hi
   ·rw[if_pos h,if_pos (by omega)]
   ·rw[if_neg h,if_neg (by omega)]
  rw[hb]
  have hg2:((A++[b8 (Su g0 e)])++[gA e])[A.length+1]? =some (gA e):=by
   have:=Ej (A++[b8 (Su g0 e)]) (gA e)
   rw[List.length_append] at this;exact this
  have p2:=fun d=>gd hg2 d 0
  have l1:ta ((A++[b8 (Su g0 e)])++[gA e]) false 1 (.ptr (A.length+1) 1)=some (.pv (i64 e.hi)):=by simp only[ta,hg2];rfl
  generalize (A++[b8 (Su g0 e)])++[gA e]=HH at *
  generalize hQ:(fun r:Ex×St=>r.1.stop=true∧_)=Q
  simp -implicitDefEqProofs only[SX,sevalprocAttr,wj,k2,g16,e1,p2,l1]
  subst hQ
  refine⟨rfl,_,rfl,fun t ht=> ?_⟩
  ·rw[← k1 t (by simp at ht ⊢;omega)]
   simp only[List.mem_cons,List.not_mem_nil,or_false] at ht
   rcases ht with rfl | rfl | rfl | rfl | rfl | rfl | rfl | rfl <;> simp[Tr.aa]
end
end Go.AM.B1
namespace Go.AM.B1
open Go.AM Go.AM.So
section
variable {call:Ta} {A:List ba} (hA:He A)
include hA
theorem DT {E:Tr} {tb:Nat} {L S:PV} {x y:PV} {es:List Af} (Ba:Rn es) (hL:Vh 3 L (es.map AF)) (hlen:es.length≤256) (htb:tb < A.length) (h8:E.get 8= .ptr tb 0) (h13:E.get 13= .ptr A.length 0)
 (h101:E.get 101= .pv S) (h102:E.get 102= .pv x) (h103:E.get 103= .pv y) (h114:E.get 114= .pv L) (h115:E.get 115= .pv (i64 es.length)) (h116:E.get 116= .pv (i64 0)):
 Pd (fun r=>r.1.stop=true∧∃ E',r=(.exit 6,⟨E',A++[b8 (Tm es)]⟩)∧∀ t∈[8,13,101,102,103],E'.get t=E.get t)
  (qa call (.loop [8,13,101,102,103,114,115,116] uj) ⟨E,A++[b8 fun _=> -2]⟩):=by
 have hcut:Fit (A.length+1) [8,13,101,102,103,114,115] E:=
  .cons h8 (Er (by omega)) (.cons h13 (Er (by omega)) (.cons h101 Qa (.cons h102 Qa (.cons h103 Qa (.cons h114 Qa (.cons h115 Qa (.nil _ _)))))))
 refine yp (fun i t=>ee [8,13,101,102,103,114,115] E t.env∧t.env.get 116= .pv (i64 i)∧t.H=A++[b8 ((es.take i).foldl Su fun _=> -2)]) es.length (by unfold pa;omega) ?_ ?_ ?_
 ·rw[List.length_append]
  exact ah.all (by simp) (Jz hA _ (by simp)) (Fit.sub (.cons h116 Qa hcut) rfl) fun E' hE=>⟨ee.sub hE rfl,by rw[hE 116 (by simp),h116];rfl,rfl⟩
 ·rintro i ⟨E1,H1⟩ hi ⟨k1,k2,k3⟩
  simp only at k1 k2 k3
  subst k3
  have g8:=k1 8 (by simp)
  rw[h8] at g8
  have g13:=k1 13 (by simp)
  rw[h13] at g13
  have g101:=k1 101 (by simp)
  rw[h101] at g101
  have g102:=k1 102 (by simp)
  rw[h102] at g102
  have g103:=k1 103 (by simp)
  rw[h103] at g103
  have g114:=k1 114 (by simp)
  rw[h114] at g114
  have g115:=k1 115 (by simp)
  rw[h115] at g115
  have hle:=hL.lit (i:=i) (by simpa using hi)
  have hea:=Ba.JI es[i] (List.getElem_mem hi)
  have htk:(es.take (i+1)).foldl Su (fun _=> -2)=Su ((es.take i).foldl Su fun _=> -2) es[i]:=by
   rw[List.take_succ_eq_append_getElem hi,List.foldl_append];rfl
  have a1:wa (A++[b8 ((es.take i).foldl Su fun _=> -2)]) 3 (.pv L) (i:Int)=some (.pv (.rp [i64 es[i].lo,i64 es[i].hi,i64 es[i].to] 0)):=by
   rw[hle]
   simp only[wa]
   rw[if_pos ⟨trivial,by unfold Ga;rw[List.length_map];omega⟩,Int.toNat_natCast,List.getElem?_map,List.getElem?_eq_getElem hi];rfl
  rw[htk]
  generalize (es.take i).foldl Su (fun _=> -2)=g0 at *
  generalize es[i]=e at *
  have e1:decide ((i:Int) < (es.length:Int))=true:=Fa (by omega)
  have t1:IntKind.i64.wrap ((i:Int)+1)=((i+1:Nat):Int):=fj (by omega)
  have r3:∀ H (x y z:PV),ta H true 3 (.pv (.rp [x,y,z] 0))=some (.pv (.agg [x,y,z])):=fun H x y z=>rfl
  have hln:(A++[b8 g0]).length=A.length+1:=by simp
  have s1:Ea ((A++[b8 g0])++[.box [.pv (i64 0),.pv (i64 0),.pv (i64 0)]]) 3 (.ptr (A.length+1) 0) (.pv (.agg [i64 e.lo,i64 e.hi,i64 e.to]))=some ((A++[b8 g0])++[gA e]):=by
   have:=Jn (A++[b8 g0]) (.box [.pv (i64 0),.pv (i64 0),.pv (i64 0)]) (gA e)
   have hg:=Ej (A++[b8 g0]) (.box [.pv (i64 0),.pv (i64 0),.pv (i64 0)])
   rw[hln] at this hg
   simp only[Ea,hg]
   rw[if_pos (by simp[AV.cells,PV.cells,AV.one]),if_pos (by simp)]
   rw[← this];rfl
  have hg2:((A++[b8 g0])++[gA e])[A.length+1]? =some (gA e):=by
   have:=Ej (A++[b8 g0]) (gA e)
   rw[hln] at this;exact this
  have p2:=fun d=>gd hg2 d 0
  have l0:ta ((A++[b8 g0])++[gA e]) false 1 (.ptr (A.length+1) 0)=some (.pv (i64 e.lo)):=by simp only[ta,hg2];rfl
  have hed:=fun (E2:Tr) (q8:E2.get 8= .ptr tb 0) (q13:E2.get 13= .ptr A.length 0) (q16:E2.get 16= .ptr (A.length+1) 0) (q17:E2.get 17= .pv (i64 e.lo)) (q101:E2.get 101= .pv S) (q102:E2.get 102= .pv x) (q103:E2.get 103= .pv y) (q114:E2.get 114= .pv L) (q115:E2.get 115= .pv (i64 es.length)) (q116:E2.get 116= .pv (i64 i))=>
   oV (call:=call) hA (g0:=g0) hea htb q8 q13 q16 q17 q101 q102 q103 q114 q115 q116
  generalize hHH:(A++[b8 g0])++[gA e]=HH at *
  generalize hHK:(A++[b8 g0])++[ba.box [.pv (i64 0),.pv (i64 0),.pv (i64 0)]]=HK at *
  generalize hQ:RQ _ _ _ _=Q
  simp -implicitDefEqProofs only[SX,sevalprocAttr,uj,k2,g114,g115,e1,a1,r3,hln,hHK,s1,p2,l0]
  generalize hEE:(Tr.set _ 17 _:Tr)=E2
  have q8:E2.get 8= .ptr tb 0:=by rw[← hEE];simp[Tr.aa,g8]
  have q13:E2.get 13= .ptr A.length 0:=by rw[← hEE];simp[Tr.aa,g13]
  have q16:E2.get 16= .ptr (A.length+1) 0:=by rw[← hEE];simp[Tr.aa]
  have q17:E2.get 17= .pv (i64 e.lo):=by rw[← hEE];simp[Tr.aa]
  have q101:E2.get 101= .pv S:=by rw[← hEE];simp[Tr.aa,g101]
  have q102:E2.get 102= .pv x:=by rw[← hEE];simp[Tr.aa,g102]
  have q103:E2.get 103= .pv y:=by rw[← hEE];simp[Tr.aa,g103]
  have q114:E2.get 114= .pv L:=by rw[← hEE];simp[Tr.aa,g114]
  have q115:E2.get 115= .pv (i64 es.length):=by rw[← hEE];simp[Tr.aa,g115]
  have q116:E2.get 116= .pv (i64 i):=by rw[← hEE];simp[Tr.aa,k2]
  refine ya (hed E2 q8 q13 q16 q17 q101 q102 q103 q114 q115 q116) ?_
  rintro r ⟨_,E3,rfl,hE3⟩
  have z116:=hE3 116 (by simp)
  rw[q116] at z116
  have kE:ee [8,13,101,102,103,114,115] E E3:=by
   refine ee.trans ?_ (ee.sub hE3 rfl)
   rw[← hEE]
   repeat refine ee.set ?_ rfl
   exact k1
  simp -implicitDefEqProofs only[SX,sevalprocAttr,z116,t1]
  subst hQ
  rw[ml]
  have kF:∀ v w,ee [8,13,101,102,103,114,115] E ((E3.set 133 v).set 116 w):=fun v w=>ee.set (ee.set kE rfl) rfl
  rw[List.length_append]
  exact ah.front (by simp) (Jz hA _ (by simp)) (Fit.sub (.cons (t:=116) (by rw[Tr.aa,if_pos rfl]) Qa (hcut.ue (kF _ _))) rfl) fun E' hE=>⟨(kF _ _).trans (ee.sub hE rfl),by rw[hE 116 (by simp),Tr.aa,if_pos rfl],rfl⟩
 ·rintro⟨E1,H1⟩ ⟨k1,k2,k3⟩
  simp only at k1 k2 k3
  subst k3
  have g115:=k1 115 (by simp)
  rw[h115] at g115
  have e1:decide ((es.length:Int) < (es.length:Int))=false:=Ha (by omega)
  rw[List.take_length,Qs (g:=es.foldl Su fun _=> -2) (g':=Tm es) fun b _=>eG es _ Ba.ord]
  generalize hQ:(fun r:Ex×St=>r.1.stop=true∧_)=Q
  simp -implicitDefEqProofs only[SX,sevalprocAttr,uj,k2,g115,e1]
  subst hQ
  exact⟨rfl,_,rfl,ee.set (ee.sub k1 rfl) rfl⟩
end
end Go.AM.B1
namespace Go.AM.B1
open Go.AM Go.AM.So
section
variable {ss:List qc} {sets:List Al} {C:List (List Int)} (W:Tk ss sets C) (hl:C.length=sets.length)
include W hl
theorem Tk.UM {k:Nat} (hk:k < C.length):0≤cls C k:=((W.fy hl).uo hk).1
theorem Tk.DK:∀ (w:List Nat) (i j:Nat),Bytes w→i < C.length→j < C.length→cls C i=cls C j→(runT C i w= -1↔runT C j w= -1)
 | [],i,j,_,_,_,_=>by
   show ((i:Int)= -1↔(j:Int)= -1)
   constructor <;> intro h <;> omega
 |x::w,i,j,hb,hi,hj,h=>by
  have hx:x < 256:=hb x (by simp)
  have hbw:Bytes w:=fun y hy=>hb y (by simp[hy])
  have hn:=(W.cI hl hi hj).1 h x hx
  have b1:=W.bound hl hi hx
  have b2:=W.bound hl hj hx
  rw[runT,runT,if_neg (by omega),if_neg (by omega),Int.toNat_natCast,Int.toNat_natCast]
  unfold Wp at hn
  by_cases h1:0≤Dg C i x
  ·by_cases h2:0≤Dg C j x
   ·rw[if_pos h1,if_pos h2] at hn
    have:=Tk.DK w (Dg C i x).toNat (Dg C j x).toNat hbw (by omega) (by omega) hn
    rw[Int.toNat_of_nonneg h1,Int.toNat_of_nonneg h2] at this
    exact this
   ·rw[if_pos h1,if_neg h2] at hn
    have:=W.UM hl (k:=(Dg C i x).toNat) (by omega)
    omega
  ·by_cases h2:0≤Dg C j x
   ·rw[if_neg h1,if_pos h2] at hn
    have:=W.UM hl (k:=(Dg C j x).toNat) (by omega)
    omega
   ·rw[if_neg h1,if_neg h2] at hn
    rw[hn]
theorem Tk.path:∀ (m k:Nat),k≤m→k < C.length→∃ w,Bytes w∧runT C 0 w=(k:Int)
 |0,k,hm,hk=>by
  have:k=0:=by omega
  subst this
  exact⟨[],by simp[Bytes],rfl⟩
 |m+1,k,hm,hk=>by
  rcases Nat.eq_zero_or_pos k with rfl | h0
  ·exact⟨[],by simp[Bytes],rfl⟩
  ·obtain⟨j,x,hj,hjC,hx,hn⟩:=W.reach k h0 (by omega)
   obtain⟨w,hw,hr⟩:=Tk.path m j (by omega) hjC
   refine⟨w++[x],?_,?_⟩
   ·intro y hy
    rcases List.mem_append.1 hy with h | h
    ·exact hw y h
    ·simp at h;subst h;exact hx
   ·rw[MG,hr,if_neg (by omega),Int.toNat_natCast,hn]
end
theorem mem_some {l:List (Int×Int)} (h:Bd l):∃ x,x < 256∧Fh l x=true:=by
 obtain⟨p,hp⟩:=List.exists_mem_of_ne_nil _ h.1
 have h1:=Rm h.2 p hp
 refine⟨p.1.toNat,by omega,?_⟩
 rw[Fh,h.2,Bool.true_and,Wq,Int.toNat_of_nonneg h1.1]
 exact⟨p,hp,Int.le_refl _,h1.2.1⟩
theorem OP {s:qc} (h:∀ l∈s.parts,Bd l):∃ w,Bytes w∧Full s w:=by
 have key:∀ (ls:List (List (Int×Int))),(∀ l∈ls,Bd l)→∃ w:List Nat,w.length=ls.length∧(∀ x∈w,x < 256)∧∀ (j x:Nat),w[j]? =some x→∃ l,ls[j]? =some l∧Fh l x=true:=by
  intro ls
  induction ls with
  |nil=>exact fun _=>⟨[],rfl,by simp,by simp⟩
  |cons l ls ih=>
   intro h
   obtain⟨x,hx,hm⟩:=mem_some (h l (by simp))
   obtain⟨w,h1,h2,h3⟩:=ih fun l' hl'=>h l' (by simp[hl'])
   refine⟨x::w,by simp[h1],?_,?_⟩
   ·intro y hy
    rcases List.mem_cons.1 hy with rfl | hy
    ·exact hx
    ·exact h2 y hy
   ·intro j y hj
    cases j with
    |zero=>simp at hj;subst hj;exact⟨l,rfl,hm⟩
    |succ j=>simp at hj;exact h3 j y hj
 obtain⟨w,h1,h2,h3⟩:=key s.parts h
 refine⟨w,h2,?_,h1⟩
 intro j x hj
 obtain⟨l,h4,h5⟩:=h3 j x hj
 unfold Tp
 rw[h4];exact h5
theorem IU {ss:List qc} (h:ss≠[]):∃ s∈ss,∀ q∈ss,q.parts.length≤s.parts.length:=by
 induction ss with
 |nil=>exact absurd rfl h
 |cons a ss ih=>
  by_cases hs:ss=[]
  ·subst hs;exact⟨a,by simp,by simp⟩
  ·obtain⟨s,h1,h2⟩:=ih hs
   rcases Nat.lt_or_ge a.parts.length s.parts.length with h3 | h3
   ·refine⟨s,by simp[h1],fun q hq=> ?_⟩
    rcases List.mem_cons.1 hq with rfl | hq
    ·omega
    ·exact h2 q hq
   ·refine⟨a,by simp,fun q hq=> ?_⟩
    rcases List.mem_cons.1 hq with rfl | hq
    ·exact Nat.le_refl _
    ·exact Nat.le_trans (h2 q hq) h3
theorem Tk.HB {ss:List qc} {sets:List Al} {C:List (List Int)} (Ba:Fc ss) (hpre:bh ss) (W:Tk ss sets C) (hl:C.length=sets.length) {k:Nat} (h0:0 < k) (hk:k < C.length):cls C 0≠cls C k:=by
 intro he
 obtain⟨w,hw,hr⟩:=W.path hl k k (Nat.le_refl _) hk
 have hwne:w≠[]:=by
  rintro rfl
  have:(0:Int)=(k:Int):=hr
  omega
 have hne:ss≠[]:=by
  rintro rfl
  rcases SC Ba hpre W hl _ w rfl hw with⟨h1,_⟩ | ⟨_,_,h1,_⟩ | ⟨h1,_⟩
  ·omega
  ·rcases h1 with h1 | ⟨s,hs,_⟩
   ·exact hwne h1
   ·cases hs
  ·omega
 obtain⟨s,hs,hmax⟩:=IU hne
 obtain⟨u,hu,hf⟩:=OP (Ba.gu s hs).parts
 have h1:runT C 0 u= -1:=by
  rcases SC Ba hpre W hl _ u rfl hu with⟨h1,_⟩ | ⟨_,_,_,h1⟩ | ⟨_,_,h1⟩
  ·exact h1
  ·exact absurd hf (h1 s hs)
  ·exact absurd hf.1 (h1 s hs)
 have h2:runT C k u= -1:=(W.DK hl u 0 k hu (by omega) hk he).1 h1
 have h3:runT C 0 (w++u)= -1:=by rw[GD,hr];exact h2
 have hb:Bytes (w++u):=by
  intro y hy
  rcases List.mem_append.1 hy with h | h
  ·exact hw y h
  ·exact hu y h
 rcases SC Ba hpre W hl _ (w++u) rfl hb with⟨_,q,hq,hfq⟩ | ⟨h4,_⟩ | ⟨h4,_⟩
 ·have h5:=hmax q hq
  have h6:=hfq.2
  have h7:=hf.2
  have h8:0 < w.length:=by
   cases w with
   |nil=>exact absurd rfl hwne
   |cons=>simp
  rw[List.length_append] at h6
  omega
 ·omega
 ·omega
end Go.AM.B1
namespace Go.AM.B1
open Go.AM Go.AM.So
attribute [local irreducible] Pd
abbrev qX (v:PV) (n i:Int):Tr:=(((Tr.lf.set 5 (.pv (i64 i))).set 4 (.own 0 i.toNat)).set 3 (.pv (i64 n))).set 0 (.pv v)
def zm (n i:Nat):List AV:=(List.range i).map fun k=> .own (2 * k+1) n
theorem ZL (n i:Nat):(zm n i).length=i:=by rw[zm,List.length_map,List.length_range]
theorem yJ (n i:Nat):zm n (i+1)=zm n i++[.own (2 * i+1) n]:=by
 rw[zm,List.range_succ,List.map_append];rfl
theorem DL {n i m:Nat} (h:2 * i+1≤m) (fl:Nat) (nl:Bool):oa m (.seq 1 false (zm n i) fl nl)=some (.seq 1 false (zm n i) fl nl):=by
 have:(zm n i).all (AV.ue m deep)=true:=by
  rw[List.all_eq_true]
  intro v hv
  obtain⟨k,hk,rfl⟩:=List.mem_map.1 hv
  have:k < i:=by simpa using hk
  show decide (2 * k+1 < m)=true
  exact decide_eq_true (by omega)
 simp[oa,this]
structure SF (H:List ba) (n i:Nat):Prop where
 len:H.length=2 * i+1
 hd:∃ nl,H[0]? =some (.seq 1 false (zm n i) 0 nl)∧(nl=true→i=0)
 row:∀ k,k < i→H[2 * k+1]? =some (PA n (fun _=>false) 0)
 KH:He H
theorem SF.step {H:List ba} {n i:Nat} (h:SF H n i) (Y:ba) (hY:Y= .seq 1 false [.own (2 * i+1) n] 0 false):
 SF ((H++[PA n (fun _=>false) 0]++[Y]).set 0 (.seq 1 false (zm n (i+1)) 0 false)) n (i+1):=by
 have hl:=h.len
 refine⟨by simp[hl];omega,⟨false,?_,fun h=>by cases h⟩,?_,?_⟩
 ·rw[List.getElem?_set_self (by simp)]
 ·intro k hk
  rw[List.getElem?_set_ne (by omega)]
  rcases Nat.lt_or_ge k i with h1 | h1
  ·rw[List.getElem?_append_left (by simp;omega),List.getElem?_append_left (by omega)]
   exact h.row k h1
  ·have:k=i:=by omega
   subst this
   rw[List.getElem?_append_left (by simp;omega),List.getElem?_append_right (by omega),hl,Nat.sub_self]
   rfl
 ·intro m hm o ho
  simp only[List.length_set,List.length_append,List.length_singleton,hl] at hm
  rcases List.mem_or_eq_of_mem_set ho with h1 | h1
  ·rw[List.mem_append,List.mem_append,List.mem_singleton,List.mem_singleton] at h1
   rcases h1 with (h1 | h1) | h1
   ·exact h.KH m (by omega) o h1
   ·subst h1;exact YI _ _ _ _
   ·subst h1 hY
    have:([AV.own (2 * i+1) n]).all (AV.ue m deep)=true:=by
     show (decide (2 * i+1 < m)&&true)=true
     rw[decide_eq_true (by omega)];rfl
    simp[oa,this]
  ·subst h1;exact DL (by omega) _ _
theorem zL (n:Nat):tj [.bool false] n=(Rf n fun _=>false).map AV.pv:=by
 have:∀ n,tj [.bool false] n=List.replicate n (.pv (.bool false)):=by
  intro n
  induction n with
  |zero=>rfl
  |succ n ih=>rw[tj,ih];rfl
 rw[this,←qF,List.map_replicate]
theorem ER (call:Ta) (v:PV) (n:Nat) (hn:n≤64):
 Pd (fun r=>∃ E H,r=(.exit 0,⟨E,H⟩)∧SF H n n∧E.get 0= .pv v∧E.get 3= .pv (i64 n)∧E.get 4= .own 0 n)
  (pb (ma (qa call qf) (fun s=>some (tidy [0,3,4,5] s))) pa ⟨qX v n 0,[.seq 1 false [] 0 true]⟩):=by
 refine ya (Mb (g:=ma (qa call qf) (fun s=>some (tidy [0,3,4,5] s)))
  (fun i t=>∃ H,t=⟨qX v n i,H⟩∧SF H n i)
  n (by unfold pa;omega) _ ⟨_,rfl,⟨rfl,⟨true,rfl,fun _=>rfl⟩,fun k h=>by omega,?_⟩⟩ ?_ ?_) (fun r h=>h.2)
 ·intro m hm o ho
  rw[List.mem_singleton] at ho
  subst ho;rfl
 ·rintro i t hi ⟨H,rfl,hM⟩
  have e1:decide ((i:Int) < (n:Int))=true:=Fa (by omega)
  have t2:IntKind.i64.wrap ((i:Int)+1)=((i+1:Nat):Int):=Aa (by omega)
  have ti:((i:Int)).toNat=i:=by simp
  have ti1:(((i+1:Nat):Int)).toNat=i+1:=by simp
  have tn:((n:Int)).toNat=n:=by simp
  have hrep:=zL n
  have hl:=hM.len
  have hc:((0:Int)≤(n:Int)∧(n:Int)≤(n:Int)∧ab n 1)=True:=eq_true ⟨by omega,by omega,by unfold ab;omega⟩
  have hl1:(H++[ba.seq 1 false ((Rf n fun _=>false).map AV.pv) 0 false]).length=2 * i+2:=by simp[hl]
  obtain⟨nl,hd,hnl⟩:=hM.hd
  have hstep:=hM.step _ rfl
  have hap:Gb (H++[ba.seq 1 false ((Rf n fun _=>false).map AV.pv) 0 false]++[ba.seq 1 false [AV.own (2 * i+1) n] 0 false]) true .own 1 false 24 (.own 0 i) (.own (2 * i+2) 1)=
   some (.own 0 (i+1),(H++[ba.seq 1 false ((Rf n fun _=>false).map AV.pv) 0 false]++[ba.seq 1 false [AV.own (2 * i+1) n] 0 false]).set 0 (.seq 1 false (zm n (i+1)) 0 false)):=by
   have g0:(H++[ba.seq 1 false ((Rf n fun _=>false).map AV.pv) 0 false]++[ba.seq 1 false [AV.own (2 * i+1) n] 0 false])[0]? =some (.seq 1 false (zm n i) 0 nl):=by
    rw[List.getElem?_append_left (by simp),List.getElem?_append_left (by omega)];exact hd
   have g1:(H++[ba.seq 1 false ((Rf n fun _=>false).map AV.pv) 0 false]++[ba.seq 1 false [AV.own (2 * i+1) n] 0 false])[2 * i+2]? =some (ba.seq 1 false [AV.own (2 * i+1) n] 0 false):=by
    rw[List.getElem?_append_right (by rw[hl1];exact Nat.le_refl _),hl1,Nat.sub_self];rfl
   simp only[Gb,if_true,g0,Fj,g1,List.length_singleton]
   rw[if_pos ⟨trivial,trivial⟩]
   simp only[Option.bind_some]
   rw[if_pos ⟨trivial,by rw[ZL];omega,by unfold ab;omega,rfl⟩,yJ]
   simp
  have hLN:LN (fun i t=>∃ H,t=⟨qX v n i,H⟩∧SF H n i) (fun r=>∃ E H,r=(.exit 0,⟨E,H⟩)∧SF H n n∧E.get 0= .pv v∧E.get 3= .pv (i64 n)∧E.get 4= .own 0 n) i
   (.norm,⟨qX v n (i+1:Nat),(H++[ba.seq 1 false ((Rf n fun _=>false).map AV.pv) 0 false]++[ba.seq 1 false [AV.own (2 * i+1) n] 0 false]).set 0 (.seq 1 false (zm n (i+1)) 0 false)⟩):=⟨_,rfl,hstep⟩
  generalize LN _ _ i=QQ at hLN ⊢
  generalize zm n (i+1)=ow at *
  simp -implicitDefEqProofs only[SP,WP,ga,sevalprocAttr,-List.reduceReplicate,qf,e1,t2,ti,ti1,tn,hc,hrep,hl,hl1,hap,tidy,Jc,qX]
  simp only[qX,ti1] at hLN
  exact hLN
 ·rintro t ⟨H,rfl,hM⟩
  have e1:decide ((n:Int) < (n:Int))=false:=Ha (by omega)
  have tn:((n:Int)).toNat=n:=by simp
  have hfin:∀ E,E.get 0= .pv v→E.get 3= .pv (i64 n)→E.get 4= .own 0 n→(Ex.exit 0,(⟨E,H⟩:St)).1.stop=true∧∃ E' H',(Ex.exit 0,(⟨E,H⟩:St))=(.exit 0,⟨E',H'⟩)∧SF H' n n∧E'.get 0= .pv v∧E'.get 3= .pv (i64 n)∧E'.get 4= .own 0 n:=fun E k0 k3 k4=>⟨rfl,E,H,rfl,hM,k0,k3,k4⟩
  generalize hQ:(fun r:Ex×St=>r.1.stop=true∧_)=Q
  simp -implicitDefEqProofs only[SX,sevalprocAttr,-List.reduceReplicate,qf,e1,tn,qX]
  subst hQ
  exact hfin _ (by simp[Tr.aa]) (by simp[Tr.aa]) (by simp[Tr.aa])
theorem gI:∀ l:List PV,chunk 1 false l.length l=l
 | []=>rfl
 |a::l=>by simp only[List.length_cons,chunk,Bool.false_eq_true,if_false,List.headD_cons,List.drop_succ_cons,List.drop_zero,gI l]
theorem UK {α β γ:Type} (f:β→Option γ) (g:α→β) (k:α→γ):∀ (l:List α),(∀ a∈l,f (g a)=some (k a))→Pa f (l.map g)=some (l.map k)
 | [],_=>rfl
 |a::l,h=>by
  rw[List.map_cons,Pa,h a (by simp),UK f g k l (fun x hx=>h x (by simp[hx]))];rfl
def Mj (n:Nat) (f:Nat→Nat→Bool):PV:= .lit 1 ((List.range n).map fun i=> .lit 1 (Rf n (f i)))
theorem vr.Rb {H:List ba} {n:Nat} {f:Nat→Nat→Bool} (h:vr H n f):Go.AM.Rb H 6 (.own 0 n)=some (Mj n f):=by
 obtain⟨nl,hnl,h0⟩:=h.hd
 subst hnl
 have hrow:∀ k∈List.range n,Go.AM.Rb H 5 (.own (2 * k+1) n)=some (.lit 1 (Rf n (f k))):=by
  intro k hk
  obtain⟨fl,hf,h1⟩:=h.row k (by simpa using hk)
  simp only[Go.AM.Rb,h1,PA]
  rw[if_pos ⟨by rw[List.length_map,Ig];omega,rfl⟩,HC]
  simp only[Bool.false_eq_true,if_false,Option.map_some]
  have:=gI (Rf n (f k))
  rw[Ig] at this
  rw[this]
 simp only[Go.AM.Rb,h0]
 rw[if_pos ⟨by rw[YC];omega,rfl⟩,owns,UK _ _ _ _ hrow]
 simp only[Bool.false_eq_true,if_false,Option.map_some,Mj]
 have:=gI ((List.range n).map fun i=>PV.lit 1 (Rf n (f i)))
 rw[List.length_map,List.length_range] at this
 rw[this]
theorem SF.ZY {H:List ba} {n:Nat} (h:SF H n n) (hn:0 < n):vr H n fun _ _=>false:=by
 obtain⟨nl,h1,h2⟩:=h.hd
 refine⟨h.len,⟨nl,?_,h1⟩,fun k hk=>⟨0,by omega,h.row k hk⟩,h.KH⟩
 cases nl with
 |false=>rfl
 |true=>have:=h2 rfl;omega
theorem kQ {C:List (List Int)} (hC:LI C) (hn:0 < C.length) {D:Nat→Nat→Prop} (hD:vJ C D):
 ∃ f,Vx C D f false∧og [.lit 256 (C.map xi)]=some (Mj C.length f):=by
 have hl0:=ER (Ca (fun _=>none) 8) (.lit 256 (C.map xi)) C.length hC.sz
 have ln:Tb [] 0 (.pv (.lit 256 (C.map xi)))=some C.length:=by simp[Tb]
 have tn:((C.length:Int)).toNat=C.length:=by simp
 have g1:(0 < 1)=True:=by simp
 have hz:(0 < 2 * C.length+1)=True:=by simp
 have key:Pd (fun r=>∃ f,Vx C D f false∧r=Mj C.length f) (og [.lit 256 (C.map xi)]):=by
  have hl1:=fun {H} (hM:vr H C.length fun _ _=>false)=>OS (Ca (fun _=>none) 8) hC hD hM ⟨fun a b h=>(by cases h),fun a b=>rfl,fun h=>(by cases h)⟩
  generalize hQQ:(fun r:PV=>_)=QQ
  generalize (PV.lit 256 (C.map xi))=L at *
  simp -implicitDefEqProofs only[og,SP,WP,ga,sevalprocAttr,-List.reduceReplicate,zj,ln,ff,g1,Fp,Fb,tidy,Jc]
  refine ya hl0 ?_
  rintro r ⟨E,H,rfl,hM,k0,k3,k4⟩
  have hM2:=hM.ZY hn
  have hcut:=hM2.cut
  have hlen:=hM2.len
  have hl1':=hl1 hM2
  simp -implicitDefEqProofs only[SP,WP,ga,sevalprocAttr,-List.reduceReplicate,Fb,k0,k3,k4,hlen,hcut,hz,na,za,AV.cut,ua]
  simp only[BU,tn] at hl1'
  refine ya hl1' ?_
  rintro r ⟨E,H,f,rfl,hM3,hK,k4⟩
  have hpv:=hM3.Rb
  simp -implicitDefEqProofs only[SP,WP,ga,sevalprocAttr,-List.reduceReplicate,k4,hpv]
  subst hQQ
  exact⟨f,hK,rfl⟩
 obtain⟨r,h1,f,hK,rfl⟩:=pc key
 exact⟨f,hK,h1⟩
end Go.AM.B1
namespace Go.AM.B1
open Go.AM
def AB:Oa:=(jQ [Cv 92 13,jn 93 0 92,jK 94 .gtr 93 0,Cv 95 94,jT 96 95 (.km 13),jT 97 95 (.km 13),jT 98 95 (.kn 0 97),jT 99 95 (.kK .sub 98 1),jT 100 95 (.ki 3 96 99),jT 101 95 (.kf 2 100),jT 102 95 (.kl 1 101),jT 103 95 (.km 15),jT 104 95 (.kB .eql 102 103),ja 105 95 104,Cv 106 105,jT 107 106 (.km 13),jT 108 106 (.km 13),jT 109 106 (.kn 0 108),jT 110 106 (.kK .sub 109 1),jT 111 106 (.ki 3 107 110),jT 112 106 (.kf 1 111),jT 113 106 (.kl 1 112),jT 114 106 (.km 14),jT 115 106 (.kK .sub 114 1),jT 116 106 (.kB .eql 113 115),ja 117 106 116] (jC 117 (.region [Cv 118 13,Cv 119 13,jn 120 0 119,jK 121 .sub 120 1,Cv 122 14,ji 123 3 118 121,jf 124 1 123,jS 1 124 122]) (.region [Cv 125 13,Cv 126 14,Cv 127 14,Cv 128 15,Co 129 (.build [(.int .i64 0),(.int .i64 0),(.int .i64 0)] [(0,1,(.t 126)),(1,1,(.t 127)),(2,1,(.t 128))]),Co 130 (.Bb .lit 3 true 1 [(.int .i64 0),(.int .i64 0),(.int .i64 0)] [(0,(.t 129))]),Co 131 (.append true .own 3 true 24 (.t 125) (.t 130)),Cv 13 131])))
def kO:Oa:=(jQ [Cv 63 15,jK 64 .geq 63 0] (jC 64 (jQ [jk 16 0] (.seq (.block 4 (.loop [2,7,9,10,11,12,13,14,15,16] Zc)) (.seq (jQ [Cv 83 16,Cv 84 10,jn 85 0 84,jB 86 .eql 83 85] (jC 86 (.region [Cv 87 10,Cv 88 15,Co 89 (.Bb .lit 1 false 1 [(.int .i64 0)] [(0,(.t 88))]),Co 90 (.ku 1 false 8 87 89),Cv 10 90]) .skip)) (.region [Cv 91 16,Cv 15 91])))) .skip))
theorem Sw:tf=
 (.seq (.seq (.region [⟨(some 48),.move (.t 14),none,false⟩,
 ⟨(some 49),.bin .lss (.t 48) (.c (.int .i64 256)),none,false⟩])
 (.cond (.t 49) (.skip) (.exit 2)))
 (.seq (.block 3 (.seq (.region [⟨(some 52),.move (.t 7),none,false⟩,
  ⟨(some 53),.move (.t 10),none,false⟩,
  ⟨(some 54),.move (.t 12),none,false⟩,
  ⟨(some 55),.Sd 1 (.t 53) (.t 54),none,false⟩,
  ⟨(some 56),.load false 1 (.t 55),none,false⟩,
  ⟨(some 57),.move (.t 14),none,false⟩,
  ⟨(some 58),.Sd 256 (.t 52) (.t 56),none,false⟩,
  ⟨(some 59),.Wv 256 1 (.t 58) (.t 57),none,false⟩,
  ⟨(some 60),.load false 1 (.t 59),none,false⟩,
  ⟨(some 15),.move (.t 60),none,false⟩])
  (.seq (.seq (.region [⟨(some 61),.move (.t 15),none,false⟩,
   ⟨(some 62),.bin .eql (.t 61) (.c (.int .i64 (-2))),none,false⟩])
  (.cond (.t 62) (.exit 3) (.skip)))
  (.seq kO
  AB))))
 (.region [⟨(some 50),.move (.t 14),none,false⟩,
  ⟨(some 51),.bin .add (.t 50) (.c (.int .i64 1)),none,false⟩,
  ⟨(some 14),.move (.t 51),none,false⟩]))):=rfl
end Go.AM.B1
namespace Go.AM.B1
open Go.AM Go.AM.So
attribute [local irreducible] Pd
abbrev gr (l:List Af) (fl:Nat):ba:= .seq 3 true (Ja (pd l)) fl l.isEmpty
section
variable (call:Ta) (E:Tr) (o0 o1 o2 o3:ba) (x:Nat) (to:Int) (g14:E.get 14= .pv (i64 x)) (g15:E.get 15= .pv (i64 to)) (hx:x < 256) (hto:to≠ -2)
include g14 g15 hx hto
omit hx hto in
theorem QJ (nl:Bool) (g13:E.get 13= .own 4 0):
 Pd (fun r=>∃ E',r=(.norm,⟨E',[o0,o1,o2,o3,gr [⟨x,x,to⟩] 0]⟩)∧E'.get 13= .own 4 1∧E'.get 2=E.get 2∧E'.get 7=E.get 7∧E'.get 9=E.get 9∧E'.get 10=E.get 10∧E'.get 11=E.get 11∧E'.get 12=E.get 12∧E'.get 14=E.get 14)
  (qa call AB ⟨E,[o0,o1,o2,o3,.seq 3 true [] 0 nl]⟩):=by
 have ln:Tb [o0,o1,o2,o3,.seq 3 true [] 0 nl] 0 (.own 4 0)=some 0:=by
  simp only[Tb,List.getElem?_cons_succ,List.getElem?_cons_zero];rfl
 have hap:Gb [o0,o1,o2,o3,.seq 3 true [] 0 nl] true .own 3 true 24 (.own 4 0) (.pv (.lit 3 [.agg [i64 x,i64 x,i64 to]]))=some (.own 4 1,[o0,o1,o2,o3,gr [⟨x,x,to⟩] 0]):=by
  simp only[Gb,if_true,List.getElem?_cons_succ,List.getElem?_cons_zero,Fj,xf,Option.map_some,Option.bind_some]
  rw[if_pos ⟨trivial,rfl,by unfold ab;simp,rfl⟩]
  simp[gr,pd,Ja,flat,PV.cells]
 generalize hQQ:(fun r:Ex×St=>_)=QQ
 generalize hO:gr [⟨x,x,to⟩] 0=O at *
 simp -implicitDefEqProofs only[SP,WP,ga,sevalprocAttr,AB,g13,g14,g15,ln,hap,yi,AV.KC,AV.Lo]
 subst hQQ
 refine⟨_,rfl,?_,?_,?_,?_,?_,?_,?_,?_⟩ <;> simp[Tr.aa]
variable (l:List Af) (e:Af) (hl:l.length < 256) (fl:Nat) (hfl:fl≤(l.length+1) * 3) (g13:E.get 13= .own 4 (l.length+1))
include hl hfl g13
theorem YL:
 Pd (fun r=>∃ E' fl',fl'≤(Wf x to (l++[e])).length * 3∧r=(.norm,⟨E',[o0,o1,o2,o3,gr (Wf x to (l++[e])) fl']⟩)∧E'.get 13= .own 4 (Wf x to (l++[e])).length∧E'.get 2=E.get 2∧E'.get 7=E.get 7∧E'.get 9=E.get 9∧E'.get 10=E.get 10∧E'.get 11=E.get 11∧E'.get 12=E.get 12∧E'.get 14=E.get 14)
  (qa call AB ⟨E,[o0,o1,o2,o3,.seq 3 true (Ja (pd l++[e.lo,e.hi,e.to])) fl false]⟩):=by
 have e3:decide (((l.length+1:Nat):Int) > 0)=true:=Fa (by omega)
 have t3:IntKind.i64.wrap (((l.length+1:Nat):Int) - 1)=(l.length:Int):=by rw[Aa (by omega)];omega
 have t4:((l.length:Int)).toNat=l.length:=by simp
 have t5:IntKind.i64.wrap ((x:Int) - 1)=(x:Int) - 1:=Aa (by omega)
 have hlen:∀ h,(Ja (pd l++[e.lo,h,e.to])).length=(l.length+1) * 3:=fun h=>by rw[ib,List.length_append,Qj];simp;omega
 have ln:Tb [o0,o1,o2,o3,.seq 3 true (Ja (pd l++[e.lo,e.hi,e.to])) fl false] 0 (.own 4 (l.length+1))=some (l.length+1):=by
  simp only[Tb,List.getElem?_cons_succ,List.getElem?_cons_zero]
  rw[if_pos];rw[hlen];unfold jh;omega
 have i1:wa [o0,o1,o2,o3,.seq 3 true (Ja (pd l++[e.lo,e.hi,e.to])) fl false] 3 (.own 4 (l.length+1)) (l.length:Int)=some (.Mc 4 ((l.length+1) * 3) (l.length * 3)):=by
  simp only[wa,List.getElem?_cons_succ,List.getElem?_cons_zero]
  rw[if_pos,t4]
  refine⟨trivial,?_,?_⟩
  ·unfold Ga;omega
  ·rw[hlen];unfold jh;omega
 have pl:∀ d,place [o0,o1,o2,o3,.seq 3 true (Ja (pd l++[e.lo,e.hi,e.to])) fl false] d (.Mc 4 ((l.length+1) * 3) (l.length * 3))=some (.Mc 4 ((l.length+1) * 3) (l.length * 3+d)):=by
  intro d
  simp only[place,List.getElem?_cons_succ,List.getElem?_cons_zero]
  rw[if_pos (hlen _)]
 have ld:∀ k,k < 3→ta [o0,o1,o2,o3,.seq 3 true (Ja (pd l++[e.lo,e.hi,e.to])) fl false] false 1 (.Mc 4 ((l.length+1) * 3) (l.length * 3+k))=some (.pv (i64 (if k=0 then e.lo else if k=1 then e.hi else e.to))):=by
  intro k hk
  simp only[ta,List.getElem?_cons_succ,List.getElem?_cons_zero]
  rw[if_pos (hlen _)]
  have:=ZD (pd l) e k hk
  rw[Qj] at this
  simp only[Og,Bool.false_eq_true,if_false,this]
 have l1:=ld 1 (by omega)
 have l2:=ld 2 (by omega)
 simp only[if_true,Nat.one_ne_zero,if_false,show ¬(2=0) by omega,show ¬(2=1) by omega] at l1 l2
 have hst:Ea [o0,o1,o2,o3,.seq 3 true (Ja (pd l++[e.lo,e.hi,e.to])) fl false] 1 (.Mc 4 ((l.length+1) * 3) (l.length * 3+1)) (.pv (i64 x))=some [o0,o1,o2,o3,gr (l++[⟨e.lo,x,e.to⟩]) ((l.length+1) * 3)]:=by
  have hc:(AV.pv (i64 x)).cells=[.pv (i64 x)]:=rfl
  simp only[Ea,List.getElem?_cons_succ,List.getElem?_cons_zero,hc]
  rw[if_pos ⟨rfl,rfl⟩,if_pos ⟨hlen _,by show l.length * 3+1+1≤(l.length+1) * 3;omega⟩,ga,ga,nj]
  have:(pd l++[e.lo,e.hi,e.to]).set (l.length * 3+1) (x:Int)=pd (l++[⟨e.lo,x,e.to⟩]):=by
   rw[Ol,←Qj,List.set_append_right _ _ (by omega),Nat.add_sub_cancel_left];rfl
  rw[this]
  have he:(l++[(⟨e.lo,x,e.to⟩:Af)]).isEmpty=false:=by cases l <;> rfl
  simp only[gr,he,List.set_cons_succ,List.set_cons_zero]
 have hap:Gb [o0,o1,o2,o3,.seq 3 true (Ja (pd l++[e.lo,e.hi,e.to])) fl false] true .own 3 true 24 (.own 4 (l.length+1)) (.pv (.lit 3 [.agg [i64 x,i64 x,i64 to]]))=some (.own 4 (l.length+1+1),[o0,o1,o2,o3,gr (l++[e]++[⟨x,x,to⟩]) fl]):=by
  simp only[Gb,if_true,List.getElem?_cons_succ,List.getElem?_cons_zero,Fj,xf,Option.map_some,Option.bind_some]
  rw[if_pos ⟨trivial,(hlen _).symm,by unfold ab;simp;omega,rfl⟩]
  have he:(l++[e]++[(⟨x,x,to⟩:Af)]).isEmpty=false:=by cases l <;> rfl
  simp only[gr,he,Ol,xE,List.set_cons_succ,List.set_cons_zero]
  rfl
 have hR:∀ l' fl',Wf x to (l++[e])=l'→fl'≤l'.length * 3→∀ E',E'.get 13= .own 4 l'.length→E'.get 2=E.get 2→E'.get 7=E.get 7→E'.get 9=E.get 9→E'.get 10=E.get 10→E'.get 11=E.get 11→E'.get 12=E.get 12→E'.get 14=E.get 14→
  ∃ E'' fl'',fl''≤(Wf x to (l++[e])).length * 3∧(Ex.norm,(⟨E',[o0,o1,o2,o3,gr l' fl']⟩:St))=(.norm,⟨E'',[o0,o1,o2,o3,gr (Wf x to (l++[e])) fl'']⟩)∧E''.get 13= .own 4 (Wf x to (l++[e])).length∧E''.get 2=E.get 2∧E''.get 7=E.get 7∧E''.get 9=E.get 9∧E''.get 10=E.get 10∧E''.get 11=E.get 11∧E''.get 12=E.get 12∧E''.get 14=E.get 14:=by
  intro l' fl' h1 h2 E' k13 k2 k7 k9 k10 k11 k12 k14
  subst h1
  exact⟨E',fl',h2,rfl,k13,k2,k7,k9,k10,k11,k12,k14⟩
 have hlj:(l++[(⟨e.lo,x,e.to⟩:Af)]).length=l.length+1:=by simp
 have hlp:(l++[e]++[(⟨x,x,to⟩:Af)]).length=l.length+1+1:=by simp
 generalize hQQ:(fun r:Ex×St=>_)=QQ
 by_cases h1:e.to=to
 ·have b1:(e.to==to)=true:=by simp[h1]
  by_cases h2:e.hi=(x:Int) - 1
  ·have b2:(e.hi==(x:Int) - 1)=true:=by simp[h2]
   have hj:Wf x to (l++[e])=l++[⟨e.lo,x,e.to⟩]:=by rw[← h1];exact gy (by rw[h1];exact hto) h2
   generalize ba.seq 3 true (Ja (pd l++[e.lo,e.hi,e.to])) fl false=oE at *
   generalize hO:gr (l++[⟨e.lo,x,e.to⟩]) ((l.length+1) * 3)=O at *
   simp -implicitDefEqProofs only[SP,WP,ga,sevalprocAttr,AB,g13,g14,g15,ln,e3,t3,t5,i1,pl,l1,l2,b1,b2,hst,yi,AV.KC,AV.Lo]
   subst hQQ hO
   refine hR _ _ hj (by rw[hlj];exact Nat.le_refl _) _ ?_ ?_ ?_ ?_ ?_ ?_ ?_ ?_
   ·rw[hlj];simp only[Tr.aa];exact g13
   all_goals simp[Tr.aa]
  ·have b2:(e.hi==(x:Int) - 1)=false:=zi h2
   have hj:=nv (l:=l) (x:=(x:Int)) (e:=e) hto (fun h=>h2 h.2)
   generalize ba.seq 3 true (Ja (pd l++[e.lo,e.hi,e.to])) fl false=oE at *
   generalize hO:gr (l++[e]++[⟨x,x,to⟩]) fl=O at *
   simp -implicitDefEqProofs only[SP,WP,ga,sevalprocAttr,AB,g13,g14,g15,ln,e3,t3,t5,i1,pl,l1,l2,b1,b2,hap,yi,AV.KC,AV.Lo]
   subst hQQ hO
   exact hR _ _ hj (by rw[hlp];omega) _ (by rw[hlp];simp[Tr.aa]) (by simp[Tr.aa]) (by simp[Tr.aa]) (by simp[Tr.aa]) (by simp[Tr.aa]) (by simp[Tr.aa]) (by simp[Tr.aa]) (by simp[Tr.aa])
 ·have b1:(e.to==to)=false:=zi h1
  have hj:=nv (l:=l) (x:=(x:Int)) (e:=e) hto (fun h=>h1 h.1)
  generalize ba.seq 3 true (Ja (pd l++[e.lo,e.hi,e.to])) fl false=oE at *
  generalize hO:gr (l++[e]++[⟨x,x,to⟩]) fl=O at *
  simp -implicitDefEqProofs only[SP,WP,ga,sevalprocAttr,AB,g13,g14,g15,ln,e3,t3,t5,i1,pl,l1,l2,b1,hap,yi,AV.KC,AV.Lo]
  subst hQQ hO
  exact hR _ _ hj (by rw[hlp];omega) _ (by rw[hlp];simp[Tr.aa]) (by simp[Tr.aa]) (by simp[Tr.aa]) (by simp[Tr.aa]) (by simp[Tr.aa]) (by simp[Tr.aa]) (by simp[Tr.aa]) (by simp[Tr.aa])
end
end Go.AM.B1
namespace Go.AM.B1
open Go.AM Go.AM.So
attribute [local irreducible] Pd
abbrev ints (O:List Nat):List PV:=O.map fun (o:Nat)=>i64 (Int.ofNat o)
def Lf (f:Nat→Nat→Bool) (O:List Nat) (to:Int):List Nat×Int:=
 if to < 0 then (O,to) else
  (if O.findIdx (fun o=> !f o to.toNat)=O.length then O++[to.toNat] else O,(O.findIdx (fun o=> !f o to.toNat):Int))
theorem BA (H:List ba) {id:Nat} {nl:Bool} {O:List Nat} {k:Nat} (hk:k < O.length):wa H 1 (.uq id nl 1 (ints O)) (k:Int)=some (.pv (.rp [i64 (O[k]:Int)] 0)):=by
 simp only[wa]
 rw[if_pos (by refine⟨trivial,?_⟩;unfold Ga;simp;omega)]
 simp[hk,PV.cells]
theorem EE (H:List ba) {n:Nat} {f:Nat→Nat→Bool} {k:Nat} (hk:k < n):wa H 1 (.pv (Mj n f)) (k:Int)=some (.pv (.rp [.lit 1 (Rf n (f k))] 0)):=by
 simp only[wa,Mj]
 rw[if_pos (by refine⟨trivial,?_⟩;unfold Ga;simp;omega)]
 simp[hk,PV.cells]
theorem lF (H:List ba) {n:Nat} {f:Nat→Bool} {k:Nat} (hk:k < n):wa H 1 (.pv (.lit 1 (Rf n f))) (k:Int)=some (.pv (.rp [.bool (f k)] 0)):=by
 simp only[wa]
 rw[if_pos (by refine⟨trivial,?_⟩;unfold Ga;rw[Ig];omega),Int.toNat_natCast,vz _ hk]
 rfl
theorem Vw (H:List ba) (x:PV):ta H false 1 (.pv (.rp [x] 0))=some (.pv x):=rfl
abbrev dY (L M:PV) (O:List PV) (k len x:Nat) (to:Int) (m:Int):Tr:=
 (((((((((Tr.lf.set 16 (.pv (i64 m))).set 15 (.pv (i64 to))).set 14 (.pv (i64 x))).set 13 (.own 4 len)).set 12 (.pv (i64 k))).set 11 (.ptr 2 0)).set 10 (.uq 1 false 1 O)).set 9 (.pv M)).set 7 (.pv L)).set 2 (.ptr 0 0)
section
variable (call:Ta) (L:PV) (n:Nat) (f:Nat→Nat→Bool) (O:List Nat) (k len x:Nat) (o0 o2 o3 o4:ba)
 (hc:Pa (oa 5) [o0,.tok 1 O.length false,o2,o3,o4]=some [o0,.tok 1 O.length false,o2,o3,o4]) (hO:∀ o∈O,o < n) (hO2:O.length≤64)
include hc hO hO2
theorem eP (to:Nat) (hto:to < n):
 Pd (fun r=>∃ E,r=(.exit 4,⟨E,[o0,.tok 1 O.length false,o2,o3,o4]⟩)∧E.get 2= .ptr 0 0∧E.get 7= .pv L∧E.get 9= .pv (Mj n f)∧E.get 10= .uq 1 false 1 (ints O)∧E.get 11= .ptr 2 0∧E.get 12= .pv (i64 k)∧E.get 13= .own 4 len∧E.get 14= .pv (i64 x)∧E.get 15= .pv (i64 to)∧E.get 16= .pv (i64 (O.findIdx (fun o=> !f o to):Nat)))
  (pb (ma (qa call Zc) (na 5 [2,7,9,10,11,12,13,14,15,16])) pa ⟨dY L (Mj n f) (ints O) k len x to 0,[o0,.tok 1 O.length false,o2,o3,o4]⟩):=by
 have hle:O.findIdx (fun o=> !f o to)≤O.length:=List.findIdx_le_length
 have hlO:(ints O).length=O.length:=by rw[List.length_map]
 refine ya (Mb (g:=ma (qa call Zc) (na 5 [2,7,9,10,11,12,13,14,15,16]))
  (fun m t=>t=⟨dY L (Mj n f) (ints O) k len x to m,[o0,.tok 1 O.length false,o2,o3,o4]⟩)
  (O.findIdx (fun o=> !f o to)) (by unfold pa;omega) _ rfl ?_ ?_) (fun r h=>h.2)
 ·rintro m t hm rfl
  have hmO:m < O.length:=by omega
  have hf:f O[m] to=true:=by
   have:=List.not_of_lt_findIdx hm
   simpa using this
  have e1:decide ((m:Int) < (O.length:Int))=true:=Fa (by omega)
  have t2:IntKind.i64.wrap ((m:Int)+1)=((m+1:Nat):Int):=Aa (by omega)
  have i1:=fun H=>BA H (id:=1) (nl:=false) hmO
  have i2:=fun H=>EE H (f:=f) (hO _ (List.getElem_mem hmO))
  have i3:=fun H=>lF H (f:=f O[m]) hto
  rw[hf] at i3
  generalize O[m]=o at *
  generalize Rf n (f o)=T at *
  generalize Mj n f=M at *
  generalize ints O=os at *
  have d0:(0 < 5)=True:=by simp
  have d1:(1 < 5)=True:=by simp
  have d2:(2 < 5)=True:=by simp
  have d4:(4 < 5)=True:=by simp
  have htk:∀ a b c d e:ba,([a,b,c,d,e]:List ba).take 5=[a,b,c,d,e]:=fun a b c d e=>rfl
  generalize hQ:LN _ _ m=Q
  simp -implicitDefEqProofs only[SX,sevalprocAttr,Zc,hlO,e1,t2,i1,i2,i3,Vw,hc,htk,d0,d1,d2,d4,na,za,AV.cut,ua,dY]
  subst hQ
  show (_:St)=_
  rfl
 ·rintro t rfl
  generalize hN:O.findIdx (fun o=> !f o to)=N at *
  have hfin:∀ E:Tr,E.get 2= .ptr 0 0→E.get 7= .pv L→E.get 9= .pv (Mj n f)→E.get 10= .uq 1 false 1 (ints O)→E.get 11= .ptr 2 0→E.get 12= .pv (i64 k)→E.get 13= .own 4 len→E.get 14= .pv (i64 x)→E.get 15= .pv (i64 to)→E.get 16= .pv (i64 N)→
   (Ex.exit 4,(⟨E,[o0,.tok 1 O.length false,o2,o3,o4]⟩:St)).1.stop=true∧∃ E',(Ex.exit 4,(⟨E,[o0,.tok 1 O.length false,o2,o3,o4]⟩:St))=(.exit 4,⟨E',[o0,.tok 1 O.length false,o2,o3,o4]⟩)∧E'.get 2= .ptr 0 0∧E'.get 7= .pv L∧E'.get 9= .pv (Mj n f)∧E'.get 10= .uq 1 false 1 (ints O)∧E'.get 11= .ptr 2 0∧E'.get 12= .pv (i64 k)∧E'.get 13= .own 4 len∧E'.get 14= .pv (i64 x)∧E'.get 15= .pv (i64 to)∧E'.get 16= .pv (i64 N):=
   fun E k2 k7 k9 k10 k11 k12 k13 k14 k15 k16=>⟨rfl,E,rfl,k2,k7,k9,k10,k11,k12,k13,k14,k15,k16⟩
  generalize hQ:(fun r:Ex×St=>r.1.stop=true∧_)=Q
  by_cases hlt:N < O.length
  ·have hf:f O[N] to=false:=by
    have:=List.findIdx_getElem (w:=by rw[hN];exact hlt) (p:=fun o=> !f o to) (xs:=O)
    simp only[hN] at this
    simpa using this
   have e1:decide ((N:Int) < (O.length:Int))=true:=Fa (by omega)
   have i1:=fun H=>BA H (id:=1) (nl:=false) hlt
   have i2:=fun H=>EE H (f:=f) (hO _ (List.getElem_mem hlt))
   have i3:=fun H=>lF H (f:=f O[N]) hto
   rw[hf] at i3
   generalize O[N]=o at *
   generalize Rf n (f o)=T at *
   generalize Mj n f=M at *
   generalize ints O=os at *
   simp -implicitDefEqProofs only[SX,sevalprocAttr,Zc,hlO,e1,i1,i2,i3,Vw,dY]
   subst hQ
   exact hfin _ (by simp[Tr.aa]) (by simp[Tr.aa]) (by simp[Tr.aa]) (by simp[Tr.aa]) (by simp[Tr.aa]) (by simp[Tr.aa]) (by simp[Tr.aa]) (by simp[Tr.aa]) (by simp[Tr.aa]) (by simp[Tr.aa])
  ·have e1:decide ((N:Int) < (O.length:Int))=false:=Ha (by omega)
   generalize Mj n f=M at *
   generalize ints O=os at *
   simp -implicitDefEqProofs only[SX,sevalprocAttr,Zc,hlO,e1,dY]
   subst hQ
   exact hfin _ (by simp[Tr.aa]) (by simp[Tr.aa]) (by simp[Tr.aa]) (by simp[Tr.aa]) (by simp[Tr.aa]) (by simp[Tr.aa]) (by simp[Tr.aa]) (by simp[Tr.aa]) (by simp[Tr.aa]) (by simp[Tr.aa])
theorem eQ (E:Tr) (to:Int) (hto:to < (n:Int)) (g2:E.get 2= .ptr 0 0) (g7:E.get 7= .pv L) (g9:E.get 9= .pv (Mj n f)) (g10:E.get 10= .uq 1 false 1 (ints O)) (g11:E.get 11= .ptr 2 0) (g12:E.get 12= .pv (i64 k)) (g13:E.get 13= .own 4 len) (g14:E.get 14= .pv (i64 x)) (g15:E.get 15= .pv (i64 to)):
 Pd (fun r=>∃ E',r=(.norm,⟨E',[o0,.tok 1 (Lf f O to).1.length false,o2,o3,o4]⟩)∧E'.get 2= .ptr 0 0∧E'.get 7= .pv L∧E'.get 9= .pv (Mj n f)∧E'.get 10= .uq 1 false 1 (ints (Lf f O to).1)∧E'.get 11= .ptr 2 0∧E'.get 12= .pv (i64 k)∧E'.get 13= .own 4 len∧E'.get 14= .pv (i64 x)∧E'.get 15= .pv (i64 (Lf f O to).2))
  (qa call kO ⟨E,[o0,.tok 1 O.length false,o2,o3,o4]⟩):=by
 have hR:∀ O' v,Lf f O to=(O',v)→∀ E':Tr,E'.get 2= .ptr 0 0→E'.get 7= .pv L→E'.get 9= .pv (Mj n f)→E'.get 10= .uq 1 false 1 (ints O')→E'.get 11= .ptr 2 0→E'.get 12= .pv (i64 k)→E'.get 13= .own 4 len→E'.get 14= .pv (i64 x)→E'.get 15= .pv (i64 v)→
  ∃ E'',(Ex.norm,(⟨E',[o0,.tok 1 O'.length false,o2,o3,o4]⟩:St))=(.norm,⟨E'',[o0,.tok 1 (Lf f O to).1.length false,o2,o3,o4]⟩)∧E''.get 2= .ptr 0 0∧E''.get 7= .pv L∧E''.get 9= .pv (Mj n f)∧E''.get 10= .uq 1 false 1 (ints (Lf f O to).1)∧E''.get 11= .ptr 2 0∧E''.get 12= .pv (i64 k)∧E''.get 13= .own 4 len∧E''.get 14= .pv (i64 x)∧E''.get 15= .pv (i64 (Lf f O to).2):=by
  intro O' v h E' k2 k7 k9 k10 k11 k12 k13 k14 k15
  rw[h]
  exact⟨E',rfl,k2,k7,k9,k10,k11,k12,k13,k14,k15⟩
 by_cases hneg:to < 0
 ·have d1:decide (to≥0)=false:=Ha (by omega)
  have hcl:Lf f O to=(O,to):=by unfold Lf;rw[if_pos hneg]
  generalize hQQ:(fun r:Ex×St=>_)=QQ
  simp -implicitDefEqProofs only[SP,WP,ga,sevalprocAttr,kO,g15,d1]
  subst hQQ
  exact hR O to hcl _ (by simp[Tr.aa,g2]) (by simp[Tr.aa,g7]) (by simp[Tr.aa,g9]) (by simp[Tr.aa,g10]) (by simp[Tr.aa,g11]) (by simp[Tr.aa,g12]) (by simp[Tr.aa,g13]) (by simp[Tr.aa,g14]) (by simp[Tr.aa,g15])
 ·have d1:decide (to≥0)=true:=Fa (by omega)
  obtain⟨t,rfl⟩:∃ t:Nat,to=t:=⟨to.toNat,by omega⟩
  have hlp:=eP call L n f O k len x o0 o2 o3 o4 hc hO hO2 t (by omega)
  have hcl:Lf f O (t:Int)=(if O.findIdx (fun o=> !f o t)=O.length then O++[t] else O,(O.findIdx (fun o=> !f o t):Int)):=by unfold Lf;rw[if_neg hneg,Int.toNat_natCast]
  have hlO:(ints O).length=O.length:=by rw[List.length_map]
  generalize O.findIdx (fun o=> !f o t)=N at *
  have d0:(0 < 5)=True:=by simp
  have d1':(1 < 5)=True:=by simp
  have d2:(2 < 5)=True:=by simp
  have d4:(4 < 5)=True:=by simp
  have htk:∀ a b c d e:ba,([a,b,c,d,e]:List ba).take 5=[a,b,c,d,e]:=fun a b c d e=>rfl
  have hap:Gb [o0,.tok 1 O.length false,o2,o3,o4] false .uq 1 false 8 (.uq 1 false 1 (ints O)) (.pv (.lit 1 [i64 t]))=some (.uq 1 false 1 (ints (O++[t])),[o0,.tok 1 (O.length+1) false,o2,o3,o4]):=by
   have:=Lg (A:=[o0,.tok 1 O.length false,o2,o3,o4]) (id:=1) (n:=O.length) (sz:=1) (h:= .uq) (nl:=false) (ag:=false) (bytes:=8) (es:=ints O) rfl (by rw[List.length_map]) (by unfold ab;omega) (i64 t)
   rw[this]
   simp[ints]
  have hlen2:(O++[t]).length=O.length+1:=by simp
  generalize hQQ:(fun r:Ex×St=>_)=QQ
  generalize hM:Mj n f=M at *
  generalize hos:ints O=os at *
  generalize hos2:ints (O++[t])=os2 at *
  simp -implicitDefEqProofs only[SP,WP,ga,sevalprocAttr,kO,g2,g7,g9,g10,g11,g12,g13,g14,g15,d1,Fb,hc,htk,d0,d1',d2,d4,na,za,AV.cut,ua]
  simp only[dY,hos] at hlp
  refine ya hlp ?_
  rintro r ⟨E2,rfl,k2,k7,k9,k10,k11,k12,k13,k14,k15,k16⟩
  by_cases hN:N=O.length
  ·have e2:((N:Int)==(O.length:Int))=true:=by simp[hN]
   rw[if_pos hN] at hcl
   simp -implicitDefEqProofs only[SP,WP,ga,sevalprocAttr,k2,k7,k9,k10,k11,k12,k13,k14,k15,k16,hlO,e2,hap,yi,AV.KC,AV.Lo]
   subst hQQ
   rw[← hlen2]
   exact hR (O++[t]) N hcl _ (by simp[Tr.aa,k2]) (by simp[Tr.aa,k7]) (by simp[Tr.aa,k9]) (by simp[Tr.aa,hos2]) (by simp[Tr.aa,k11]) (by simp[Tr.aa,k12]) (by simp[Tr.aa,k13]) (by simp[Tr.aa,k14]) (by simp[Tr.aa])
  ·have e2:((N:Int)==(O.length:Int))=false:=zi (by omega)
   rw[if_neg hN] at hcl
   simp -implicitDefEqProofs only[SP,WP,ga,sevalprocAttr,k2,k7,k9,k10,k11,k12,k13,k14,k15,k16,hlO,e2]
   subst hQQ
   exact hR O N hcl _ (by simp[Tr.aa,k2]) (by simp[Tr.aa,k7]) (by simp[Tr.aa,k9]) (by simp[Tr.aa,k10,hos]) (by simp[Tr.aa,k11]) (by simp[Tr.aa,k12]) (by simp[Tr.aa,k13]) (by simp[Tr.aa,k14]) (by simp[Tr.aa])
end
end Go.AM.B1
namespace Go.AM.B1
open Go.AM Go.AM.So
attribute [local irreducible] Pd
theorem MS (l:List Af) (e:Af) (fl:Nat):gr (l++[e]) fl= .seq 3 true (Ja (pd l++[e.lo,e.hi,e.to])) fl false:=by
 have he:(l++[e]).isEmpty=false:=by cases l <;> rfl
 rw[gr,he,Ol]
theorem BN (l:List Af) (fl n:Nat):oa n (gr l fl)=some (gr l fl):=by
 have:(Ja (pd l)).all (AV.ue n deep)=true:=by
  rw[List.all_eq_true]
  intro v hv
  obtain⟨p,_,rfl⟩:=List.mem_map.1 hv
  rfl
 simp[oa,gr,this]
theorem yP (call:Ta) (E:Tr) (o0 o1 o2 o3:ba) (x:Nat) (to:Int) (g14:E.get 14= .pv (i64 x)) (g15:E.get 15= .pv (i64 to)) (hx:x < 256) (hto:to≠ -2) (l:List Af) (hl:l.length≤256) (fl:Nat) (hfl:fl≤l.length * 3) (g13:E.get 13= .own 4 l.length):
 Pd (fun r=>∃ E' fl',fl'≤(Wf x to l).length * 3∧r=(.norm,⟨E',[o0,o1,o2,o3,gr (Wf x to l) fl']⟩)∧E'.get 13= .own 4 (Wf x to l).length∧E'.get 2=E.get 2∧E'.get 7=E.get 7∧E'.get 9=E.get 9∧E'.get 10=E.get 10∧E'.get 11=E.get 11∧E'.get 12=E.get 12∧E'.get 14=E.get 14)
  (qa call AB ⟨E,[o0,o1,o2,o3,gr l fl]⟩):=by
 rcases List.eq_nil_or_concat l with rfl | ⟨l',e,rfl⟩
 ·have:fl=0:=by simpa using hfl
  subst this
  refine ya (QJ call E o0 o1 o2 o3 x to g14 g15 true g13) ?_
  rintro r ⟨E',rfl,k13,k2,k7,k9,k10,k11,k12,k14⟩
  have hj:=Dw (x:=(x:Int)) hto
  rw[hj]
  exact⟨E',0,by omega,rfl,k13,k2,k7,k9,k10,k11,k12,k14⟩
 ·rw[List.concat_eq_append] at *
  have hl1:(l'++[e]).length=l'.length+1:=by simp
  rw[hl1] at hl hfl g13
  rw[MS]
  exact YL call E o0 o1 o2 o3 x to g14 g15 hx hto l' e (by omega) fl hfl g13
theorem yG (x to:Int) (l:List Af):(Wf x to l).length≤l.length+1:=by
 by_cases h:to= -2
 ·subst h;rw[sy];omega
 ·rcases List.eq_nil_or_concat l with rfl | ⟨l',e,rfl⟩
  ·rw[Dw h];simp
  ·rw[List.concat_eq_append]
   by_cases h2:e.to=to∧e.hi=x - 1
   ·obtain⟨rfl,h3⟩:=h2
    rw[gy h h3];simp
   ·rw[nv h h2];simp
def Im (C:List (List Int)) (f:Nat→Nat→Bool) (o:Nat) (r:List Nat×List Af) (x:Nat):List Nat×List Af:=
 if Dg C o x= -2 then r else ((Lf f r.1 (Dg C o x)).1,Wf x (Lf f r.1 (Dg C o x)).2 r.2)
structure nw (n:Nat) (O:List Nat):Prop where
 nd:O.Nodup
 lt:∀ o∈O,o < n
theorem nw.len {n:Nat} {O:List Nat} (h:nw n O):O.length≤n:=by
 have h1:=aB n (O.map fun (o:Nat)=>Int.ofNat o) ?_ ?_
 ·simpa using h1
 ·rw[List.Nodup,List.pairwise_map]
  exact h.nd.imp fun hne he=>hne (Int.ofNat.inj he)
 ·intro o ho
  obtain⟨p,hp,rfl⟩:=List.mem_map.1 ho
  have:=h.lt p hp
  constructor
  ·exact Int.natCast_nonneg p
  ·exact Int.ofNat_lt.2 this
theorem TD {n:Nat} {f:Nat→Nat→Bool} (hf:∀ a,f a a=false) {O:List Nat} (h:nw n O) {to:Int} (hto:to < n):nw n (Lf f O to).1∧∃ t,(Lf f O to).1=O++t:=by
 unfold Lf
 by_cases h1:to < 0
 ·rw[if_pos h1];exact⟨h,[],by simp⟩
 ·rw[if_neg h1]
  by_cases h2:O.findIdx (fun o=> !f o to.toNat)=O.length
  ·rw[if_pos h2]
   have hall:∀ o∈O,f o to.toNat=true:=by
    intro o ho
    obtain⟨k,hk,rfl⟩:=List.getElem_of_mem ho
    have:=List.not_of_lt_findIdx (p:=fun o=> !f o to.toNat) (xs:=O) (i:=k) (by omega)
    simpa using this
   refine⟨⟨?_,?_⟩,[to.toNat],rfl⟩
   ·rw[List.nodup_append]
    refine⟨h.nd,by simp,?_⟩
    intro a ha b hb
    rw[List.mem_singleton] at hb
    subst hb
    intro he
    subst he
    have:=hall _ ha
    rw[hf] at this;cases this
   ·intro o ho
    rcases List.mem_append.1 ho with h3 | h3
    ·exact h.lt o h3
    ·rw[List.mem_singleton] at h3;subst h3;omega
  ·rw[if_neg h2];exact⟨h,[],by simp⟩
theorem MP {f:Nat→Nat→Bool} {O:List Nat} {to:Int} (h:to≠ -2) (h2: -2≤to):(Lf f O to).2≠ -2:=by
 unfold Lf
 by_cases h1:to < 0
 ·rw[if_pos h1];exact h
 ·rw[if_neg h1];simp only;omega
abbrev vU (L M:PV) (O:List PV) (k len x:Nat):Tr:=
 (((((((Tr.lf.set 14 (.pv (i64 x))).set 13 (.own 4 len)).set 12 (.pv (i64 k))).set 11 (.ptr 2 0)).set 10 (.uq 1 false 1 O)).set 9 (.pv M)).set 7 (.pv L)).set 2 (.ptr 0 0)
section
variable (call:Ta) {C:List (List Int)} (hC:LI C) (hge:∀ r∈C,∀ v∈r,-2≤v) {f:Nat→Nat→Bool} (hf:∀ a,f a a=false) (k:Nat) (o0 o2 o3:ba) (h0:∀ n,oa n o0=some o0) (h2:oa 5 o2=some o2) (h3:∀ n,oa n o3=some o3)
include hC hge hf h0 h2 h3
omit hf in
theorem RE {O:List Nat} (hO:nw C.length O) {o:Nat} (hk:O[k]? =some o) {l:List Af} {x:Nat} (hx:x < 256) (hl:l.length≤x) {fl:Nat} (hfl:fl≤l.length * 3):
 Pd (fun r=>∃ fl',fl'≤(Im C f o (O,l) x).2.length * 3∧r=(.norm,⟨vU (.lit 256 (C.map xi)) (Mj C.length f) (ints (Im C f o (O,l) x).1) k (Im C f o (O,l) x).2.length (x+1),[o0,.tok 1 (Im C f o (O,l) x).1.length false,o2,o3,gr (Im C f o (O,l) x).2 fl']⟩))
  (ma (qa call tf) (na 5 [2,7,9,10,11,12,13,14]) ⟨vU (.lit 256 (C.map xi)) (Mj C.length f) (ints O) k l.length x,[o0,.tok 1 O.length false,o2,o3,gr l fl]⟩):=by
 have hkO:=(List.getElem?_eq_some_iff.1 hk).1
 have hko:O[k]=o:=(List.getElem?_eq_some_iff.1 hk).2
 have ho:o < C.length:=by rw[← hko];exact hO.lt _ (List.getElem_mem hkO)
 have hO64:O.length≤64:=Nat.le_trans hO.len hC.sz
 have i1:=fun H=>BA H (id:=1) (nl:=false) hkO
 rw[hko] at i1
 have i2:=fun H=>hC.Sd ho H
 have l2:=fun H=>hC.load ho hx H
 have hv:=(hC.get ho hx).2
 have hv2: -2≤Dg C o x:=hge _ (List.getElem_mem ho) _ (List.mem_of_getElem? (hC.get ho hx).1)
 have e1:decide ((x:Int) < 256)=true:=Fa (by omega)
 have hq:Ga (x:Int) 256:=by unfold Ga;omega
 have t1:((x:Int)).toNat=x:=by simp
 have m1:x * 1=x:=by omega
 have z1:0+x=x:=by omega
 have t2:IntKind.i64.wrap ((x:Int)+1)=((x+1:Nat):Int):=Aa (by omega)
 have hcl:∀ (m:Nat) (l:List Af) (fl:Nat),Pa (oa 5) [o0,.tok 1 m false,o2,o3,gr l fl]=some [o0,.tok 1 m false,o2,o3,gr l fl]:=by
  intro m l fl
  have c1:oa 5 (.tok 1 m false)=some (.tok 1 m false):=rfl
  simp only[Pa,h0,h2,h3,c1,BN,Option.bind_some,Option.map_some]
 have htk:∀ a b c d e:ba,([a,b,c,d,e]:List ba).take 5=[a,b,c,d,e]:=fun a b c d e=>rfl
 have d0:(0 < 5)=True:=by simp
 have d1:(1 < 5)=True:=by simp
 have d2:(2 < 5)=True:=by simp
 have d4:(4 < 5)=True:=by simp
 have hfind:=fun (E:Tr) g2 g7 g9 g10 g11 g12 g13 g14 g15=>eQ call (.lit 256 (C.map xi)) C.length f O k l.length x o0 o2 o3 (gr l fl) (hcl _ _ _) hO.lt hO64 E (Dg C o x) hv g2 g7 g9 g10 g11 g12 g13 g14 g15
 have hce:Dg C o x≠ -2→(Lf f O (Dg C o x)).2≠ -2:=fun h=>MP h hv2
 have hR:∀ r,Im C f o (O,l) x=r→∀ fl',fl'≤r.2.length * 3→∀ s:St,s=⟨vU (.lit 256 (C.map xi)) (Mj C.length f) (ints r.1) k r.2.length (x+1),[o0,.tok 1 r.1.length false,o2,o3,gr r.2 fl']⟩→
  ∃ fl',fl'≤(Im C f o (O,l) x).2.length * 3∧(Ex.norm,s)=(.norm,⟨vU (.lit 256 (C.map xi)) (Mj C.length f) (ints (Im C f o (O,l) x).1) k (Im C f o (O,l) x).2.length (x+1),[o0,.tok 1 (Im C f o (O,l) x).1.length false,o2,o3,gr (Im C f o (O,l) x).2 fl']⟩):=by
  intro r hr fl' hfl' s hs
  subst hr
  exact⟨fl',hfl',by rw[hs]⟩
 have hrx:Dg C o x= -2→Im C f o (O,l) x=(O,l):=fun h=>by unfold Im;rw[if_pos h]
 have hrx2:Dg C o x≠ -2→Im C f o (O,l) x=((Lf f O (Dg C o x)).1,Wf x (Lf f O (Dg C o x)).2 l):=fun h=>by unfold Im;rw[if_neg h]
 generalize hQQ:(fun r:Ex×St=>_)=QQ
 generalize Dg C o x=to at *
 generalize hL:(PV.lit 256 (C.map xi))=L at *
 generalize hM:Mj C.length f=M at *
 generalize hoR:C[o].map i64=oR at *
 by_cases hto:to= -2
 ·have b1:(to== -2)=true:=by simp[hto]
  have hclx:=hcl O.length l fl
  have hfin:=hR (O,l) (hrx hto) fl hfl
  generalize hos:ints O=os at *
  generalize hO4:gr l fl=o4 at *
  simp -implicitDefEqProofs only[SP,WP,ga,sevalprocAttr,Sw,e1,i1,i2,l2,Vw,pj,eq_true hq,t1,m1,z1,b1,t2,hclx,htk,d0,d1,d2,d4,na,za,AV.cut,ua,vU]
  subst hQQ
  exact hfin _ (by simp only[vU,hos,hO4])
 ·have b1:(to== -2)=false:=zi hto
  have hce':=hce hto
  generalize hos:ints O=os at *
  generalize hO4:gr l fl=o4 at *
  simp -implicitDefEqProofs only[SP,WP,ga,sevalprocAttr,Sw,e1,i1,i2,l2,Vw,pj,eq_true hq,t1,m1,z1,b1,vU]
  refine ya (hfind _ ?_ ?_ ?_ ?_ ?_ ?_ ?_ ?_ ?_) ?_
  any_goals (simp[Tr.aa];done)
  rintro r ⟨E2,rfl,k2,k7,k9,k10,k11,k12,k13,k14,k15⟩
  simp -implicitDefEqProofs only[SP,WP,ga,sevalprocAttr]
  subst hO4
  refine ya (yP call E2 o0 _ o2 o3 x _ k14 k15 hx hce' l (by omega) fl hfl k13) ?_
  rintro r ⟨E3,fl',hfl',rfl,j13,j2,j7,j9,j10,j11,j12,j14⟩
  rw[k2] at j2;rw[k7] at j7;rw[k9] at j9;rw[k10] at j10;rw[k11] at j11;rw[k12] at j12;rw[k14] at j14
  have hclx:=hcl (Lf f O to).1.length (Wf x (Lf f O to).2 l) fl'
  have hfin:=hR _ (hrx2 hto) fl' hfl'
  simp only at hfin
  generalize (Lf f O to).1.length=n1 at *
  generalize hos1:ints (Lf f O to).1=os1 at *
  generalize (Wf x (Lf f O to).2 l).length=n2 at *
  generalize gr (Wf x (Lf f O to).2 l) fl'=o4 at *
  simp -implicitDefEqProofs only[SP,WP,ga,sevalprocAttr,j2,j7,j9,j10,j11,j12,j13,j14,t2,hclx,htk,d0,d1,d2,d4,na,za,AV.cut,ua]
  subst hQQ
  exact hfin _ rfl
end
end Go.AM.B1
namespace Go.AM.B1
open Go.AM Go.AM.So
attribute [local irreducible] Pd
def pg (C:List (List Int)) (f:Nat→Nat→Bool) (o:Nat) (O:List Nat) (x:Nat):List Nat×List Af:=(List.range x).foldl (Im C f o) (O,[])
theorem jy (C:List (List Int)) (f:Nat→Nat→Bool) (o:Nat) (O:List Nat) (x:Nat):pg C f o O (x+1)=Im C f o (pg C f o O x) x:=by
 unfold pg
 rw[List.range_succ,List.foldl_append];rfl
theorem WS {C:List (List Int)} (hC:LI C) {f:Nat→Nat→Bool} (hf:∀ a,f a a=false) {o:Nat} (ho:o < C.length) {r:List Nat×List Af} (h:nw C.length r.1) {x:Nat} (hx:x < 256):
 nw C.length (Im C f o r x).1∧(∃ t,(Im C f o r x).1=r.1++t)∧(Im C f o r x).2.length≤r.2.length+1:=by
 unfold Im
 split
 ·exact⟨h,⟨[],by simp⟩,by omega⟩
 ·obtain⟨h1,h2⟩:=TD hf h (hC.get ho hx).2
  exact⟨h1,h2,yG _ _ _⟩
theorem pB {C:List (List Int)} (hC:LI C) {f:Nat→Nat→Bool} (hf:∀ a,f a a=false) {o:Nat} (ho:o < C.length) {O:List Nat} (h:nw C.length O):∀ (x:Nat),x≤256→
 nw C.length (pg C f o O x).1∧(∃ t,(pg C f o O x).1=O++t)∧(pg C f o O x).2.length≤x
 |0,_=>⟨h,⟨[],by simp[pg]⟩,by simp[pg]⟩
 |x+1,hx=>by
  obtain⟨h1,⟨t,h2⟩,h3⟩:=pB hC hf ho h x (by omega)
  obtain⟨k1,⟨t',k2⟩,k3⟩:=WS hC hf ho h1 (x:=x) (by omega)
  rw[jy]
  exact⟨k1,⟨t++t',by rw[k2,h2,List.append_assoc]⟩,by omega⟩
def fp (C:List (List Int)) (f:Nat→Nat→Bool):Nat→List Nat×List (List Af)→List Nat×List (List Af)
 |0,r=>r
 |k+1,r=>match r.1[r.2.length]? with
  |none=>r
  |some o=>fp C f k ((pg C f o r.1 256).1,r.2++[(pg C f o r.1 256).2])
theorem VG {C:List (List Int)} {f:Nat→Nat→Bool} {k:Nat} {r:List Nat×List (List Af)} (h:r.1[r.2.length]? =none):fp C f k r=r:=by
 cases k with
 |zero=>rfl
 |succ k=>rw[fp,h]
theorem PE {C:List (List Int)} {f:Nat→Nat→Bool} {k:Nat} {r:List Nat×List (List Af)} {o:Nat} (h:r.1[r.2.length]? =some o):fp C f (k+1) r=fp C f k ((pg C f o r.1 256).1,r.2++[(pg C f o r.1 256).2]):=by
 rw[fp,h]
section
variable (call:Ta) {C:List (List Int)} (hC:LI C) (hge:∀ r∈C,∀ v∈r,-2≤v) {f:Nat→Nat→Bool} (hf:∀ a,f a a=false)
include hC hge hf
theorem AT (k:Nat) (o0 o2 o3:ba) (h0:∀ n,oa n o0=some o0) (h2:oa 5 o2=some o2) (h3:∀ n,oa n o3=some o3) {O:List Nat} (hO:nw C.length O) {o:Nat} (hk:O[k]? =some o):
 Pd (fun r=>∃ E fl,r=(.exit 2,⟨E,[o0,.tok 1 (pg C f o O 256).1.length false,o2,o3,gr (pg C f o O 256).2 fl]⟩)∧E.get 2= .ptr 0 0∧E.get 7= .pv (.lit 256 (C.map xi))∧E.get 9= .pv (Mj C.length f)∧E.get 10= .uq 1 false 1 (ints (pg C f o O 256).1)∧E.get 11= .ptr 2 0∧E.get 12= .pv (i64 k)∧E.get 13= .own 4 (pg C f o O 256).2.length)
  (pb (ma (qa call tf) (na 5 [2,7,9,10,11,12,13,14])) pa ⟨vU (.lit 256 (C.map xi)) (Mj C.length f) (ints O) k 0 0,[o0,.tok 1 O.length false,o2,o3,gr [] 0]⟩):=by
 have hkO:=(List.getElem?_eq_some_iff.1 hk).1
 have hko:O[k]=o:=(List.getElem?_eq_some_iff.1 hk).2
 have ho:o < C.length:=by rw[← hko];exact hO.lt _ (List.getElem_mem hkO)
 refine ya (Mb (g:=ma (qa call tf) (na 5 [2,7,9,10,11,12,13,14]))
  (fun x t=>∃ fl,fl≤(pg C f o O x).2.length * 3∧t=⟨vU (.lit 256 (C.map xi)) (Mj C.length f) (ints (pg C f o O x).1) k (pg C f o O x).2.length x,[o0,.tok 1 (pg C f o O x).1.length false,o2,o3,gr (pg C f o O x).2 fl]⟩)
  256 (by unfold pa;omega) _ ⟨0,by omega,rfl⟩ ?_ ?_) (fun r h=>h.2)
 ·rintro x t hx ⟨fl,hfl,rfl⟩
  obtain⟨q1,⟨t,q2⟩,q3⟩:=pB hC hf ho hO x (by omega)
  have hk':(pg C f o O x).1[k]? =some o:=by rw[q2,List.getElem?_append_left hkO];exact hk
  refine ya (RE call hC hge k o0 o2 o3 h0 h2 h3 q1 hk' hx q3 hfl) ?_
  rintro r ⟨fl',hfl',rfl⟩
  have:Im C f o ((pg C f o O x).1,(pg C f o O x).2) x=pg C f o O (x+1):=(jy C f o O x).symm
  rw[this] at hfl' ⊢
  exact⟨fl',hfl',rfl⟩
 ·rintro t ⟨fl,hfl,rfl⟩
  have e1:decide (((256:Nat):Int) < 256)=false:=Ha (by omega)
  generalize pg C f o O 256=r at *
  have hfin:∀ E:Tr,E.get 2= .ptr 0 0→E.get 7= .pv (.lit 256 (C.map xi))→E.get 9= .pv (Mj C.length f)→E.get 10= .uq 1 false 1 (ints r.1)→E.get 11= .ptr 2 0→E.get 12= .pv (i64 k)→E.get 13= .own 4 r.2.length→
   (Ex.exit 2,(⟨E,[o0,.tok 1 r.1.length false,o2,o3,gr r.2 fl]⟩:St)).1.stop=true∧∃ E' fl',(Ex.exit 2,(⟨E,[o0,.tok 1 r.1.length false,o2,o3,gr r.2 fl]⟩:St))=(.exit 2,⟨E',[o0,.tok 1 r.1.length false,o2,o3,gr r.2 fl']⟩)∧E'.get 2= .ptr 0 0∧E'.get 7= .pv (.lit 256 (C.map xi))∧E'.get 9= .pv (Mj C.length f)∧E'.get 10= .uq 1 false 1 (ints r.1)∧E'.get 11= .ptr 2 0∧E'.get 12= .pv (i64 k)∧E'.get 13= .own 4 r.2.length:=
   fun E k2 k7 k9 k10 k11 k12 k13=>⟨rfl,E,fl,rfl,k2,k7,k9,k10,k11,k12,k13⟩
  generalize hQ:(fun r:Ex×St=>r.1.stop=true∧_)=Q
  generalize (PV.lit 256 (C.map xi))=L at *
  generalize Mj C.length f=M at *
  generalize ints r.1=os at *
  generalize gr r.2 fl=o4 at *
  simp -implicitDefEqProofs only[SX,sevalprocAttr,Sw,e1,vU]
  subst hQ
  exact hfin _ (by simp[Tr.aa]) (by simp[Tr.aa]) (by simp[Tr.aa]) (by simp[Tr.aa]) (by simp[Tr.aa]) (by simp[Tr.aa]) (by simp[Tr.aa])
end
abbrev DX (L M:PV) (O:List PV) (k:Nat):Tr:=
 (((((Tr.lf.set 12 (.pv (i64 k))).set 11 (.ptr 2 0)).set 10 (.uq 1 false 1 O)).set 9 (.pv M)).set 7 (.pv L)).set 2 (.ptr 0 0)
abbrev Ry (nl:Bool) (es:List PV):ba:= .box [.uq 3 nl 1 es]
abbrev MC (out:List (List Af)):List PV:=out.map je
section
variable (call:Ta) {C:List (List Int)} (hC:LI C) (hge:∀ r∈C,∀ v∈r,-2≤v) {f:Nat→Nat→Bool} (hf:∀ a,f a a=false)
include hC hge hf
theorem WD (o0:ba) (h0:∀ n,oa n o0=some o0) {O:List Nat} (hO:nw C.length O) {out:List (List Af)} {o:Nat} (hk:O[out.length]? =some o):
 Pd (fun r=>r=(.norm,⟨DX (.lit 256 (C.map xi)) (Mj C.length f) (ints (pg C f o O 256).1) (out.length+1),[o0,.tok 1 (pg C f o O 256).1.length false,Ry false (MC (out++[(pg C f o O 256).2])),.tok 1 (out.length+1) false]⟩))
  (ma (qa call Xc) (na 4 [2,7,9,10,11,12]) ⟨DX (.lit 256 (C.map xi)) (Mj C.length f) (ints O) out.length,[o0,.tok 1 O.length false,Ry out.isEmpty (MC out),.tok 1 out.length out.isEmpty]⟩):=by
 have hkO:=(List.getElem?_eq_some_iff.1 hk).1
 have hko:O[out.length]=o:=(List.getElem?_eq_some_iff.1 hk).2
 have hO64:O.length≤64:=Nat.le_trans hO.len hC.sz
 have ho:o < C.length:=by rw[← hko];exact hO.lt _ (List.getElem_mem hkO)
 have hlO:(ints O).length=O.length:=by rw[List.length_map]
 have hlo:(MC out).length=out.length:=by rw[List.length_map]
 have e1:decide ((out.length:Int) < (O.length:Int))=true:=Fa (by omega)
 have t2:IntKind.i64.wrap ((out.length:Int)+1)=((out.length+1:Nat):Int):=Aa (by omega)
 have hc2:∀ nl es,oa 5 (Ry nl es)=some (Ry nl es):=fun nl es=>rfl
 have hl1:=AT call hC hge hf out.length o0 (Ry out.isEmpty (MC out)) (.tok 1 out.length out.isEmpty) h0 (hc2 _ _) (fun n=>rfl) hO hk
 have hcl5:∀ (m:Nat) (nl:Bool) (es:List PV) (n:Nat) (l:List Af) (fl:Nat),Pa (oa 5) [o0,.tok 1 m false,Ry nl es,.tok 1 n nl,gr l fl]=some [o0,.tok 1 m false,Ry nl es,.tok 1 n nl,gr l fl]:=by
  intro m nl es n l fl
  have c1:∀ m nl,oa 5 (.tok 1 m nl)=some (.tok 1 m nl):=fun m nl=>rfl
  simp only[Pa,h0,hc2,c1,BN,Option.bind_some,Option.map_some]
 have hc24:∀ nl es,oa 4 (Ry nl es)=some (Ry nl es):=fun nl es=>rfl
 have hcl4:∀ (m:Nat) (nl:Bool) (es:List PV) (n:Nat),Pa (oa 4) [o0,.tok 1 m false,Ry nl es,.tok 1 n nl]=some [o0,.tok 1 m false,Ry nl es,.tok 1 n nl]:=by
  intro m nl es n
  have c1:∀ m nl,oa 4 (.tok 1 m nl)=some (.tok 1 m nl):=fun m nl=>rfl
  simp only[Pa,h0,hc24,c1,Option.bind_some,Option.map_some]
 have hez:ba.seq 3 true [] 0 true=gr [] 0:=rfl
 have htk5:∀ a b c d e:ba,([a,b,c,d,e]:List ba).take 5=[a,b,c,d,e]:=fun a b c d e=>rfl
 have htk4:∀ a b c d e:ba,([a,b,c,d,e]:List ba).take 4=[a,b,c,d]:=fun a b c d e=>rfl
 have d50:(0 < 5)=True:=by simp
 have d51:(1 < 5)=True:=by simp
 have d52:(2 < 5)=True:=by simp
 have d54:(4 < 5)=True:=by simp
 have d40:(0 < 4)=True:=by simp
 have d41:(1 < 4)=True:=by simp
 have d42:(2 < 4)=True:=by simp
 have g3:(0 < 3)=True:=by simp
 generalize hr:pg C f o O 256=r at *
 obtain⟨O',l⟩:=r
 simp only at hl1 ⊢
 have hfz:∀ (E:Tr) (fl:Nat) (a b c d:ba),E.get 13= .own 4 l.length→ff (.freeze 13) ⟨E,[a,b,c,d,gr l fl]⟩=some ⟨E.set 13 (.pv (je l)),[a,b,c,d,.dead]⟩:=by
  intro E fl a b c d h
  have h1:l.length * 3=(Ja (pd l)).length:=by rw[ib,Qj]
  simp only[ff,h,List.getElem?_cons_succ,List.getElem?_cons_zero,gr]
  rw[if_pos ⟨h1,rfl⟩,List.set_cons_succ,List.set_cons_succ,List.set_cons_succ,List.set_cons_succ,List.set_cons_zero]
  cases hl:l with
  |nil=>rfl
  |cons e l'=>
   rw[← hl]
   have:l.isEmpty=false:=by rw[hl];rfl
   rw[this]
   simp only[Bool.false_eq_true,if_false]
   have h2:Dd (Ja (pd l))=some ((pd l).map i64):=by rw[dt,Ef]
   rw[h2,Option.map_some,iM,je,this]
   rfl
 have hpl:∀ (a b c d:ba) nl es,place [a,b,Ry nl es,c,d] 0 (.ptr 2 0)=some (.ptr 2 0):=fun a b c d nl es=>rfl
 have hld:∀ (a b c d:ba) nl es,ta [a,b,Ry nl es,c,d] false 1 (.ptr 2 0)=some (.uq 3 nl 1 es):=fun a b c d nl es=>rfl
 have hst:∀ (a b c d:ba) nl nl' es es',Ea [a,b,Ry nl es,c,d] 1 (.ptr 2 0) (.uq 3 nl' 1 es')=some [a,b,Ry nl' es',c,d]:=fun a b c d nl nl' es es'=>rfl
 have hap:Gb [o0,.tok 1 O'.length false,Ry out.isEmpty (MC out),.tok 1 out.length out.isEmpty,.dead] false .uq 1 false 24 (.uq 3 out.isEmpty 1 (MC out)) (.pv (.lit 1 [je l]))=some (.uq 3 false 1 (MC (out++[l])),[o0,.tok 1 O'.length false,Ry out.isEmpty (MC out),.tok 1 (out.length+1) false,.dead]):=by
  have:=Lg (A:=[o0,.tok 1 O'.length false,Ry out.isEmpty (MC out),.tok 1 out.length out.isEmpty,.dead]) (id:=3) (n:=out.length) (sz:=1) (h:= .uq) (nl:=out.isEmpty) (ag:=false) (bytes:=24) (es:=MC out) rfl hlo.symm (by unfold ab;omega) (je l)
  rw[this]
  simp[MC]
 have hone:(AV.pv (je l)).one=true:=by unfold je;split <;> rfl
 have hcel:(AV.pv (je l)).cells=[.pv (je l)]:=by unfold je;split <;> rfl
 have hpu:(AV.pv (je l)).KC= .pv (je l):=by unfold je;split <;> rfl
 have hpc:(je l).cells=[je l]:=by unfold je;split <;> rfl
 have hcl5z:=hcl5 O.length out.isEmpty (MC out) out.length [] 0
 have hcl4z:=hcl4 O'.length false (MC (out++[l])) (out.length+1)
 generalize je l=el at *
 generalize hQQ:(fun r:Ex×St=>_)=QQ
 generalize hL:(PV.lit 256 (C.map xi))=L at *
 generalize hM:Mj C.length f=M at *
 generalize hos:ints O=os at *
 generalize hos':ints O'=os' at *
 generalize hou:MC out=ou at *
 generalize hou':MC (out++[l])=ou' at *
 generalize hzb:gr [] 0=zb at *
 generalize hob:Ry out.isEmpty ou=ob at *
 simp -implicitDefEqProofs only[SP,WP,ga,sevalprocAttr,Xc,hlO,e1,ff,g3,hez,Fb,hcl5z,htk5,d50,d51,d52,d54,na,za,AV.cut,ua,DX]
 refine ya hl1 ?_
 rintro r ⟨E,fl,rfl,k2,k7,k9,k10,k11,k12,k13⟩
 have hfz':=hfz E fl o0 (.tok 1 O'.length false) ob (.tok 1 out.length out.isEmpty) k13
 subst hob
 simp -implicitDefEqProofs only[SP,WP,ga,sevalprocAttr,hfz',k2,k7,k9,k10,k11,k12,hpl,hld,hap,hst,yi,hone,hcel,hpu,hpc,t2,hcl4z,htk4,d40,d41,d42,na,za,AV.cut,ua]
 subst hQQ
 rfl
end
end Go.AM.B1
namespace Go.AM.B1
open Go.AM Go.AM.So
theorem OB (gb:List Int):∀ (xs:List Nat) (r:List Int×List Int),Md gb xs r=xs.foldl (fun r x=>Hi x (gb.getD x 0) r) r
 | [],r=>rfl
 |x::xs,r=>by rw[Md,OB gb xs,List.foldl_cons]
theorem fA (row:List Int):∀ (xs:List Nat) (l:List Af),Be row xs l=xs.foldl (fun l (x:Nat)=>Wf x (row.getD x 0) l) l
 | [],l=>rfl
 |x::xs,l=>by rw[Be,fA row xs,List.foldl_cons]
theorem foldl_congr {α β:Type} {f g:β→α→β}:∀ (l:List α) (b:β),(∀ b,∀ a∈l,f b a=g b a)→l.foldl f b=l.foldl g b
 | [],b,_=>rfl
 |a::l,b,h=>by
  rw[List.foldl_cons,List.foldl_cons,h b a (by simp)]
  exact foldl_congr l _ fun b a' ha=>h b a' (by simp[ha])
theorem UI {v:Int} {co:Nat→Int} {p:Nat→Bool}:∀ (O:List Nat) (k:Nat),(∀ o∈O,(v=co o↔p o=true))→
 Tt v (O.map co) k=if O.findIdx p < O.length then some (k+O.findIdx p) else none
 | [],k,_=>by simp[Tt]
 |o::O,k,h=>by
  rw[List.map_cons,Tt,List.findIdx_cons]
  have ho:=h o (by simp)
  by_cases hp:p o=true
  ·rw[if_pos (ho.2 hp),hp];simp
  ·have hp':p o=false:=by simpa using hp
   rw[if_neg fun e=>hp (ho.1 e),hp',UI O (k+1) fun o' ho'=>h o' (by simp[ho'])]
   simp only[cond_false,List.length_cons]
   by_cases hlt:O.findIdx p < O.length
   ·rw[if_pos hlt,if_pos (by omega)];congr 1;omega
   ·rw[if_neg hlt,if_neg (by omega)]
def co (C:List (List Int)) (o:Nat):Int:=if o=0 then 0 else cls C o
section
variable {ss:List qc} {sets:List Al} {C:List (List Int)} (Ba:Fc ss) (hpre:bh ss) (W:Tk ss sets C) (hl:C.length=sets.length)
 {f:Nat→Nat→Bool} (hf:∀ a,f a a=false) (hK:∀ i j,i < C.length→j < C.length→(f i j=false↔cls C i=cls C j))
include Ba hpre W hl hf hK
omit hf hK in
theorem WN {t:Nat} (h0:0 < t) (ht:t < C.length):cls C t≠0:=by
 intro h
 have h1:=(W.fy hl).uo ht
 have h2:(Te C.length C.flatten).Dc.getD t 0=0:=h
 rw[h2] at h1
 exact W.HB Ba hpre hl h0 ht (((W.fy hl).ZI (by omega) ht).2 h1.2.2)
omit Ba hpre hf hK in
theorem sI {o x:Nat} (ho:o < C.length) (hx:x < 256):(Va (Te C.length C.flatten).C (co C o).toNat).getD x 0=Wp C o x:=by
 rw[← W.AP hl ho hx]
 unfold co
 by_cases h:o=0
 ·rw[if_pos h,h];rfl
 ·rw[if_neg h]
  have:=((W.fy hl).uo ho).2.2
  unfold cls
  rw[this]
omit hf in
theorem PL {O:List Nat} (hO:nw C.length O) {t:Nat} (h0:0 < t) (ht:t < C.length):Tt (cls C t) (O.map (co C)) 0=if O.findIdx (fun o=> !f o t) < O.length then some (O.findIdx (fun o=> !f o t)) else none:=by
 rw[UI (p:=fun o=> !f o t)]
 ·simp
 ·intro o ho
  have hoC:=hO.lt o ho
  unfold co
  by_cases hz:o=0
  ·subst hz
   rw[if_pos rfl]
   constructor
   ·intro h;exact absurd h (WN Ba hpre W hl h0 ht)
   ·intro h
    have:f 0 t=false:=by simpa using h
    exact absurd ((hK 0 t (by omega) ht).1 this) (W.HB Ba hpre hl h0 ht)
  ·rw[if_neg hz]
   have:=hK o t hoC ht
   constructor
   ·intro h;have:=this.2 h.symm;simp[this]
   ·intro h;exact (this.1 (by simpa using h)).symm
structure JV (C:List (List Int)) (o:Nat) (x:Nat) (rt:List Int×List Int) (rr:List Nat×List Af):Prop where
 ord:nw C.length rr.1
 fst:rt.1=rr.1.map (co C)
 len:rt.2.length=256
 rest:∀ y,x≤y→y < 256→rt.2.getD y 0=Wp C o y
 OW:rr.2=(List.range x).foldl (fun l (y:Nat)=>Wf y (rt.2.getD y 0) l) []
theorem dQ {o x:Nat} (ho:o < C.length) (hx:x < 256) {rt:List Int×List Int} {rr:List Nat×List Af} (h:JV C o x rt rr):JV C o (x+1) (Hi x (Wp C o x) rt) (Im C f o rr x):=by
 have hbd:=W.bound hl ho hx
 have hcur:=h.rest x (Nat.le_refl _) hx
 have hkeep:∀ (row:List Int) (l:List Af),(∀ y,y≠x→row.getD y 0=rt.2.getD y 0)→l=Wf x (row.getD x 0) rr.2→l=(List.range (x+1)).foldl (fun l (y:Nat)=>Wf y (row.getD y 0) l) []:=by
  intro row l h1 h2
  rw[List.range_succ,List.foldl_append,h2,h.OW]
  show Wf x _ _=Wf x _ _
  congr 1
  refine foldl_congr _ _ fun b a ha=> ?_
  have:a < x:=by simpa using ha
  rw[h1 a (by omega)]
 by_cases hneg:Dg C o x < 0
 ·have hn:Wp C o x=Dg C o x:=by unfold Wp;rw[if_neg (by omega)]
  have ht:Hi x (Wp C o x) rt=rt:=by unfold Hi;rw[if_pos (by omega)]
  rw[ht]
  have hr1:(Im C f o rr x).1=rr.1:=by
   unfold Im Lf
   split
   ·rfl
   ·first | rfl | rw[if_pos hneg]
  have hr2:(Im C f o rr x).2=Wf x (rt.2.getD x 0) rr.2:=by
   rw[hcur,hn]
   unfold Im Lf
   split
   ·next h2=>rw[h2,sy]
   ·first | rfl | rw[if_pos hneg]
  exact⟨by rw[hr1];exact h.ord,by rw[hr1];exact h.fst,h.len,fun y h1 h2=>h.rest y (by omega) h2,hkeep _ _ (fun _ _=>rfl) hr2⟩
 ·obtain⟨t,ht⟩:∃ t:Nat,Dg C o x=t:=⟨(Dg C o x).toNat,by omega⟩
  have hdeep:=W.OA hl ho hx (by omega)
  have h0:0 < t:=by omega
  have htC:t < C.length:=by omega
  have hn:Wp C o x=cls C t:=by unfold Wp;rw[if_pos (by omega),ht,Int.toNat_natCast]
  have hnn:=W.UM hl htC
  have hsc:=PL Ba hpre W hl hK h.ord h0 htC
  have hrf:Im C f o rr x=(if rr.1.findIdx (fun o=> !f o t)=rr.1.length then rr.1++[t] else rr.1,Wf x (rr.1.findIdx (fun o=> !f o t):Int) rr.2):=by
   unfold Im Lf
   rw[if_neg (by omega),if_neg hneg,ht,Int.toNat_natCast]
  have hoC:=(TD hf h.ord (to:=(t:Int)) (by omega)).1
  have hcl:(Lf f rr.1 (t:Int)).1=if rr.1.findIdx (fun o=> !f o t)=rr.1.length then rr.1++[t] else rr.1:=by
   unfold Lf
   rw[if_neg (by omega),Int.toNat_natCast]
  rw[hcl] at hoC
  have hle:rr.1.findIdx (fun o=> !f o t)≤rr.1.length:=List.findIdx_le_length
  rw[hrf]
  have hset:∀ v:Int,(∀ y,y≠x→(rt.2.set x v).getD y 0=rt.2.getD y 0)∧(rt.2.set x v).getD x 0=v:=by
   intro v
   refine⟨fun y hy=> ?_,?_⟩
   ·rw[List.getD_eq_getElem?_getD,List.getElem?_set_ne (Ne.symm hy),←List.getD_eq_getElem?_getD]
   ·rw[List.getD_eq_getElem?_getD,List.getElem?_set_self (by rw[h.len];exact hx)];rfl
  by_cases hlt:rr.1.findIdx (fun o=> !f o t) < rr.1.length
  ·rw[if_pos hlt] at hsc
   have htd:Hi x (Wp C o x) rt=(rt.1,rt.2.set x (rr.1.findIdx (fun o=> !f o t):Int)):=by
    unfold Hi
    rw[hn,if_neg (by omega),h.fst,hsc]
   rw[htd,if_neg (by omega)]
   refine⟨h.ord,h.fst,by simp[h.len],fun y h1 h2=> ?_,?_⟩
   ·rw[(hset _).1 y (by omega)];exact h.rest y (by omega) h2
   ·exact hkeep _ _ (hset _).1 (by rw[(hset _).2])
  ·rw[if_neg hlt] at hsc
   have hfe:rr.1.findIdx (fun o=> !f o t)=rr.1.length:=by omega
   have htd:Hi x (Wp C o x) rt=(rt.1++[cls C t],rt.2.set x (rt.1.length:Int)):=by
    unfold Hi
    rw[hn,if_neg (by omega),h.fst,hsc]
   rw[if_pos hfe] at hoC
   rw[htd,if_pos hfe]
   have hll:rt.1.length=rr.1.length:=by rw[h.fst,List.length_map]
   refine⟨hoC,?_,by simp[h.len],fun y h1 h2=> ?_,?_⟩
   ·simp only[List.map_append,List.map_cons,List.map_nil,h.fst]
    unfold co
    rw[if_neg (by omega:¬t=0)]
   ·rw[(hset _).1 y (by omega)];exact h.rest y (by omega) h2
   ·exact hkeep _ _ (hset _).1 (by rw[(hset _).2,hll,hfe])
theorem IT {o:Nat} (ho:o < C.length) {O:List Nat} (hO:nw C.length O):bg (Te C.length C.flatten).C (co C o) (O.map (co C))=((pg C f o O 256).1.map (co C),(bg (Te C.length C.flatten).C (co C o) (O.map (co C))).2)∧
 Xf (bg (Te C.length C.flatten).C (co C o) (O.map (co C))).2=(pg C f o O 256).2∧nw C.length (pg C f o O 256).1:=by
 have hrl:(Va (Te C.length C.flatten).C (co C o).toNat).length=256:=by
  refine Lh (W.fy hl).hC ?_
  unfold co
  split
  ·simp;omega
  ·have:=(W.fy hl).uo ho
   unfold cls;omega
 have key:∀ x,x≤256→JV C o x ((List.range x).foldl (fun r x=>Hi x ((Va (Te C.length C.flatten).C (co C o).toNat).getD x 0) r) (O.map (co C),Va (Te C.length C.flatten).C (co C o).toNat)) (pg C f o O x):=by
  intro x
  induction x with
  |zero=>
   intro _
   exact⟨hO,rfl,hrl,fun y _ hy=>sI W hl ho hy,rfl⟩
  |succ x ih=>
   intro hx
   have h1:=dQ Ba hpre W hl hf hK ho (show x < 256 by omega) (ih (by omega))
   rw[jy,List.range_succ,List.foldl_append]
   have h2:(Va (Te C.length C.flatten).C (co C o).toNat).getD x 0=Wp C o x:=sI W hl ho (by omega)
   show JV C o (x+1) (Hi x ((Va (Te C.length C.flatten).C (co C o).toNat).getD x 0) _) _
   rw[h2]
   exact h1
 have h:=key 256 (Nat.le_refl _)
 unfold bg
 rw[OB]
 refine⟨?_,?_,h.ord⟩
 ·rw[← h.fst]
 ·rw[Xf,fA];exact h.OW.symm
theorem cO:∀ (k:Nat) (O:List Nat) (out:List (List Af)),nw C.length O→ej (Te C.length C.flatten).C k (O.map (co C),out)=((fp C f k (O,out)).1.map (co C),(fp C f k (O,out)).2)
 |0,O,out,_=>rfl
 |k+1,O,out,hO=>by
  cases ho:O[out.length]? with
  |none=>
   have h1:(O.map (co C))[out.length]? =none:=by rw[List.getElem?_map,ho];rfl
   rw[aq h1,VG (r:=(O,out)) ho]
  |some o=>
   have h1:(O.map (co C))[out.length]? =some (co C o):=by rw[List.getElem?_map,ho];rfl
   have hoC:=hO.lt o (List.mem_of_getElem? ho)
   obtain⟨q1,q2,q3⟩:=IT Ba hpre W hl hf hK hoC hO
   rw[Vq (r:=(O.map (co C),out)) h1,PE (r:=(O,out)) ho,q2]
   have q4:(bg (Te C.length C.flatten).C (co C o) (O.map (co C))).1=(pg C f o O 256).1.map (co C):=by rw[q1]
   simp only[q4]
   exact cO k _ _ q3
theorem rS (hn:0 < C.length):cn (Te C.length C.flatten).C=(fp C f 64 ([0],[])).2:=by
 have h:=cO Ba hpre W hl hf hK 64 [0] [] ⟨by simp,by simp;exact hn⟩
 have h0:([0]:List Nat).map (co C)=[0]:=rfl
 unfold cn
 rw[← h0,h]
end
end Go.AM.B1
namespace Go.AM.B1
open Go.AM Go.AM.So
attribute [local irreducible] Pd
section
variable (call:Ta) {C:List (List Int)} (hC:LI C) (hge:∀ r∈C,∀ v∈r,-2≤v) {f:Nat→Nat→Bool} (hf:∀ a,f a a=false)
include hC hge hf
theorem wR (hn:0 < C.length) (o0:ba) (h0:∀ n,oa n o0=some o0):
 Pd (fun r=>∃ E O,r=(.exit 0,⟨E,[o0,.tok 1 O false,Ry (fp C f 64 ([0],[])).2.isEmpty (MC (fp C f 64 ([0],[])).2),.tok 1 (fp C f 64 ([0],[])).2.length (fp C f 64 ([0],[])).2.isEmpty]⟩)∧E.get 2= .ptr 0 0∧E.get 11= .ptr 2 0∧0 < (fp C f 64 ([0],[])).2.length)
  (pb (ma (qa call Xc) (na 4 [2,7,9,10,11,12])) pa ⟨DX (.lit 256 (C.map xi)) (Mj C.length f) (ints [0]) 0,[o0,.tok 1 1 false,Ry true (MC []),.tok 1 0 true]⟩):=by
 have hsz:=hC.sz
 refine ya (Up (g:=ma (qa call Xc) (na 4 [2,7,9,10,11,12]))
  (fun k t=>∃ (O:List Nat) (out:List (List Af)),t=⟨DX (.lit 256 (C.map xi)) (Mj C.length f) (ints O) out.length,[o0,.tok 1 O.length false,Ry out.isEmpty (MC out),.tok 1 out.length out.isEmpty]⟩∧k+out.length=64∧nw C.length O∧0 < O.length∧out.length≤O.length∧fp C f 64 ([0],[])=fp C f k (O,out))
  pa 64 _ (by unfold pa;omega) ⟨[0],[],rfl,rfl,⟨by simp,by simp;exact hn⟩,by simp,by simp,rfl⟩ ?_) (fun r h=>h.2)
 rintro k t ⟨O,out,rfl,hk,hO,hpos,hle,hs⟩
 have hOl:=hO.len
 cases ho:O[out.length]? with
 |some o=>
  have hlt:=(List.getElem?_eq_some_iff.1 ho).1
  obtain⟨k',rfl⟩:∃ k',k=k'+1:=⟨k - 1,by omega⟩
  have hoC:=hO.lt o (List.mem_of_getElem? ho)
  obtain⟨q1,⟨t,q2⟩,_⟩:=pB hC hf hoC hO 256 (Nat.le_refl _)
  refine ya (WD call hC hge hf o0 h0 hO ho) ?_
  rintro r rfl
  have hie:(out++[(pg C f o O 256).2]).isEmpty=false:=by cases out <;> rfl
  have hlo:(out++[(pg C f o O 256).2]).length=out.length+1:=by simp
  refine⟨k',by omega,(pg C f o O 256).1,out++[(pg C f o O 256).2],by rw[hie,hlo],by rw[hlo];omega,q1,?_,?_,?_⟩
  ·rw[q2,List.length_append];omega
  ·rw[hlo,q2,List.length_append];omega
  ·rw[hs,PE (r:=(O,out)) ho]
 |none=>
  have hge2:O.length≤out.length:=by
   rcases Nat.lt_or_ge out.length O.length with h | h
   ·rw[List.getElem?_eq_getElem h] at ho;cases ho
   ·exact h
  rw[VG (r:=(O,out)) ho] at hs
  rw[hs]
  have e1:decide ((out.length:Int) < (O.length:Int))=false:=Ha (by omega)
  have hlO:(ints O).length=O.length:=by rw[List.length_map]
  have hgen:Pd (fun r=>∃ E,r=(.exit 0,⟨E,[o0,.tok 1 O.length false,Ry out.isEmpty (MC out),.tok 1 out.length out.isEmpty]⟩)∧E.get 2= .ptr 0 0∧E.get 11= .ptr 2 0)
   (ma (qa call Xc) (na 4 [2,7,9,10,11,12]) ⟨DX (.lit 256 (C.map xi)) (Mj C.length f) (ints O) out.length,[o0,.tok 1 O.length false,Ry out.isEmpty (MC out),.tok 1 out.length out.isEmpty]⟩):=by
   generalize hQ:(fun r:Ex×St=>_)=Q
   generalize (PV.lit 256 (C.map xi))=L at *
   generalize Mj C.length f=M at *
   generalize hos:ints O=os at *
   generalize Ry out.isEmpty (MC out)=ob at *
   simp -implicitDefEqProofs only[SX,sevalprocAttr,-List.reduceReplicate,Xc,hlO,e1,DX]
   subst hQ
   exact⟨_,rfl,by simp[Tr.aa],by simp[Tr.aa]⟩
  refine ya hgen ?_
  rintro r ⟨E,rfl,k2,k11⟩
  exact⟨E,O.length,rfl,k2,k11,by show 0 < out.length;omega⟩
end
theorem En {S:PV} {ss:List qc} {es:List PV} (hS:Za S ss es):
 (¬ Fc ss→Xa [.agg [S]]=some (.ic [.agg [.fa],i64 84]))∧
 (Fc ss→¬bh ss→Xa [.agg [S]]=some (.ic [.agg [.fa],i64 110]))∧
 (Fc ss→bh ss→oh ss=none→Xa [.agg [S]]=some (.ic [.agg [.fa],i64 130]))∧
 (Fc ss→bh ss→∀ l,oh ss=some l→Xa [.agg [S]]=some (.ic [.agg [El l],i64 0])):=by
 have hS1:(AV.pv S).one=true:=by rcases hS.is with⟨h,_⟩ | h <;> rw[h] <;> rfl
 have hp:=fD hS
 have st0:∀ (a:PV),Ea [.box [.pv .fa]] 1 (.ptr 0 0) (.pv (.agg [.fa]))=some [.box [.pv .fa]]:=fun a=>rfl
 have ld0:ta [.box [.pv .fa]] true 1 (.ptr 0 0)=some (.pv (.agg [.fa])):=rfl
 refine⟨?_,?_,?_,?_⟩
 ·intro h
  have h1:=hp.1 h
  have b1:((84:Int) != 0)=true:=by decide
  simp -implicitDefEqProofs only[Xa,SX,sevalprocAttr,-List.reduceReplicate,mf,hS1,Od,h1,b1,st0 .fa,ld0]
 ·intro Ba hpre
  obtain⟨b,h1,hb⟩:=hp.2 Ba
  have:b=false:=by cases b with | false=>rfl | true=>exact absurd (hb.1 rfl) hpre
  subst this
  have b1:((0:Int) != 0)=false:=by decide
  simp -implicitDefEqProofs only[Xa,SX,sevalprocAttr,-List.reduceReplicate,mf,hS1,Od,h1,b1,st0 .fa,ld0]
 ·intro Ba hpre hau
  obtain⟨b,h1,hb⟩:=hp.2 Ba
  have:=hb.2 hpre
  subst this
  have hn:Ng ss 64 (Pg ss,[])=none:=by unfold oh at hau;simpa using hau
  have h2:=(PK hS Ba).2 hn
  have b1:((0:Int) != 0)=false:=by decide
  simp -implicitDefEqProofs only[Xa,SX,sevalprocAttr,-List.reduceReplicate,mf,hS1,Od,h1,h2,b1,st0 .fa,ld0]
 ·intro Ba hpre l hau
  obtain⟨b,h1,hb⟩:=hp.2 Ba
  have:=hb.2 hpre
  subst this
  obtain⟨p,hn,hl⟩:∃ r,Ng ss 64 (Pg ss,[])=some r∧cn (Te r.2.length r.2.flatten).C=l:=by
   unfold oh at hau;simpa using hau
  obtain⟨h2,_⟩:=(PK hS Ba).1 p hn
  obtain⟨W,hlen⟩:=oH Ba.len Ba.ne hn
  have hpos:0 < p.2.length:=by
   have:=(List.getElem?_eq_some_iff.1 W.first).1
   omega
  obtain⟨f,hK,h3⟩:=kQ (W.Xe hlen) hpos (W.kY hlen)
  have hff:∀ a,f a a=false:=fun a=>by
   cases h:f a a with
   |false=>rfl
   |true=>exact absurd rfl (hK.snd a a h)
  have hfk:=W.known hlen hK
  have htr:=rS Ba hpre W hlen hff hfk hpos
  have hl0:=wR (Ca (fun _=>none) 8) (W.Xe hlen) (W.ge hlen) hff hpos (.box [.pv .fa]) (fun n=>rfl)
  rw[htr] at hl
  rw[hl] at hl0
  have b1:((0:Int) != 0)=false:=by decide
  have hi0:ints [0]=[i64 0]:=rfl
  have ho0:MC []=[]:=rfl
  rw[hi0,ho0] at hl0
  have key:Pd (fun r=>r=PV.ic [.agg [El l],i64 0]) (Xa [.agg [S]]):=by
   have hes:El l= .lit 1 (MC l):=rfl
   have hne:0 < l.length→l.isEmpty=false:=fun h=>by cases l with | nil=>simp at h | cons=>rfl
   have g1:(0 < 1)=True:=by simp
   have st1:Ea [.box [.pv .fa],.tok 1 1 false,.box [.pv .fa]] 1 (.ptr 2 0) (.pv (.agg [.fa]))=some [.box [.pv .fa],.tok 1 1 false,.box [.pv .fa]]:=rfl
   have hc4:Pa (oa 4) [.box [.pv .fa],.tok 1 1 false,Ry true [],.tok 1 0 true]=some [.box [.pv .fa],.tok 1 1 false,Ry true [],.tok 1 0 true]:=rfl
   have htk:∀ a b c d:ba,([a,b,c,d]:List ba).take 4=[a,b,c,d]:=fun a b c d=>rfl
   have d40:(0 < 4)=True:=by simp
   have d41:(1 < 4)=True:=by simp
   have d42:(2 < 4)=True:=by simp
   generalize hQQ:(fun r:PV=>_)=QQ
   generalize (PV.lit 256 (p.2.map xi))=L at *
   generalize hM:Mj p.2.length f=M at *
   have hMo:(AV.pv M).one=true:=by rw[← hM];rfl
   generalize p.1.map Ze=se at *
   simp -implicitDefEqProofs only[Xa,SP,WP,ga,sevalprocAttr,-List.reduceReplicate,mf,hS1,Od,h1,h2,h3,b1,st1,ff,g1,yi,AV.KC,AV.Lo,Fb,hc4,htk,d40,d41,d42,na,za,AV.cut,ua]
   refine ya hl0 ?_
   rintro r ⟨E,O,rfl,k2,k11,hpos2⟩
   rw[hne hpos2]
   have ld1:∀ (out:List PV) (a b:ba),ta [.box [.pv .fa],a,Ry false out,b] true 1 (.ptr 2 0)=some (.agg [.uq 3 false 1 out]):=fun out a b=>rfl
   have st2:∀ (out:List PV) (a b c:ba),Ea [.box [.pv .fa],a,b,c] 1 (.ptr 0 0) (.agg [.uq 3 false 1 out])=some [Ry false out,a,b,c]:=fun out a b c=>rfl
   have ld2:∀ (out:List PV) (a b c:ba),ta [Ry false out,a,b,c] true 1 (.ptr 0 0)=some (.agg [.uq 3 false 1 out]):=fun out a b c=>rfl
   generalize MC l=out at *
   simp -implicitDefEqProofs only[SP,WP,ga,sevalprocAttr,-List.reduceReplicate,k2,k11,ld1,st2,ld2]
   subst hQQ
   rw[hes]
  exact Km key
end Go.AM.B1
