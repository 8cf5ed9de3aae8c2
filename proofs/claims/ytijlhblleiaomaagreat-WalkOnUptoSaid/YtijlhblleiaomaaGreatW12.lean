/- What functions of the program compute. -/
import Derived.Test.YtijlhblleiaomaaGreatW11
import Derived.Test.YtijlhblleiaomaaGreatW7
import Derived.Test.YtijlhblleiaomaaGreatW2
import Derived.Test.YtijlhblleiaomaaGreatW10
import Derived.Test.YtijlhblleiaomaaGreatW3
import Derived.Test.YtijlhblleiaomaaGreatW8
set_option linter.unusedVariables false
set_option linter.unusedSimpArgs false
namespace Go.AM.B1
open Go.AM Go.AM.So
theorem HP {e:Tr} {H:List ba} {s:Rb} {P:PV} {ps:List PV} {sb oid fl i:Nat} {prod:Int} {g:Nat→AV} (hp:Ze P s.parts ps) (hi:i < s.parts.length) (Ba:xd s.parts[i])
 (h1:e.get 1= .pv (.rp [P,i64 s.first] 0)) (h3:e.get 3= .ptr sb 0) (h4:e.get 4= .pv (i64 prod)) (h5:e.get 5= .pv (i64 i)) (hs:H[sb]? =some (.box [.own oid s.parts.length])) (ho:H[oid]? =some (.seq 258 true (cellsOf (s.parts.length * 258) g) fl false))
 (hg:g (i * 258)= .pv .ma) (hw:IntKind.i64.wrap (prod * (lk s.parts[i]).length)=prod * (lk s.parts[i]).length) (hnd:(lk s.parts[i]).Nodup) (hml:(lk s.parts[i]).length≤256) (hmb:∀ x∈lk s.parts[i],0≤x∧x≤255) (hne:lk s.parts[i]≠[]) (hfl:fl≤s.parts.length * 258) (hi2:i≤4611686018427387904):
 Ld (fun r=>r.1= .norm∧r.2.env.get 1= .pv (.rp [P,i64 s.first] 0)∧r.2.env.get 3= .ptr sb 0∧r.2.env.get 4= .pv (i64 (prod * (lk s.parts[i]).length))∧r.2.env.get 5= .pv (i64 (i - 1))∧r.2.H[sb]? =some (.box [.own oid s.parts.length])∧
  ∃ fl' g',fl'≤s.parts.length * 258∧r.2.H[oid]? =some (.seq 258 true (cellsOf (s.parts.length * 258) g') fl' false)∧oX (g' (i * 258)) r.2.H ((lk s.parts[i]).map xX)∧(∀ j,j≠i * 258→(∀ x∈lk s.parts[i],j≠i * 258+1+x.toNat)→g' j=Su g (i * 258+257) (.pv (i64 prod)) j)∧∀ (k:Nat) x,(lk s.parts[i])[k]? =some x→g' (i * 258+1+x.toNat)= .pv (.int .u16 ((k:Nat)+1))) (pa (Ea Gg 8) Hk ⟨e,H⟩):=by
 obtain⟨v,hv1,hv2,hv3⟩:=hp.get hi
 obtain⟨u,hu,hall⟩:=TE hv3 Ba
 have hso:sb≠oid:=by intro e;subst e;rw[hs] at ho;cases ho
 have hlt:=getElem?_lt hs
 have hlo:=getElem?_lt ho
 generalize hl:s.parts[i]=l at *
 clear hl hp
 generalize hn:s.parts.length=n at *
 have p3:place H 0 (.ptr sb 0)=some (.ptr sb 0):=by simp[place,hs]
 have l3:ya H false 1 (.ptr sb 0)=some (.own oid n):=by simp[ya,hs,Sg]
 have ia:wa H 258 (.own oid n) (i:Int)=some (.Ac oid (n * 258) (i * 258)):=by
  simp only[wa,ho,eg]
  rw[if_pos ⟨trivial,by unfold Ga;omega,by unfold Jh;omega⟩]
  simp
 have hH2:(H++[ba.box [.pv .Kg]]).set H.length (.box [.Ac oid (n * 258) (i * 258)])=H++[ba.box [.Ac oid (n * 258) (i * 258)]]:=by
  rw[List.set_append_right _ _ (Nat.le_refl _)];simp
 have st0:Ma (H++[ba.box [.pv .Kg]]) 1 (.ptr H.length 0) (.Ac oid (n * 258) (i * 258))=some (H++[ba.box [.Ac oid (n * 258) (i * 258)]]):=by
  rw[← hH2]
  simp[Ma,AV.cells,AV.one,na]
 have hb2:(H++[ba.box [.Ac oid (n * 258) (i * 258)]])[H.length]? =some (.box [.Ac oid (n * 258) (i * 258)]):=by simp
 have ho2:(H++[ba.box [.Ac oid (n * 258) (i * 258)]])[oid]? =some (.seq 258 true (cellsOf (n * 258) g) fl false):=by rw[getElem?_push hlo];exact ho
 have hs2:(H++[ba.box [.Ac oid (n * 258) (i * 258)]])[sb]? =some (.box [.own oid n]):=by rw[getElem?_push hlt];exact hs
 generalize H++[ba.box [.Ac oid (n * 258) (i * 258)]]=H2 at *
 have l6:ya H2 false 1 (.ptr H.length 0)=some (.Ac oid (n * 258) (i * 258)):=by simp[ya,hb2,Sg]
 have p6:∀ d,place H2 d (.Ac oid (n * 258) (i * 258))=some (.Ac oid (n * 258) (i * 258+d)):=fun d=>Ks ho2 rfl
 have st1:=eA (off:=i * 258+257) (v:= .pv (i64 prod)) ho2 rfl (by omega) rfl rfl
 have hbo:H.length≠oid:=by omega
 have hs3:(H2.set oid (.seq 258 true (cellsOf (n * 258) (Su g (i * 258+257) (.pv (i64 prod)))) (n * 258) false))[sb]? =some (.box [.own oid n]):=by rw[List.getElem?_set_ne (Ne.symm hso)];exact hs2
 have hb3:(H2.set oid (.seq 258 true (cellsOf (n * 258) (Su g (i * 258+257) (.pv (i64 prod)))) (n * 258) false))[H.length]? =some (.box [.Ac oid (n * 258) (i * 258)]):=by rw[List.getElem?_set_ne (Ne.symm hbo)];exact hb2
 have ho3:(H2.set oid (.seq 258 true (cellsOf (n * 258) (Su g (i * 258+257) (.pv (i64 prod)))) (n * 258) false))[oid]? =some (.seq 258 true (cellsOf (n * 258) (Su g (i * 258+257) (.pv (i64 prod)))) (n * 258) false):=List.getElem?_set_self (getElem?_lt ho2)
 generalize H2.set oid (.seq 258 true (cellsOf (n * 258) (Su g (i * 258+257) (.pv (i64 prod)))) (n * 258) false)=H3 at *
 have w5:decide ((i:Int)≥0)=true:=decide_eq_true (by omega)
 have r0:∀ H (x y:PV),ya H false 1 (.pv (.rp [x,y] 0))=some (.pv x):=fun H x y=>rfl
 have q0:∀ H (x y:PV),place H 0 (.pv (.rp [x,y] 0))=some (.pv (.rp [x,y] 0)):=fun H x y=>rfl
 have il:∀ H,wa H 1 (.pv P) (i:Int)=some (.pv (.rp v.cells 0)):=by
  intro H
  subst hv2
  have hq:i < ps.length:=getElem?_lt hv1
  simp only[wa]
  rw[if_pos ⟨trivial,by unfold Ga;omega⟩,Int.toNat_natCast,hv1];rfl
 have hvc:v.cells=[v]:=by rcases hv3.is with⟨h,_⟩ | h <;> rw[h] <;> rfl
 rw[hvc] at il
 have r1:∀ H (x:PV),ya H false 1 (.pv (.rp [x] 0))=some (.pv x):=fun H x=>rfl
 have hlp:=gu Ba.2
 have rv:xo 35 Jk 1 (.pk 35 [.pv (.rp [u] 0),.pv (.rp [i64 0] 0)])=some ((lk l).map fun x=>[i64 x]):=by
  have:((lk l).map fun x=>[i64 x]).all (bN 1)=true:=by
   rw[List.all_eq_true];intro y hy
   obtain⟨x,_,rfl⟩:=List.mem_map.1 hy
   rfl
  simp[xo,de,BD hu Ba.2 (by omega)]
  exact fun _ _=>rfl
 have c39:Gg 39=some Vl:=rfl
 have hall':=fun H=>(az Gg 7 39 [AV.pv v,AV.pv (i64 0)] H (f:=Vl) rfl).symm.trans (hall H)
 generalize hQ:(fun r:Ex×St=>r.1=Ex.norm∧_)=Q
 simp -implicitDefEqProofs only[SX,sevalprocAttr,Hk,yU,h1,h3,h4,h5,p3,l3,ia,st0,l6,p6,st1,w5,r0,q0,il,r1,c39,hall',rv,wA]
 have hin:=fun (E:Tr) (h6:E.get 6= .ptr H.length 0)=>of_inner (Ea Gg 8) (e:=E) h6 (off:=i * 258) (m:=n * 258) (by omega) (lk l) (es:=[]) hb3 ho3 hmb hnd (.inl ⟨rfl,by rw[vu _ _ (by omega)];exact hg⟩) (by simpa using hml)
 generalize hEE:(Tr.set _ 39 _:Tr)=E
 have e6:E.get 6= .ptr H.length 0:=by rw[← hEE];simp[Tr.aa]
 have e1:E.get 1= .pv (.rp [P,i64 s.first] 0):=by rw[← hEE];simp[Tr.aa,h1]
 have e3:E.get 3= .ptr sb 0:=by rw[← hEE];simp[Tr.aa,h3]
 have e4:E.get 4= .pv (i64 prod):=by rw[← hEE];simp[Tr.aa,h4]
 have e5:E.get 5= .pv (i64 i):=by rw[← hEE];simp[Tr.aa,h5]
 clear hEE
 obtain⟨H4,fl4,g4,q0,q1,q2,q3,q4,q5,q6,q7⟩:=hin E e6
 rw[q1]
 have l64:ya H4 false 1 (.ptr H.length 0)=some (.Ac oid (n * 258) (i * 258)):=by simp[ya,q2,Sg]
 have p66:∀ d,place H4 d (.Ac oid (n * 258) (i * 258))=some (.Ac oid (n * 258) (i * 258+d)):=fun d=>Ks q3 rfl
 have l67:=SC (off:=i * 258) q3 rfl (by omega)
 have ln:∀ K,Sb K 0 (g4 (i * 258))=some (lk l).length:=by
  rcases q4 with⟨h,_⟩ | ⟨tk,_,h,_⟩
  ·simp at h;exact absurd h hne
  ·intro K;rw[h];simp[Sb]
 have w1:IntKind.i64.wrap ((i:Int) - 1)=(i:Int) - 1:=Da (by omega)
 simp -implicitDefEqProofs only[SX,sevalprocAttr,NP,e6,e1,e3,e4,e5,l64,p66,l67,ln,hw,w1]
 subst hQ
 refine⟨rfl,?_,?_,?_,?_,?_,fl4,g4,q0 (Nat.le_refl _),q3,by simpa using q4,q5,fun k x hk=>by simpa using q6 k x hk⟩ <;> first | exact q7 _ _ hs3 | simp[Tr.aa,e1,e3]
end Go.AM.B1
namespace Go.AM.B1
open Go.AM Go.AM.So
theorem Wy:∀ (ls:List (List (Int×Int))) (b:List Int) (k k':Int),(∀ l∈ls,xd l)→Xi ls b k=some k'→k≤k'∧k' < k+Qa ls
 | [],b,k,k',_,h=>by rw[Jt] at h;injection h with h;subst h;rw[Qa];omega
 |l::ls,[],k,k',hp,h=>by
  rw[Xi] at h
  ·injection h with h;subst h
   have:=sg hp;omega
  ·intro _ _ _ _ h2 h3;cases h3
 |l::ls,y::b,k,k',hp,h=>by
  rw[Xi] at h
  split at h
  ·next hc=>
   have h0:=hp l (by simp)
   have hb:=Fq (x:=y) (n:=0) h0.2 hc
   obtain⟨h1,h2⟩:=Wy ls b _ _ (fun x hx=>hp x (by simp[hx])) h
   have h3:=sg (ls:=ls) fun x hx=>hp x (by simp[hx])
   have h4:0≤(Cf y 0 l).1 * Qa ls:=Int.mul_nonneg hb.1 (by omega)
   have h5:((Cf y 0 l).1+1) * Qa ls≤Bc 0 l * Qa ls:=Int.mul_le_mul_of_nonneg_right (by omega) (by omega)
   rw[Int.add_mul,Int.one_mul] at h5
   rw[Qa,Int.mul_comm (Qa ls)]
   omega
  ·cases h
theorem eJ {s:Rb} (h:Zd s) {b:List Int} {k:Int} (hk:Sl s b=some k):0≤k∧s.first+k≤1073741823:=by
 unfold Sl at hk
 split at hk
 ·obtain⟨h1,h2⟩:=Wy _ _ _ _ h.parts hk
  have h3:=h.last
  rw[h.qh] at h3
  omega
 ·cases hk
end Go.AM.B1
namespace Go.AM.B1
open Go.AM Go.AM.So
def AR:Int→List (Int×Int)→Option Int
 |_,[]=>none
 |k,p::r=>if k≤p.2 - p.1 then some (p.1+k) else AR (k - (p.2 - p.1+1)) r
theorem mw {top:Int}:∀ {l:List (Int×Int)} {last k:Int},Oa top last l=true→0≤k→k < Bc 0 l→∃ x,AR k l=some x∧0≤x∧x≤top∧last+1 < x∧∀ n,Cf x n l=(n+k,true)
 | [],last,k,_,h0,h1=>by simp[Bc] at h1;omega
 |p::l,last,k,hv,h0,h1=>by
  obtain⟨v1,v2,v3,v4,v5⟩:=Wd hv
  rw[Bc,Vz] at h1
  rw[AR]
  by_cases c:k≤p.2 - p.1
  ·rw[if_pos c]
   refine⟨_,rfl,by omega,by omega,by omega,fun n=> ?_⟩
   rw[Cf,if_neg (by omega),if_pos (by omega)]
   congr 1;omega
  ·rw[if_neg c]
   obtain⟨x,q1,q2,q3,q4,q5⟩:=mw (k:=k - (p.2 - p.1+1)) v5 (by omega) (by omega)
   refine⟨x,q1,q2,q3,by omega,fun n=> ?_⟩
   rw[Cf,if_neg (by omega),if_neg (by omega),q5]
   congr 1;omega
theorem CB {e:PV} {s:Rb} {P:PV} {ps:List PV} (h:sf e s P ps) (Ba:Zd s):Dn [e]=some (i64 (Qa s.parts)):=by
 obtain⟨b1,hb1,hb1'⟩:=Fl h
 have:=hb1'.2 Ba
 subst this
 have hst:=lF h Ba
 have hP1:=h.yx.1
 have heq:=h.eq
 subst heq
 have i0:∀ H,wa H 1 (.pv (.lit 1 ((Sj s.parts).map i64))) 0=some (.pv (.rp [i64 (Qa s.parts)] 0)):=fun H=>by
  have:(Sj s.parts).map i64=i64 (Qa s.parts)::((Sj s.parts).map i64).tail:=by
   simp only[Sj,List.range_succ_eq_map,List.map_cons,List.drop_zero,List.tail_cons]
  rw[this]
  simp only[wa]
  rw[if_pos (by unfold Ga;simp)];rfl
 simp -implicitDefEqProofs only[Dn,SX,sevalprocAttr,-List.reduceReplicate,Dr,hP1,Df,hb1,hst,i0,Va]
def bh:List (List (Int×Int))→Int→List Int
 | [],_=>[]
 |l::r,k=>(AR (k.tdiv (Qa r)) l).getD 0::bh r (k.tmod (Qa r))
theorem LS {k p q:Int} (h0:0≤k) (hp:1≤p) (h1:k < p * q):0≤k.tdiv p∧k.tdiv p < q∧0≤k.tmod p∧k.tmod p < p∧k.tdiv p * p+k.tmod p=k:=by
 rw[Int.tdiv_eq_ediv_of_nonneg h0,Int.tmod_eq_emod_of_nonneg h0]
 refine⟨Int.ediv_nonneg h0 (by omega),Int.ediv_lt_of_lt_mul (by omega) (by rw[Int.mul_comm];exact h1),Int.emod_nonneg _ (by omega),Int.emod_lt_of_pos _ (by omega),?_⟩
 rw[Int.mul_comm];exact Int.mul_ediv_add_emod k p
theorem jv:∀ (ls:List (List (Int×Int))) (k n:Int),(∀ l∈ls,xd l)→0≤k→k < Qa ls→Xi ls (bh ls k) n=some (n+k)∧(bh ls k).length=ls.length∧∀ x∈bh ls k,0≤x∧x≤255
 | [],k,n,_,h0,h1=>by
   have:k=0:=by rw[Qa] at h1;omega
   subst this
   exact⟨by rw[Jt,Int.add_zero],rfl,by simp[bh]⟩
 |l::r,k,n,hp,h0,h1=>by
  have hpr:=sg (ls:=r) fun x hx=>hp x (by simp[hx])
  rw[Qa] at h1
  obtain⟨d1,d2,d3,d4,d5⟩:=LS h0 hpr h1
  obtain⟨x,q1,q2,q3,_,q5⟩:=mw (hp l (by simp)).2 d1 d2
  obtain⟨i1,i2,i3⟩:=jv r (k.tmod (Qa r)) (n+k.tdiv (Qa r) * Qa r) (fun x hx=>hp x (by simp[hx])) d3 d4
  rw[bh,q1,Option.getD_some,Xi,q5,if_pos rfl]
  simp only[Int.zero_add]
  rw[i1]
  refine⟨by congr 1;omega,by simp[i2],?_⟩
  intro y hy
  rcases List.mem_cons.1 hy with rfl | hy
  ·exact⟨q2,q3⟩
  ·exact i3 y hy
end Go.AM.B1
namespace Go.AM.B1
open Go.AM Go.AM.So
def Au (l:List (Int×Int)) (x:Nat):PV:= .int .u16 (if (Cf (x:Int) 0 l).2 then (Cf (x:Int) 0 l).1+1 else 0)
def Bo (l:List (Int×Int)):PV:= .lit 1 ((lk l).map xX)
def YG (ls:List (List (Int×Int))) (c:Nat):PV:=
 if c % 258=0 then Bo (ls.getD (c / 258) []) else if c % 258=257 then i64 (Qa (ls.drop (c / 258+1))) else Au (ls.getD (c / 258) []) (c % 258 - 1)
def WH (ls:List (List (Int×Int))) (i:Nat):PV:= .agg ((List.range 258).map fun k=>YG ls (i * 258+k))
def Ii (ls:List (List (Int×Int))):PV:= .rp [.lit 258 ((List.range ls.length).map (WH ls))] 0
def LG (ls:List (List (Int×Int))) (g:Nat→AV) (i:Nat):Prop:=
 (∃ tk,g (i * 258)= .uq tk false 1 ((lk (ls.getD i [])).map xX))∧(∀ y:Nat,y < 256→g (i * 258+1+y)= .pv (Au (ls.getD i []) y))∧g (i * 258+257)= .pv (i64 (Qa (ls.drop (i+1))))
def nH (g:Nat→AV) (i:Nat):Prop:=g (i * 258)= .pv .ma∧∀ y:Nat,y < 256→g (i * 258+1+y)= .pv (.int .u16 0)
theorem TN {l:List (Int×Int)} (h:xd l):lk l≠[]:=by
 intro e
 have h1:=Iy 0 h.2
 rw[e] at h1
 have:=(sh h).1
 simp at h1;omega
theorem gS {l:List (Int×Int)} (h:xd l):(lk l).length≤256:=by
 have h1:=Iy 0 h.2
 have:=(sh h).2
 omega
theorem lz {l:List (Int×Int)} (h:xd l):∀ x∈lk l,0≤x∧x≤255:=by
 intro x hx
 obtain⟨k,hk,rfl⟩:=List.getElem_of_mem hx
 have:=Ir (n:=0) h.2 (List.getElem?_eq_getElem hk)
 exact⟨this.2.1,this.2.2.1⟩
theorem KL {l:List (Int×Int)} (h:xd l):(lk l).Nodup:=by
 unfold List.Nodup
 rw[List.pairwise_iff_getElem]
 intro i j hi hj hij e
 have h1:=(Ir (n:=0) h.2 (List.getElem?_eq_getElem hi)).1
 have h2:=(Ir (n:=0) h.2 (List.getElem?_eq_getElem hj)).1
 rw[e,h2] at h1
 injection h1 with h1 _
 omega
theorem xL {l:List (Int×Int)} (h:xd l) {k:Nat} {x:Int} (hk:(lk l)[k]? =some x):Au l x.toNat= .int .u16 ((k:Nat)+1):=by
 obtain⟨h1,h2,_⟩:=Ir (n:=0) h.2 hk
 unfold Au
 rw[Int.toNat_of_nonneg h2,h1]
 simp
theorem pL {l:List (Int×Int)} (h:xd l) {y:Nat} (hy:(y:Int) ∉ lk l):Au l y= .int .u16 0:=by
 unfold Au
 rw[if_neg]
 intro hr
 obtain⟨k,h1,_⟩:=Zt h.2 hr
 exact hy (List.mem_of_getElem? h1)
theorem vV (z:List PV) (n:Nat):(qk z n).length=n * z.length:=by
 induction n with
 |zero=>simp[qk]
 |succ n ih=>rw[qk,List.length_append,List.length_map,ih,Nat.add_mul];omega
theorem tN {z:List PV}:∀ {n i k:Nat} {v:PV},i < n→z[k]? =some v→(qk z n)[i * z.length+k]? =some (.pv v)
 |n+1,0,k,v,_,hk=>by
  have:k < z.length:=getElem?_lt hk
  rw[qk,Nat.zero_mul,Nat.zero_add,List.getElem?_append_left (by simpa using this),List.getElem?_map,hk];rfl
 |n+1,i+1,k,v,hi,hk=>by
  rw[qk,List.getElem?_append_right (by rw[List.length_map,Nat.add_mul];omega),List.length_map,Nat.add_mul,show i * z.length+1 * z.length+k - z.length=i * z.length+k by omega]
  exact tN (by omega) hk
theorem kH (c:List AV):c=cellsOf c.length (fun j=>c.getD j .undef):=by
 apply List.ext_getElem?
 intro j
 by_cases hj:j < c.length
 ·rw[yq _ hj,List.getD_eq_getElem?_getD,List.getElem?_eq_getElem hj];rfl
 ·rw[List.getElem?_eq_none (by omega),List.getElem?_eq_none (by rw[eg];omega)]
theorem FL {H:List ba} {d:Nat} {f:Nat→PV}:∀ {n:Nat} {g:Nat→AV},(∀ c,c < n→Xb H d (g c)=some (f c))→Sa (Xb H d) (cellsOf n g)=some ((List.range n).map f):=by
 have key:∀ (l:List Nat) (g:Nat→AV),(∀ c∈l,Xb H d (g c)=some (f c))→Sa (Xb H d) (l.map g)=some (l.map f):=by
  intro l g
  induction l with
  |nil=>intro _;rfl
  |cons a l ih=>intro h;rw[List.map_cons,Sa,h a (by simp),Option.bind_some,ih fun c hc=>h c (by simp[hc])];rfl
 intro n g h
 exact key (List.range n) g fun c hc=>h c (List.mem_range.1 hc)
theorem uL {f:Nat→PV} (a n:Nat):(List.range' a n).map f=(List.range n).map fun k=>f (a+k):=by
 rw[List.range'_eq_map_range,List.map_map];rfl
theorem XA {f:Nat→PV} (sz:Nat):∀ (n a:Nat),chunk sz true n ((List.range' a (n * sz)).map f)=(List.range n).map fun i=> .agg ((List.range sz).map fun k=>f (a+(i * sz+k)))
 |0,a=>by simp[chunk]
 |n+1,a=>by
  have e:List.range' a ((n+1) * sz)=List.range' a sz++List.range' (a+sz) (n * sz):=by
   rw[Nat.add_mul,Nat.one_mul,Nat.add_comm,List.range'_append_1]
  have hl:((List.range' a sz).map f).length=sz:=by simp
  rw[e,List.map_append,chunk,if_pos rfl,List.take_left' hl,List.drop_left' hl,XA sz n,List.range_succ_eq_map,List.map_cons,List.map_map,uL]
  congr 1
  ·congr 1;apply List.map_congr_left;intro k _;congr 1;omega
  ·apply List.map_congr_left;intro i _
   simp only[Function.comp]
   congr 1;apply List.map_congr_left;intro k _;congr 1
   rw[Nat.succ_mul];omega
end Go.AM.B1
namespace Go.AM.B1
open Go.AM Go.AM.So
theorem Hm {e:Tr} {t:Nat}:∀ {l:List Nat},t∈l→(xc e l).get t=e.get t
 |a::l,h=>by
  rw[xc,Tr.aa]
  by_cases ht:t=a
  ·rw[if_pos ht,ht]
  ·rw[if_neg ht]
   rcases List.mem_cons.1 h with h | h
   ·exact absurd h ht
   ·exact Hm h
theorem pU {E0:Tr} {H0:List ba} {s:Rb} {P:PV} {ps:List PV} {sb oid:Nat} {g0:Nat→AV} (hp:Ze P s.parts ps) (Ba:Zd s)
 (h1:E0.get 1= .pv (.rp [P,i64 s.first] 0)) (h3:E0.get 3= .ptr sb 0) (h4:E0.get 4= .pv (i64 1)) (h5:E0.get 5= .pv (i64 ((s.parts.length:Int) - 1))) (hs:H0[sb]? =some (.box [.own oid s.parts.length]))
 (ho:H0[oid]? =some (.seq 258 true (cellsOf (s.parts.length * 258) g0) 0 false)) (hz:∀ j,j < s.parts.length→nH g0 j):
 Ld (fun r=>∃ E H,r=(.exit 0,⟨E,H⟩)∧E.get 3= .ptr sb 0∧H[sb]? =some (.box [.own oid s.parts.length])∧∃ fl g,H[oid]? =some (.seq 258 true (cellsOf (s.parts.length * 258) g) fl false)∧∀ j,j < s.parts.length→LG s.parts g j)
  (pa (Ea Gg 8) (.Lo [1,2,3,4,5] Hk) ⟨E0,H0⟩):=by
 rw[bp]
 have h8:=Ba.hi
 have hpr:=Ba.prod.2
 refine za (Eb (fun r t=>t.env.get 1= .pv (.rp [P,i64 s.first] 0)∧t.env.get 3= .ptr sb 0∧t.env.get 4= .pv (i64 (Qa (s.parts.drop (s.parts.length - r))))∧t.env.get 5= .pv (i64 ((s.parts.length:Int) - 1 - r))∧t.H[sb]? =some (.box [.own oid s.parts.length])∧
  ∃ fl g,fl≤s.parts.length * 258∧t.H[oid]? =some (.seq 258 true (cellsOf (s.parts.length * 258) g) fl false)∧(∀ j,s.parts.length - r≤j→j < s.parts.length→LG s.parts g j)∧∀ j,j < s.parts.length - r→nH g j)
  s.parts.length (by unfold qa;omega) _ ?_ ?_ ?_) (fun r h=>h.2)
 ·refine⟨?_,?_,?_,?_,hs,0,g0,by omega,ho,fun j a b=>by omega,fun j hj=>hz j (by omega)⟩
  ·simp only[tidy];rw[Hm (by simp),h1]
  ·simp only[tidy];rw[Hm (by simp),h3]
  ·simp only[tidy];rw[Hm (by simp),h4,Nat.sub_zero,List.drop_length];rfl
  ·simp only[tidy];rw[Hm (by simp),h5];simp
 ·rintro r ⟨E,H⟩ hr ⟨g1,g3,g4,g5,gs,fl,g,hfl,go,hd,hz⟩
  obtain⟨i,hi⟩:∃ i,i=s.parts.length - 1 - r:=⟨_,rfl⟩
  have hil:i < s.parts.length:=by omega
  have hpo:=Ba.parts s.parts[i] (List.getElem_mem hil)
  have hdr:s.parts.drop i=s.parts[i]::s.parts.drop (i+1):=List.drop_eq_getElem_cons hil
  have hpd:Qa (s.parts.drop i)=Qa (s.parts.drop (i+1)) * Bc 0 s.parts[i]:=by rw[hdr,Qa]
  have hle:=Ym Ba.parts i
  have hpos:=sg (ls:=s.parts.drop i) fun x hx=>Ba.parts x (List.mem_of_mem_drop hx)
  have hsz:=Iy 0 hpo.2
  rw[Int.zero_add] at hsz
  rw[show s.parts.length - r=i+1 by omega] at g4 hd hz
  have hcol:=HP (e:=E) (H:=H) hp hil hpo g1 g3 g4 (by rw[g5];congr 2;omega) gs go (hz i (by omega)).1 (by rw[← hsz,←hpd];exact Da (by omega)) (KL hpo) (gS hpo) (lz hpo) (TN hpo) hfl (by omega)
  rw[fa,sy]
  refine za hcol ?_
  rintro⟨ex,E',H'⟩ ⟨rfl,q1,q3,q4,q5,qs,fl',g',qfl,qo,qB,qg,qw⟩
  have hgd:s.parts.getD i []=s.parts[i]:=by rw[List.getD_eq_getElem?_getD,List.getElem?_eq_getElem hil];rfl
  have hother:∀ j k,j≠i→k < 258→g' (j * 258+k)=g (j * 258+k):=by
   intro j k hj hk
   rw[qg _ (by omega) (fun x hx=>by have:=lz hpo x hx;omega),vu _ _ (by omega)]
  refine⟨?_,?_,?_,?_,qs,fl',g',qfl,qo,?_,?_⟩
  ·simp only[tidy];rw[Hm (by simp)];exact q1
  ·simp only[tidy];rw[Hm (by simp)];exact q3
  ·simp only[tidy];rw[Hm (by simp),q4,show s.parts.length - (r+1)=i by omega,hpd,hsz]
  ·simp only[tidy];rw[Hm (by simp),q5];congr 2;omega
  ·intro j hj1 hj2
   by_cases hji:j=i
   ·subst hji
    refine⟨?_,fun y hy=> ?_,?_⟩
    ·rcases qB with⟨h,_⟩ | ⟨tk,_,h,_⟩
     ·simp at h;exact absurd h (TN hpo)
     ·exact⟨tk,by rw[hgd];exact h⟩
    ·rw[hgd]
     by_cases hm:(y:Int)∈lk s.parts[j]
     ·obtain⟨k,hk⟩:=List.mem_iff_getElem?.1 hm
      have:=qw k y hk
      rw[Int.toNat_natCast] at this
      rw[this,←xL hpo hk,Int.toNat_natCast]
     ·rw[pL hpo hm,qg _ (by omega) (fun x hx=>by
       intro e
       have:=lz hpo x hx
       have:x=(y:Int):=by omega
       exact hm (this ▸ hx)),vu _ _ (by omega)]
      exact (hz j (by omega)).2 y hy
    ·rw[qg _ (by omega) (fun x hx=>by have:=lz hpo x hx;omega),Bs]
   ·obtain⟨⟨tk,a1⟩,a2,a3⟩:=hd j (by omega) hj2
    refine⟨⟨tk,?_⟩,fun y hy=> ?_,?_⟩
    ·have:=hother j 0 hji (by omega);rw[Nat.add_zero] at this;rw[this];exact a1
    ·have:=hother j (1+y) hji (by omega);rw[← Nat.add_assoc] at this;rw[this];exact a2 y hy
    ·rw[hother j 257 hji (by omega)];exact a3
  ·intro j hj
   have hji:j≠i:=by omega
   obtain⟨a1,a2⟩:=hz j (by omega)
   refine⟨?_,fun y hy=> ?_⟩
   ·have:=hother j 0 hji (by omega);rw[Nat.add_zero] at this;rw[this];exact a1
   ·have:=hother j (1+y) hji (by omega);rw[← Nat.add_assoc] at this;rw[this];exact a2 y hy
 ·rintro⟨E,H⟩ ⟨g1,g3,g4,g5,gs,fl,g,hfl,go,hd,hz⟩
  have e1:decide ((s.parts.length:Int) - 1 - s.parts.length≥0)=false:=Ka (by omega)
  generalize hQ:(fun r:Ex×St=>r.1.stop=true∧_)=Q
  simp -implicitDefEqProofs only[SX,sevalprocAttr,-List.reduceReplicate,Hk,g5,e1]
  subst hQ
  exact⟨rfl,_,_,rfl,by simp[Tr.aa,g3],gs,fl,g,go,fun j hj=>hd j (by omega) hj⟩
theorem YE {e:PV} {s:Rb} {P:PV} {ps:List PV} (h:sf e s P ps) (Ba:Zd s):Uq [e]=some (Ii s.parts):=by
 obtain⟨hP1,hP2⟩:=h.yx
 have heq:=h.eq
 subst heq
 have hP:=h.parts
 have lP:=hP.Sb
 have h8:=Ba.hi
 generalize hzr:([PV.ma]++List.replicate 256 (PV.int .u16 0)++[PV.int .i64 0])=zr
 have VR:zr.length=258:=by rw[← hzr];simp[-List.reduceReplicate]
 have hzg:∀ i k v,i < s.parts.length→zr[k]? =some v→(qk zr s.parts.length).getD (i * 258+k) .undef= .pv v:=by
  intro i k v hi hk
  rw[List.getD_eq_getElem?_getD,←VR,tN hi hk];rfl
 have hcz:∀ j,j < s.parts.length→nH (fun c=>(qk zr s.parts.length).getD c .undef) j:=by
  intro j hj
  refine⟨by have:=hzg j 0 .ma hj (by rw[← hzr];rfl);rw[Nat.add_zero] at this;exact this,fun y hy=> ?_⟩
  show (qk zr s.parts.length).getD (j * 258+1+y) .undef=_
  rw[Nat.add_assoc]
  refine hzg j (1+y) _ hj ?_
  rw[← hzr,List.getElem?_append_left (by simp[-List.reduceReplicate];omega),List.getElem?_append_right (by simp[-List.reduceReplicate]),List.getElem?_replicate]
  rw[if_pos (by simp[-List.reduceReplicate];omega)]
 have hcell:qk zr s.parts.length=cellsOf (s.parts.length * 258) (fun c=>(qk zr s.parts.length).getD c .undef):=by
  have:=kH (qk zr s.parts.length)
  rw[vV,VR] at this
  exact this
 generalize (fun c=>(qk zr s.parts.length).getD c AV.undef)=g0 at *
 have r0:∀ H (x y:PV),ya H false 1 (.pv (.rp [x,y] 0))=some (.pv x):=fun H x y=>rfl
 have q0:∀ H (x y:PV),place H 0 (.pv (.rp [x,y] 0))=some (.pv (.rp [x,y] 0)):=fun H x y=>rfl
 have e2:(0≤(s.parts.length:Int))=True:=by simp
 have e3:((s.parts.length:Int)≤(s.parts.length:Int))=True:=by simp
 have e4:mb s.parts.length 544:=by unfold mb;omega
 have t1:IntKind.i64.wrap ((s.parts.length:Int) - 1)=(s.parts.length:Int) - 1:=Da (by omega)
 have m1:Oo ([PV.ma].map .pv) [(0,1,AV.own 0 s.parts.length)]=some [AV.own 0 s.parts.length]:=rfl
 have m2:Kq [AV.own 0 s.parts.length]= .agg [AV.own 0 s.parts.length]:=rfl
 have m3:(([AV.own 0 s.parts.length]:List AV).length=1∧([AV.own 0 s.parts.length]:List AV).all AV.one=true)=True:=by simp[AV.one]
 have hlp:=fun (E:Tr) (a1:E.get 1= .pv (.rp [P,i64 s.first] 0)) (a3:E.get 3= .ptr 1 0) (a4:E.get 4= .pv (i64 1)) (a5:E.get 5= .pv (i64 ((s.parts.length:Int) - 1)))=>
  pU (E0:=E) (H0:=[.seq 258 true (cellsOf (s.parts.length * 258) g0) 0 false,.box [.own 0 s.parts.length]]) hP Ba a1 a3 a4 a5 (sb:=1) (oid:=0) rfl rfl hcz
 have p1:∀ A B,place [A,.box B] 0 (.ptr 1 0)=some (.ptr 1 0):=fun A B=>rfl
 have l1:∀ A b,ya [A,.box [b]] false 1 (.ptr 1 0)=some b:=fun A b=>rfl
 have hw:Jh 258 s.parts.length 0 (cellsOf (s.parts.length * 258) g0).length:=⟨Nat.zero_le _,by rw[eg];exact Nat.le_refl _⟩
 have ln:Sb [.seq 258 true (cellsOf (s.parts.length * 258) g0) 0 false,.box [.own 0 s.parts.length]] 0 (.own 0 s.parts.length)=some s.parts.length:=by
  simp only[Sb,List.getElem?_cons_zero,if_pos hw]
 have hfin:∀ (H:List ba) (fl:Nat) (g:Nat→AV),H[1]? =some (.box [.own 0 s.parts.length])→H[0]? =some (.seq 258 true (cellsOf (s.parts.length * 258) g) fl false)→(∀ j,j < s.parts.length→LG s.parts g j)→Xb H 6 (.ptr 1 0)=some (Ii s.parts):=by
  intro H fl g h1 h0 hd
  have hm:Sa (Xb H 4) (cellsOf (s.parts.length * 258) g)=some ((List.range (s.parts.length * 258)).map (YG s.parts)):=by
   refine FL fun c hc=> ?_
   obtain⟨⟨tk,a1⟩,a2,a3⟩:=hd (c / 258) (by omega)
   unfold YG
   by_cases k0:c % 258=0
   ·rw[if_pos k0,show c=c / 258 * 258 by omega,a1,show c / 258 * 258 / 258=c / 258 by omega];rfl
   ·rw[if_neg k0]
    by_cases k1:c % 258=257
    ·rw[if_pos k1]
     have e:g c=g (c / 258 * 258+257):=by congr 1;omega
     rw[e,a3];rfl
    ·rw[if_neg k1]
     have e:g c=g (c / 258 * 258+1+(c % 258 - 1)):=by congr 1;omega
     rw[e,a2 _ (by omega)];rfl
  have hc2:s.parts.length * 258=(cellsOf (s.parts.length * 258) g).length∧(true||(258:Nat)==1)=true:=⟨(eg _ _).symm,rfl⟩
  have h5:Xb H 5 (.own 0 s.parts.length)=some (.lit 258 ((List.range s.parts.length).map (WH s.parts))):=by
   simp only[Xb,h0,if_pos hc2,Bool.false_eq_true,if_false,hm,Option.map_some,List.range_eq_range' (n:=s.parts.length * 258),XA,Nat.zero_add]
   rfl
  show (match H[1]? with | some (.box cells)=>(Sa (Xb H 5) cells).map fun ps=>PV.rp ps 0 | _=>none)=_
  rw[h1]
  simp only[Sa,h5,Option.bind_some,Option.map_some]
  rfl
 have hzr':PV.ma::(List.replicate 256 (PV.int .u16 0)++[PV.int .i64 0])=zr:=hzr
 have m4:na [AV.pv PV.ma] 0 [AV.own 0 s.parts.length]=[AV.own 0 s.parts.length]:=rfl
 have m5:de [AV.own 0 s.parts.length]=none:=rfl
 have m6:[AV.own 0 s.parts.length].all AV.one=true:=rfl
 simp -implicitDefEqProofs only[Uq,SX,sevalprocAttr,-List.reduceReplicate,Dq,hP1,r0,q0,lP,e2,e3,eq_true e4,hzr',hcell,m4,m5,m6,p1,l1,ln,t1]
 generalize hEE:(Tr.set _ 5 _:Tr)=E
 have a1:E.get 1= .pv (.rp [P,i64 s.first] 0):=by rw[← hEE];simp[Tr.aa]
 have a3:E.get 3= .ptr 1 0:=by rw[← hEE];simp[Tr.aa]
 have a4:E.get 4= .pv (i64 1):=by rw[← hEE];simp[Tr.aa]
 have a5:E.get 5= .pv (i64 ((s.parts.length:Int) - 1)):=by rw[← hEE];simp[Tr.aa]
 obtain⟨r,h1,E',H',rfl,q3,q1,fl,g,q4,q5⟩:=Gc (hlp E a1 a3 a4 a5)
 rw[h1]
 have h9:=hfin H' fl g q1 q4 q5
 simp -implicitDefEqProofs only[SX,sevalprocAttr,-List.reduceReplicate,q3,h9]
end Go.AM.B1
namespace Go.AM.B1
open Go.AM Go.AM.So
section
variable {call:Ua} {o0 o1 o4 o5:ba} {c0 c1 c3 c4 c5:AV}
 (hg:∀ nl es,xg (Xu o0 o1 o4 o5 c0 c1 c3 c4 c5 nl es))
include hg
theorem nU {E:Tr} {V:PV} {l:List (List xe)} (hV:ri 1 V (l.map Od)) (hl:l.length≤64) (hle:∀ e∈l,e.length≤256) (Ba:∀ e∈l,ij e)
 (h8:E.get 8= .ptr 2 0) (h101:E.get 101= .pv V) (h102:E.get 102= .pv (i64 l.length)) (h103:E.get 103= .pv (i64 0)):
 Ld (fun r=>r.1.stop=true∧∃ E' nl,r=(.exit 2,⟨E',Xu o0 o1 o4 o5 c0 c1 c3 c4 c5 nl (l.map Tm)⟩)∧E'.get 8= .ptr 2 0∧(nl=true→l=[]))
  (pa call (.loop [8,101,102,103] Mh) ⟨E,Xu o0 o1 o4 o5 c0 c1 c3 c4 c5 true []⟩):=by
 have hgl:∀ nl es,(Xu o0 o1 o4 o5 c0 c1 c3 c4 c5 nl es).length=6:=fun _ _=>rfl
 have hgd:∀ nl es,∀ o∈Xu o0 o1 o4 o5 c0 c1 c3 c4 c5 nl es,oa 6 o=some o:=fun nl es o ho=>hg nl es 6 (by rw[hgl];exact Nat.le_refl _) o ho
 have hcut:Fit 6 [8,101,102] E:= .cons h8 (vt (by omega)) (.cons h101 Ja (.cons h102 Ja (.nil _ _)))
 refine pn (fun i t=>Nd [8,101,102] E t.env∧t.env.get 103= .pv (i64 i)∧∃ nl,t.H=Xu o0 o1 o4 o5 c0 c1 c3 c4 c5 nl ((l.take i).map Tm)∧(nl=true→i=0)) l.length (by unfold qa;omega) ?_ ?_ ?_
 ·rw[hgl]
  exact Ig.all rfl (hgd _ _) (Fit.sub (.cons h103 Ja hcut) rfl) fun E' hE=>⟨Nd.sub hE rfl,by rw[hE 103 (by simp),h103];rfl,true,rfl,fun _=>rfl⟩
 ·rintro i ⟨E1,H1⟩ hi ⟨k1,k2,nl,k3,k4⟩
  simp only at k1 k2 k3
  subst k3
  refine za (bR (call:=call) hg hV hl hle Ba hi (by simp;omega) ((k1 8 (by simp)).trans h8) ((k1 101 (by simp)).trans h101) ((k1 102 (by simp)).trans h102) k2) ?_
  rintro r ⟨E2,rfl,k5,k6⟩
  rw[Cl,hgl]
  have hnx:(l.take (i+1)).map Tm=(l.take i).map Tm++[Tm l[i]]:=by rw[List.take_succ_eq_append_getElem hi,List.map_append];rfl
  exact Ig.front (hgl _ _).symm (hgd _ _) (Fit.sub (.cons k6 Ja (hcut.ze (k1.trans k5))) rfl) fun E' hE=>⟨(k1.trans k5).trans (Nd.sub hE rfl),by rw[hE 103 (by simp),k6],false,by rw[hnx],fun h=>by cases h⟩
 ·rintro⟨E1,H1⟩ ⟨k1,k2,nl,k3,k4⟩
  simp only at k1 k2 k3
  subst k3
  have g102:=(k1 102 (by simp)).trans h102
  have e1:decide ((l.length:Int) < (l.length:Int))=false:=Ka (by omega)
  rw[List.take_length]
  generalize hQ:(fun r:Ex×St=>r.1.stop=true∧_)=Q
  simp -implicitDefEqProofs only[SX,sevalprocAttr,-List.reduceReplicate,Mh,k2,g102,e1]
  subst hQ
  exact⟨rfl,_,nl,rfl,by rw[Tr.aa,if_neg (by decide)];exact (k1 8 (by simp)).trans h8,fun h=>List.eq_nil_of_length_eq_zero (k4 h)⟩
end
def Qu (s:Rb) (i:Nat):List Int:=[s.first,s.first+Qa s.parts - 1,(i:Int)]
def ni (ss:List Rb) (n:Nat):List (List Int):=(List.range n).map fun j=>Qu (ss.getD j ⟨[],0⟩) j
theorem aL (ss:List Rb) {n:Nat} (h:n < ss.length):ni ss (n+1)=ni ss n++[Qu ss[n] n]:=by
 unfold ni
 rw[List.range_succ,List.map_append,List.map_cons,List.map_nil,List.getD_eq_getElem?_getD,List.getElem?_eq_getElem h];rfl
theorem ep (ss:List Rb) (n:Nat):(ni ss n).length=n:=by simp[ni]
theorem gw {ss:List Rb} {n:Nat} {r:List Int} (h:r∈ni ss n):r.length=3:=by
 unfold ni at h
 obtain⟨j,_,rfl⟩:=List.mem_map.1 h
 rfl
theorem ew:∀ {D:List (List Int)},(∀ r∈D,r.length=3)→D.flatten.length=D.length * 3
 | [],_=>rfl
 |r::D,h=>by rw[List.flatten_cons,List.length_append,h r (by simp),ew fun x hx=>h x (by simp[hx]),List.length_cons];omega
def zi (ss:List Rb):Nat:=ss.foldl (fun m s=>if s.parts.length > m then s.parts.length else m) 0
def Kw (o0 o1 o3:ba) (c0 c1 c2:AV) (nl:Bool) (ds:List PV) (D:List (List Int)) (fl:Nat) (nr:Bool) (m:Int):List ba:=
 [o0,o1,.box [c0,c1,c2,.uq 4 nl 1 ds,.own 5 D.length,.pv (i64 m)],o3,.tok 1 ds.length nl,.seq 3 true (xf D.flatten) fl nr]
section
variable {call:Ua} {o0 o1 o3:ba} {c0 c1 c2:AV}
theorem DT {E:Tr} {S:PV} {ss:List Rb} {es:List PV} {i:Nat} {nl nr:Bool} {fl:Nat} {ds:List PV} {D:List (List Int)} {m:Nat} (hS:wb S ss es) (Ba:qc ss) (hi:i < ss.length) (hds:ds.length=i) (hD:D.length=i) (hDr:∀ r∈D,r.length=3) (hm:m≤8)
 (h4:E.get 4= .ptr 0 0) (h8:E.get 8= .ptr 2 0) (h46:E.get 46= .pv S) (h47:E.get 47= .pv (i64 ss.length)) (h48:E.get 48= .pv (i64 i)):
 Ld (fun r=>∃ E' T,r=(.norm,⟨E',Kw o0 o1 o3 c0 c1 c2 false (ds++[Ii ss[i].parts]) (D++[Qu ss[i] i]) fl false (if ss[i].parts.length > m then ss[i].parts.length else m:Nat)++T⟩)∧Nd [4,8,46,47] E E'∧E'.get 48= .pv (i64 (i+1:Nat)))
  (pa call Lh ⟨E,Kw o0 o1 o3 c0 c1 c2 nl ds D fl nr m⟩):=by
 obtain⟨P,ps,hsh,a1⟩:=hS.Ad hi
 have hs:=Ba.Av _ (List.getElem_mem hi)
 have h32:=Ba.len
 have hcn:=CB hsh hs
 have hdg:=YE hsh hs
 have hpo:=sg hs.parts
 have hpr:=hs.prod.2
 have hlt:=hs.qh
 have hl1:=hs.last
 have hf0:=hs.f0
 have hf1:=hs.f1
 have h88:=hs.hi
 have lP:=hsh.parts.Sb
 have hP1:=hsh.yx.1
 have hDl:=ew hDr
 generalize ss[i]=s at *
 have e1:decide ((i:Int) < (ss.length:Int))=true:=Fa (by omega)
 have t1:IntKind.i64.wrap ((i:Int)+1)=((i+1:Nat):Int):=Wk (by omega)
 have t2:IntKind.i64.wrap (s.first+Qa s.parts)=s.first+Qa s.parts:=Da (by omega)
 have t3:IntKind.i64.wrap (s.first+Qa s.parts - 1)=s.first+Qa s.parts - 1:=Da (by omega)
 have r2:∀ H (x y:PV),ya H true 2 (.pv (.rp [x,y] 0))=some (.pv (.agg [x,y])):=fun H x y=>rfl
 obtain⟨b10,hb10⟩:∃ b,b=ba.box [.pv P,.pv (i64 s.first)]:=⟨_,rfl⟩
 have hH0:(Kw o0 o1 o3 c0 c1 c2 nl ds D fl nr m).length=6:=rfl
 have s1:Ma (Kw o0 o1 o3 c0 c1 c2 nl ds D fl nr m++[.box [.pv .ma,.pv (i64 0)]]) 2 (.ptr 6 0) (.pv (.agg [P,i64 s.first]))=some (Kw o0 o1 o3 c0 c1 c2 nl ds D fl nr m++[b10]):=by
  rw[hb10]
  exact Wm (.pv .ma) (.pv (i64 0)) (.pv P) (.pv (i64 s.first)) hP1 rfl (Kw o0 o1 o3 c0 c1 c2 nl ds D fl nr m) _ rfl
 have p1:∀ d,place (Kw o0 o1 o3 c0 c1 c2 nl ds D fl nr m++[b10]) d (.ptr 2 0)=some (.ptr 2 (0+d)):=fun d=>cg rfl d 0
 have q1:∀ d,place (Kw o0 o1 o3 c0 c1 c2 nl ds D fl nr m++[b10]) d (.ptr 6 0)=some (.ptr 6 (0+d)):=fun d=>cg (by rw[hb10];rfl) d 0
 have l1:ya (Kw o0 o1 o3 c0 c1 c2 nl ds D fl nr m++[b10]) false 1 (.ptr 2 4)=some (.own 5 D.length):=rfl
 have l2:ya (Kw o0 o1 o3 c0 c1 c2 nl ds D fl nr m++[b10]) false 1 (.ptr 6 1)=some (.pv (i64 s.first)):=by rw[hb10];rfl
 have l3:ya (Kw o0 o1 o3 c0 c1 c2 nl ds D fl nr m++[b10]) true 2 (.ptr 6 0)=some (.pv (.agg [P,i64 s.first])):=by rw[hb10];rfl
 obtain⟨H2,hH2⟩:∃ H,H=[o0,o1,.box [c0,c1,c2,.uq 4 nl 1 ds,.own 5 D.length,.pv (i64 m)],o3,.tok 1 ds.length nl,.seq 3 true (xf (D++[Qu s i]).flatten) fl false,b10]:=⟨_,rfl⟩
 have ap1:Ub (Kw o0 o1 o3 c0 c1 c2 nl ds D fl nr m++[b10]) true .own 3 true 24 (.own 5 D.length) (.pv (.lit 3 [.agg [i64 s.first,i64 (s.first+Qa s.parts - 1),i64 i]]))=some (.own 5 (D.length+1),H2):=by
  rw[hH2]
  have hc:xf D.flatten++[AV.pv (i64 s.first),.pv (i64 (s.first+Qa s.parts - 1)),.pv (i64 i)]=xf (D++[Qu s i]).flatten:=by
   rw[List.flatten_append];simp[xf,Qu]
  simp only[Ub,Kw,List.cons_append,List.nil_append,List.getElem?_cons_succ,List.getElem?_cons_zero,if_true,jj,yf,Option.map_some,Option.bind_some,flat,PV.cells,List.append_nil,List.map_cons,List.map_nil,List.length_cons,List.length_nil]
  rw[if_pos ⟨trivial,by rw[List.length_map];omega,by unfold mb;omega,rfl⟩,hc]
  simp
 have p2:∀ d,place H2 d (.ptr 2 0)=some (.ptr 2 (0+d)):=fun d=>cg (by rw[hH2];rfl) d 0
 obtain⟨H3,hH3⟩:∃ H,H=[o0,o1,.box [c0,c1,c2,.uq 4 nl 1 ds,.own 5 (D.length+1),.pv (i64 m)],o3,.tok 1 ds.length nl,.seq 3 true (xf (D++[Qu s i]).flatten) fl false,b10]:=⟨_,rfl⟩
 have s2:Ma H2 1 (.ptr 2 4) (.own 5 (D.length+1))=some H3:=by rw[hH2,hH3];rfl
 have p3:∀ d,place H3 d (.ptr 2 0)=some (.ptr 2 (0+d)):=fun d=>cg (by rw[hH3];rfl) d 0
 have q3:∀ d,place H3 d (.ptr 6 0)=some (.ptr 6 (0+d)):=fun d=>cg (by rw[hH3,hb10];rfl) d 0
 have l4:ya H3 false 1 (.ptr 2 5)=some (.pv (i64 m)):=by rw[hH3];rfl
 have l5:ya H3 false 1 (.ptr 6 0)=some (.pv P):=by rw[hH3,hb10];rfl
 obtain⟨mm,hmm⟩:∃ x:Nat,x=if s.parts.length > m then s.parts.length else m:=⟨_,rfl⟩
 have hmx:(if (s.parts.length:Int) > (m:Int) then (s.parts.length:Int) else (m:Int))=(mm:Int):=by rw[hmm];split <;> split <;> omega
 obtain⟨H4,hH4⟩:∃ H,H=[o0,o1,.box [c0,c1,c2,.uq 4 nl 1 ds,.own 5 (D.length+1),.pv (i64 mm)],o3,.tok 1 ds.length nl,.seq 3 true (xf (D++[Qu s i]).flatten) fl false,b10]:=⟨_,rfl⟩
 have s3:Ma H3 1 (.ptr 2 5) (.pv (.int .i64 mm))=some H4:=by rw[hH3,hH4];rfl
 have p4:∀ d,place H4 d (.ptr 2 0)=some (.ptr 2 (0+d)):=fun d=>cg (by rw[hH4];rfl) d 0
 have l6:ya H4 false 1 (.ptr 2 3)=some (.uq 4 nl 1 ds):=by rw[hH4];rfl
 have l7:ya H4 true 2 (.ptr 6 0)=some (.pv (.agg [P,i64 s.first])):=by rw[hH4,hb10];rfl
 obtain⟨H5,hH5⟩:∃ H,H=[o0,o1,.box [c0,c1,c2,.uq 4 nl 1 ds,.own 5 (D.length+1),.pv (i64 mm)],o3,.tok 1 (ds.length+1) false,.seq 3 true (xf (D++[Qu s i]).flatten) fl false,b10]:=⟨_,rfl⟩
 have ap2:Ub H4 false .uq 1 false 8 (.uq 4 nl 1 ds) (.pv (.lit 1 [Ii s.parts]))=some (.uq 4 false 1 (ds++[Ii s.parts]),H5):=by
  rw[hH5]
  rw[Ah (A:=H4) (id:=4) (n:=ds.length) (nl:=nl) (by rw[hH4];rfl) rfl (by unfold mb;omega) (Ii s.parts)]
  rw[hH4];rfl
 have p5:∀ d,place H5 d (.ptr 2 0)=some (.ptr 2 (0+d)):=fun d=>cg (by rw[hH5];rfl) d 0
 have s5:Ma H5 1 (.ptr 2 3) (.uq 4 false 1 (ds++[Ii s.parts]))=some (Kw o0 o1 o3 c0 c1 c2 false (ds++[Ii s.parts]) (D++[Qu s i]) fl false mm++[b10]):=by
  rw[hH5]
  have e1:(ds++[Ii s.parts]).length=ds.length+1:=by simp
  have e2:(D++[Qu s i]).length=D.length+1:=by simp
  unfold Kw
  rw[e1,e2];rfl
 rw[← hmm]
 have m1:Oo (List.map AV.pv [PV.int .i64 0,.int .i64 0,.int .i64 0]) [(0,1,.pv (i64 s.first)),(1,1,.pv (i64 (s.first+Qa s.parts - 1))),(2,1,.pv (i64 i))]=some [.pv (i64 s.first),.pv (i64 (s.first+Qa s.parts - 1)),.pv (i64 i)]:=rfl
 have hdc:(AV.pv (Ii s.parts)).one=true:=rfl
 have hdp:(Ii s.parts).cells=[Ii s.parts]:=rfl
 have hfin:Kw o0 o1 o3 c0 c1 c2 false (ds++[Ii s.parts]) (D++[Qu s i]) fl false mm++[b10]=Kw o0 o1 o3 c0 c1 c2 false (ds++[Ii s.parts]) (D++[Qu s i]) fl false mm++[b10]:=rfl
 clear hH2 hH3 hH4 hH5 hb10
 generalize hG1:Kw o0 o1 o3 c0 c1 c2 nl ds D fl nr m++[b10]=G1 at *
 generalize hG0:Kw o0 o1 o3 c0 c1 c2 nl ds D fl nr m=G0 at *
 generalize Ii s.parts=dd at *
 generalize hQ:(fun r:Ex×St=>∃ E' T,r=_∧_)=Q
 simp -implicitDefEqProofs only[SP,WP,na,sevalprocAttr,-List.reduceReplicate,Lh,h8,h46,h47,h48,e1,a1,r2,hH0,s1,p1,q1,l1,l2,l3,hcn,t1,t2,t3,ap1,p2,s2,p3,q3,l4,l5,lP,hmx,Vp,qe,s3,p4,l6,l7,hdg,hdc,hdp,ap2,p5,s5]
 subst hQ
 refine⟨_,[b10],rfl,?_,by rw[Tr.aa,if_pos rfl]⟩
 repeat refine Nd.set ?_ rfl
 exact Nd.refl _ _
theorem dL {ss:List Rb} {i:Nat} (hi:i < ss.length):zi (ss.take (i+1))=if ss[i].parts.length > zi (ss.take i) then ss[i].parts.length else zi (ss.take i):=by
 unfold zi
 rw[List.take_succ_eq_append_getElem hi,List.foldl_append];rfl
theorem gU {ss:List Rb} (h:∀ s∈ss,s.parts.length≤8):zi ss≤8:=by
 have key:∀ (ss:List Rb) (m:Nat),m≤8→(∀ s∈ss,s.parts.length≤8)→ss.foldl (fun m s=>if s.parts.length > m then s.parts.length else m) m≤8:=by
  intro ss
  induction ss with
  |nil=>intro m h _;exact h
  |cons s ss ih=>
   intro m hm h
   rw[List.foldl_cons]
   refine ih _ ?_ fun x hx=>h x (by simp[hx])
   have:=h s (by simp)
   split <;> omega
 exact key ss 0 (by omega) h
theorem wU (hg:∀ nl ds D fl nr m,xg (Kw o0 o1 o3 c0 c1 c2 nl ds D fl nr m)) {E:Tr} {S:PV} {ss:List Rb} {es:List PV} (hS:wb S ss es) (Ba:qc ss)
 (h4:E.get 4= .ptr 0 0) (h8:E.get 8= .ptr 2 0) (h46:E.get 46= .pv S) (h47:E.get 47= .pv (i64 ss.length)) (h48:E.get 48= .pv (i64 0)):
 Ld (fun r=>r.1.stop=true∧∃ E' nl nr,r=(.exit 0,⟨E',Kw o0 o1 o3 c0 c1 c2 nl (ss.map fun s=>Ii s.parts) (ni ss ss.length) 0 nr (zi ss)⟩)∧E'.get 4= .ptr 0 0∧E'.get 8= .ptr 2 0∧(nl=true→ss=[])∧(nr=true→ss=[]))
  (pa call (.loop [4,8,46,47,48] Lh) ⟨E,Kw o0 o1 o3 c0 c1 c2 true [] [] 0 true 0⟩):=by
 have hgl:∀ nl ds D fl nr m,(Kw o0 o1 o3 c0 c1 c2 nl ds D fl nr m).length=6:=fun _ _ _ _ _ _=>rfl
 have hgd:∀ nl ds D fl nr m,∀ o∈Kw o0 o1 o3 c0 c1 c2 nl ds D fl nr m,oa 6 o=some o:=fun nl ds D fl nr m o ho=>hg nl ds D fl nr m 6 (by rw[hgl];exact Nat.le_refl _) o ho
 have hcut:Fit 6 [4,8,46,47] E:= .cons h4 (vt (by omega)) (.cons h8 (vt (by omega)) (.cons h46 Ja (.cons h47 Ja (.nil _ _))))
 have h32:=Ba.len
 refine pn (fun i t=>Nd [4,8,46,47] E t.env∧t.env.get 48= .pv (i64 i)∧∃ nl nr,t.H=Kw o0 o1 o3 c0 c1 c2 nl ((ss.take i).map fun s=>Ii s.parts) (ni ss i) 0 nr (zi (ss.take i))∧(nl=true→i=0)∧(nr=true→i=0)) ss.length (by unfold qa;omega) ?_ ?_ ?_
 ·rw[hgl]
  exact Ig.all rfl (hgd _ _ _ _ _ _) (Fit.sub (.cons h48 Ja hcut) rfl) fun E' hE=>⟨Nd.sub hE rfl,by rw[hE 48 (by simp),h48];rfl,true,true,rfl,fun _=>rfl,fun _=>rfl⟩
 ·rintro i ⟨E1,H1⟩ hi ⟨k1,k2,nl,nr,k3,k4,k5⟩
  simp only at k1 k2 k3
  subst k3
  refine za (DT (call:=call) hS Ba hi (by simp;omega) (ep _ _) (fun r hr=>gw hr) (gU fun s hs=>(Ba.Av s (List.mem_of_mem_take hs)).hi) ((k1 4 (by simp)).trans h4) ((k1 8 (by simp)).trans h8) ((k1 46 (by simp)).trans h46) ((k1 47 (by simp)).trans h47) k2) ?_
  rintro r ⟨E2,T,rfl,k6,k7⟩
  rw[Cl,hgl,←aL ss hi,←dL hi]
  have hnx:(ss.take (i+1)).map (fun s=>Ii s.parts)=(ss.take i).map (fun s=>Ii s.parts)++[Ii ss[i].parts]:=by rw[List.take_succ_eq_append_getElem hi,List.map_append];rfl
  exact Ig.front (hgl _ _ _ _ _ _).symm (hgd _ _ _ _ _ _) (Fit.sub (.cons k7 Ja (hcut.ze (k1.trans k6))) rfl) fun E' hE=>⟨(k1.trans k6).trans (Nd.sub hE rfl),by rw[hE 48 (by simp),k7],false,false,by rw[hnx],fun h=>(by cases h),fun h=>(by cases h)⟩
 ·rintro⟨E1,H1⟩ ⟨k1,k2,nl,nr,k3,k4,k5⟩
  simp only at k1 k2 k3
  subst k3
  have g47:=(k1 47 (by simp)).trans h47
  have e1:decide ((ss.length:Int) < (ss.length:Int))=false:=Ka (by omega)
  rw[List.take_length]
  generalize hQ:(fun r:Ex×St=>r.1.stop=true∧_)=Q
  simp -implicitDefEqProofs only[SX,sevalprocAttr,-List.reduceReplicate,Lh,k2,g47,e1]
  subst hQ
  exact⟨rfl,_,nl,nr,rfl,by rw[Tr.aa,if_neg (by decide)];exact (k1 4 (by simp)).trans h4,by rw[Tr.aa,if_neg (by decide)];exact (k1 8 (by simp)).trans h8,fun h=>List.eq_nil_of_length_eq_zero (k4 h),fun h=>List.eq_nil_of_length_eq_zero (k5 h)⟩
end
end Go.AM.B1
namespace Go.AM.B1
open Go.AM Go.AM.So
def ym (ss:List Rb):Prop:=∀ i j,(hi:i < ss.length)→(hj:j < ss.length)→i < j→ss[i].parts.length=ss[j].parts.length→Oe ss[i] ss[j]=false
theorem mK (call:Ua) {S:PV} {ss:List Rb} {es:List PV} (hS:wb S ss es) (i j:Nat) (H:List ba) (hi:i < ss.length) (hj:j < ss.length) (hH:H[0]? =some (.box [.pv S])):
 Ei call tg [.pv (i64 i),.pv (i64 j),.ptr 0 0] H=some (.pv (.bool (decide (i < j∧ss[i].parts.length=ss[j].parts.length))),H):=by
 obtain⟨P,ps,hPs,a1⟩:=hS.Ad hi
 obtain⟨Q,qs,hQs,a2⟩:=hS.Ad hj
 have lP:=hPs.parts.Sb
 have lQ:=hQs.parts.Sb
 have p0:place H 0 (.ptr 0 0)=some (.ptr 0 0):=by simp[place,hH]
 have l0:ya H false 1 (.ptr 0 0)=some (.pv S):=by simp[ya,hH,Sg]
 have r0:∀ H (x y:PV),ya H false 1 (.pv (.rp [x,y] 0))=some (.pv x):=fun H x y=>rfl
 have q0:∀ H (x y:PV),place H 0 (.pv (.rp [x,y] 0))=some (.pv (.rp [x,y] 0)):=fun H x y=>rfl
 by_cases hlt:i < j
 ·have e0:decide ((i:Int) < (j:Int))=true:=decide_eq_true (by omega)
  have e:((ss[i].parts.length:Int)==(ss[j].parts.length:Int))=decide (i < j∧ss[i].parts.length=ss[j].parts.length):=by
   rw[Bool.eq_iff_iff];simp only[beq_iff_eq,decide_eq_true_eq];omega
  generalize decide (i < j∧ss[i].parts.length=ss[j].parts.length)=z at e ⊢
  generalize ss[i]=p at *
  generalize ss[j]=q at *
  by_cases hij:P=Q
  ·subst hij
   have:p.parts.length=q.parts.length:=by have h1:=lP [];have h2:=lQ [];rw[h1] at h2;exact Option.some.inj h2
   rw[this] at lP e
   obtain rfl:z=true:=by rw[← e];simp
   simp -implicitDefEqProofs only[SP,WP,na,sevalprocAttr,tg,p0,l0,a1,a2,r0,q0,lP,e0,e]
  ·simp -implicitDefEqProofs only[SP,WP,na,sevalprocAttr,tg,p0,l0,a1,a2,r0,q0,lP,lQ,e0,e]
 ·have e0:decide ((i:Int) < (j:Int))=false:=decide_eq_false (by omega)
  have e:decide (i < j∧ss[i].parts.length=ss[j].parts.length)=false:=decide_eq_false (by omega)
  rw[e]
  simp -implicitDefEqProofs only[SP,WP,na,sevalprocAttr,tg,e0]
theorem LL {S:PV} {ss:List Rb} {es:List PV} (hS:wb S ss es) (Ba:qc ss):
 ∃ y a b,Ng [.agg [S]]=some (.uc [.agg [.bool y,i64 a,i64 b],i64 0])∧(y=true↔ym ss):=by
 have hSone:(AV.pv S).one=true:=by rcases hS.is with⟨h,_⟩ | h <;> rw[h] <;> rfl
 have c25:Ri 25=some Sf:=rfl
 have s0:ya [.box [.pv S],Qb false 0 0] true 1 (.ptr 0 0)=some (.pv (.agg [S])):=rfl
 have hA:bX (Ea Ri 7) 37 S ss.length (fun i j=>if h:i < ss.length∧j < ss.length then decide (i < j∧ss[i].parts.length=ss[j].parts.length) else false):=by
  refine⟨fun i j H hi hj hH=> ?_⟩
  rw[az Ri 6 37 _ H (f:=tg) rfl,mK _ hS i j H hi hj hH,dif_pos ⟨hi,hj⟩]
 obtain⟨y,a,b,T,h1,h2⟩:=PC hS Ba hA (fun i j hi hj h=>by rw[dif_pos ⟨hi,hj⟩] at h;have:=of_decide_eq_true h;omega) (Qb false 0 0) (fun n=>by simp[oa,Sa,Ja])
 refine⟨y,a,b,?_,?_⟩
 ·have s2:Ma ([.box [.pv S],Qb false 0 0]++T) 3 (.ptr 1 0) (.pv (.agg [.bool y,i64 a,i64 b]))=some ([.box [.pv S],Qb y a b]++T):=rfl
  have l3:ya ([.box [.pv S],Qb y a b]++T) true 3 (.ptr 1 0)=some (.pv (.agg [.bool y,i64 a,i64 b])):=rfl
  generalize hA1:[.box [.pv S],Qb false 0 0]++T=A1 at *
  generalize hA2:[.box [.pv S],Qb y a b]++T=A2 at *
  simp -implicitDefEqProofs only[Ng,SP,WP,na,sevalprocAttr,Ep,c25,hSone,s0,h1,s2,l3]
 ·rw[h2]
  unfold ym
  constructor
  ·intro h i j hi hj hlt he
   exact h i j hi hj (by rw[dif_pos ⟨hi,hj⟩];exact decide_eq_true ⟨hlt,he⟩)
  ·intro h i j hi hj hlt
   rw[dif_pos ⟨hi,hj⟩] at hlt
   obtain⟨h1,h2⟩:=of_decide_eq_true hlt
   exact h i j hi hj h1 h2
end Go.AM.B1
namespace Go.AM.B1
open Go.AM
theorem XC (eb:List Int):∀ (xs ys:List Nat) (r:List Int×List Int),pd eb (xs++ys) r=pd eb ys (pd eb xs r)
 | [],ys,r=>rfl
 |x::xs,ys,r=>by rw[List.cons_append,pd,pd,XC eb xs]
theorem IF {a:Int}:∀ {l:List Int} {k i:Nat},Ts a l k=some i→k≤i∧l[i - k]? =some a
 | [],_,_,h=>by cases h
 |b::l,k,i,h=>by
  simp only[Ts] at h
  split at h
  ·next he=>injection h with h;subst h he;simp
  ·obtain⟨h1,h2⟩:=IF h
   refine⟨by omega,?_⟩
   have:i - k=(i - (k+1))+1:=by omega
   rw[this,List.getElem?_cons_succ];exact h2
structure RX (eb O:List Int) (n:Nat) (r:List Int×List Int):Prop where
 len:r.2.length=eb.length
 hi:∀ x,n≤x→r.2.getD x 0=eb.getD x 0
 ext:∃ t,r.1=O++t∧∀ o∈t,0≤o∧∃ x,x < n∧eb.getD x 0=o
 nodup:r.1.Nodup
 val:∀ x,x < n→(eb.getD x 0 < 0→r.2.getD x 0=eb.getD x 0)∧(0≤eb.getD x 0→∃ k:Nat,r.2.getD x 0=(k:Int)∧r.1[k]? =some (eb.getD x 0))
theorem wj {l:List Int} {x y:Nat} {v:Int} (hx:x < l.length):(l.set x v).getD y 0=if y=x then v else l.getD y 0:=by
 rw[List.getD_eq_getElem?_getD,List.getD_eq_getElem?_getD]
 by_cases h:y=x
 ·subst h;rw[List.getElem?_set_self hx,if_pos rfl];rfl
 ·rw[List.getElem?_set_ne (Ne.symm h),if_neg h]
theorem RX.next {eb O:List Int} {n:Nat} {r:List Int×List Int} (h:RX eb O n r) (hn:n < eb.length):
 RX eb O (n+1) (Ai n (eb.getD n 0) r)∧(Ai n (eb.getD n 0) r).2.getD n 0≤r.1.length∧
 (((Ai n (eb.getD n 0) r).1.length:Int)=if (Ai n (eb.getD n 0) r).2.getD n 0=r.1.length then (r.1.length:Int)+1 else r.1.length)∧
 (∀ x,x < n→(Ai n (eb.getD n 0) r).2.getD x 0=r.2.getD x 0):=by
 obtain⟨t,ht,hts⟩:=h.ext
 have hl:n < r.2.length:=by rw[h.len];exact hn
 have hne:∀ x,x < n→x≠n:=fun x hx=>by omega
 unfold Ai
 by_cases h0:eb.getD n 0 < 0
 ·rw[if_pos h0]
  have hv:=h.hi n (Nat.le_refl _)
  refine⟨⟨h.len,fun x hx=>h.hi x (by omega),⟨t,ht,fun o ho=>⟨(hts o ho).1,by obtain⟨x,hx,e⟩:=(hts o ho).2;exact⟨x,by omega,e⟩⟩⟩,h.nodup,?_⟩,by rw[hv];omega,by rw[hv,if_neg (by omega)],fun x hx=>rfl⟩
  intro x hx
  rcases Nat.lt_or_ge x n with h1 | h1
  ·exact h.val x h1
  ·have:x=n:=by omega
   subst this;exact⟨fun _=>hv,fun h2=>by omega⟩
 ·rw[if_neg h0]
  cases hi:Ts (eb.getD n 0) r.1 0 with
  |some k=>
   have hk:=(IF hi).2
   rw[Nat.sub_zero] at hk
   have hkl:=(List.getElem?_eq_some_iff.1 hk).1
   simp only
   refine⟨⟨by rw[List.length_set,h.len],?_,⟨t,ht,fun o ho=>⟨(hts o ho).1,by obtain⟨x,hx,e⟩:=(hts o ho).2;exact⟨x,by omega,e⟩⟩⟩,h.nodup,?_⟩,?_,?_,?_⟩
   ·intro x hx;rw[wj hl,if_neg (by omega)];exact h.hi x (by omega)
   ·intro x hx
    rcases Nat.lt_or_ge x n with h1 | h1
    ·rw[wj hl,if_neg (by omega)];exact h.val x h1
    ·have:x=n:=by omega
     subst this
     rw[wj hl,if_pos rfl]
     exact⟨fun h2=>absurd h2 h0,fun _=>⟨k,rfl,hk⟩⟩
   ·rw[wj hl,if_pos rfl];omega
   ·rw[wj hl,if_pos rfl,if_neg (by omega)]
   ·intro x hx;rw[wj hl,if_neg (by omega)]
  |none=>
   have hnm:=Sz hi
   simp only
   refine⟨⟨by rw[List.length_set,h.len],?_,⟨t++[eb.getD n 0],by rw[ht,List.append_assoc],?_⟩,?_,?_⟩,?_,?_,?_⟩
   ·intro x hx;rw[wj hl,if_neg (by omega)];exact h.hi x (by omega)
   ·intro o ho
    rcases List.mem_append.1 ho with h1 | h1
    ·exact⟨(hts o h1).1,by obtain⟨x,hx,e⟩:=(hts o h1).2;exact⟨x,by omega,e⟩⟩
    ·simp only[List.mem_singleton] at h1;subst h1;exact⟨by omega,n,by omega,rfl⟩
   ·rw[List.nodup_append]
    refine⟨h.nodup,by simp,fun a ha b hb=> ?_⟩
    simp only[List.mem_singleton] at hb;subst hb;intro e;subst e;exact hnm ha
   ·intro x hx
    rcases Nat.lt_or_ge x n with h1 | h1
    ·rw[wj hl,if_neg (by omega)]
     refine⟨(h.val x h1).1,fun h2=> ?_⟩
     obtain⟨k,e1,e2⟩:=(h.val x h1).2 h2
     exact⟨k,e1,by rw[List.getElem?_append_left (List.getElem?_eq_some_iff.1 e2).1];exact e2⟩
    ·have:x=n:=by omega
     subst this
     rw[wj hl,if_pos rfl]
     exact⟨fun h2=>absurd h2 h0,fun _=>⟨_,rfl,by simp⟩⟩
   ·rw[wj hl,if_pos rfl];omega
   ·rw[wj hl,if_pos rfl,if_pos rfl,List.length_append];simp
   ·intro x hx;rw[wj hl,if_neg (by omega)]
theorem rS {eb O:List Int} (hO:O.Nodup):∀ n:Nat,n≤eb.length→RX eb O n (pd eb (List.range n) (O,eb))∧
 (∀ x,x < n→(pd eb (List.range n) (O,eb)).2.getD x 0≤((pd eb (List.range x) (O,eb)).1.length:Int)∧
  ((pd eb (List.range (x+1)) (O,eb)).1.length:Int)=if (pd eb (List.range n) (O,eb)).2.getD x 0=((pd eb (List.range x) (O,eb)).1.length:Int) then ((pd eb (List.range x) (O,eb)).1.length:Int)+1 else ((pd eb (List.range x) (O,eb)).1.length:Int))
 |0,_=>⟨⟨rfl,fun x _=>rfl,⟨[],by simp[pd]⟩,hO,by omega⟩,by omega⟩
 |n+1,hn=>by
  obtain⟨h1,h2⟩:=rS (eb:=eb) hO n (by omega)
  obtain⟨k1,k2,k3,k4⟩:=h1.next (by omega)
  have e:pd eb (List.range (n+1)) (O,eb)=Ai n (eb.getD n 0) (pd eb (List.range n) (O,eb)):=by rw[List.range_succ,XC];rfl
  refine⟨by rw[e];exact k1,fun x hx=> ?_⟩
  rcases Nat.lt_or_ge x n with h3 | h3
  ·rw[e,k4 x h3];exact h2 x h3
  ·have:x=n:=by omega
   subst this
   rw[e]
   exact⟨k2,k3⟩
structure yJ (D:List Int) (O:List Int) (o:Int) (e:List xe):Prop where
 ex:∃ row,e=Ff row∧∀ x,x < 256→((Ta D o.toNat).getD x 0 < 0→row.getD x 0=(Ta D o.toNat).getD x 0)∧
  (0≤(Ta D o.toNat).getD x 0→∃ k:Nat,row.getD x 0=(k:Int)∧O[k]? =some ((Ta D o.toNat).getD x 0))
theorem yJ.mono {D O:List Int} {o:Int} {e:List xe} (h:yJ D O o e) (t:List Int):yJ D (O++t) o e:=by
 obtain⟨row,h1,h2⟩:=h.ex
 refine⟨row,h1,fun x hx=>⟨(h2 x hx).1,fun h0=> ?_⟩⟩
 obtain⟨k,h3,h4⟩:=(h2 x hx).2 h0
 exact⟨k,h3,by rw[List.getElem?_append_left (List.getElem?_eq_some_iff.1 h4).1];exact h4⟩
def yG:Int→Int→List (List xe)→Prop
 |_,_,[]=>True
 |m,i,e::l=>i < m∧Vw m e∧yG (qA m e) (i+1) l
def yH (m:Int) (l:List (List xe)):Int:=l.foldl qA m
theorem aB:∀ {m i:Int} {l:List (List xe)} {e:List xe},yG m i l→i+l.length < yH m l→Vw (yH m l) e→yG m i (l++[e])
 |m,i,[],e,_,h1,h2=>⟨by simpa[yH] using h1,h2,trivial⟩
 |m,i,a::l,e,h,h1,h2=>⟨h.1,h.2.1,aB h.2.2 (by simp only[List.length_cons] at h1;simp only[yH,List.foldl_cons] at h1;simp only[yH];omega) h2⟩
theorem mO (m:Int) (l:List (List xe)) (e:List xe):yH m (l++[e])=qA (yH m l) e:=by
 unfold yH;rw[List.foldl_append];rfl
structure Xp (D:List Int) (n:Nat) (J:Int→Prop) (O:List Int) (l:List (List xe)):Prop where
 ord:Iu n O
 first:O[0]? =some 0
 le:l.length≤O.length
 rows:∀ (k:Nat) o e,O[k]? =some o→l[k]? =some e→yJ D O o e
 met:yH 1 l=O.length
 aY:yG 1 0 l
 all:∀ o∈O,J o
 uY:∀ e∈l,∀ x∈e,x.to < O.length
section
variable {D:List Int} {n:Nat} {J:Int→Prop} (hD:D.length=n * 256) (cD:∀ c∈D,c < n)
 (hJ:∀ o,J o→0≤o→o < n→∀ x,x < 256→0≤(Ta D o.toNat).getD x 0→J ((Ta D o.toNat).getD x 0))
include hD cD hJ
theorem Xp.next {O:List Int} {l:List (List xe)} (h:Xp D n J O l) {o:Int} (ho:O[l.length]? =some o):
 Xp D n J (Rf D o O).1 (l++[Ff (Rf D o O).2]):=by
 have hoO:=List.mem_of_getElem? ho
 have hb:=h.ord.2 o hoO
 have hlt:=(List.getElem?_eq_some_iff.1 ho).1
 have hrl:(Ta D o.toNat).length=256:=uh hD (by omega)
 obtain⟨k1,k2⟩:=rS (eb:=Ta D o.toNat) h.ord.1 256 (by omega)
 obtain⟨t,ht,hts⟩:=k1.ext
 unfold Rf
 have hm:=XF (row:=(pd (Ta D o.toNat) (List.range 256) (O,Ta D o.toNat)).2) (g:=fun x=>((pd (Ta D o.toNat) (List.range x) (O,Ta D o.toNat)).1.length:Int)) (fun x=>by omega) 256 (fun x hx=>(k2 x hx).1) (fun x hx=>(k2 x hx).2)
 generalize hr:pd (Ta D o.toNat) (List.range 256) (O,Ta D o.toNat)=r at *
 obtain⟨m1,m2,m3⟩:=hm
 have hg0:((pd (Ta D o.toNat) (List.range 0) (O,Ta D o.toNat)).1.length:Int)=O.length:=rfl
 simp only[hg0] at m1 m2
 have e1:je r.2 (List.range 256) []=Ff r.2:=rfl
 rw[e1] at m1 m2 m3
 have hval:yJ D r.1 o (Ff r.2):=⟨r.2,rfl,fun x hx=>k1.val x hx⟩
 have hm':=h.met
 have hget:∀ x,x < 256→(Ta D o.toNat).getD x 0 < n:=by
  intro x hx
  rw[List.getD_eq_getElem?_getD,List.getElem?_eq_getElem (by omega)]
  have:=List.getElem_mem (l:=Ta D o.toNat) (n:=x) (by omega)
  exact cD _ (by unfold Ta at this;exact List.mem_of_mem_drop (List.mem_of_mem_take this))
 refine⟨⟨k1.nodup,?_⟩,?_,?_,?_,?_,?_,?_,?_⟩
 ·intro o' ho'
  rw[ht] at ho'
  rcases List.mem_append.1 ho' with h1 | h1
  ·exact h.ord.2 o' h1
  ·obtain⟨h2,x,hx,rfl⟩:=hts o' h1;exact⟨h2,hget x hx⟩
 ·rw[ht,List.getElem?_append_left (by omega)];exact h.first
 ·rw[ht];simp;omega
 ·intro k o' e h1 h2
  rcases Nat.lt_or_ge k l.length with h3 | h3
  ·rw[List.getElem?_append_left h3] at h2
   rw[ht,List.getElem?_append_left (by omega)] at h1
   rw[ht];exact (h.rows k o' e h1 h2).mono t
  ·have h4:=(List.getElem?_eq_some_iff.1 h2).1
   have:k=l.length:=by simp at h4;omega
   subst this
   rw[List.getElem?_append_right (Nat.le_refl _)] at h2
   simp at h2;subst h2
   rw[ht,List.getElem?_append_left (by omega),ho] at h1
   injection h1 with h1;subst h1;exact hval
 ·rw[mO,hm',m1]
 ·exact aB h.aY (by rw[hm'];omega) (by rw[hm'];exact m2)
 ·intro o' ho'
  rw[ht] at ho'
  rcases List.mem_append.1 ho' with h1 | h1
  ·exact h.all o' h1
  ·obtain⟨h2,x,hx,rfl⟩:=hts o' h1;exact hJ o (h.all o hoO) hb.1 hb.2 x hx h2
 ·intro e he x hx
  rcases List.mem_append.1 he with h1 | h1
  ·have:=h.uY e h1 x hx;rw[ht,List.length_append];omega
  ·simp only[List.mem_singleton] at h1;subst h1;exact m3 x hx
theorem Xp.go:∀ (f:Nat) (O:List Int) (l:List (List xe)),Xp D n J O l→n≤l.length+f→Xp D n J (aj D f (O,l)).1 (aj D f (O,l)).2∧(aj D f (O,l)).1.length=(aj D f (O,l)).2.length
 |0,O,l,h,hf=>⟨h,by have:=h.ord.len;have:=h.le;show O.length=l.length;omega⟩
 |f+1,O,l,h,hf=>by
  cases ho:O[l.length]? with
  |none=>
   rw[Bp (r:=(O,l)) ho]
   have:=List.getElem?_eq_none_iff.1 ho
   exact⟨h,by have:=h.le;show O.length=l.length;omega⟩
  |some o=>
   rw[Nq (r:=(O,l)) ho]
   exact Xp.go f _ _ (h.next hD cD hJ ho) (by simp;omega)
theorem mV (hn:n≤64) (h0:0 < n) (hJ0:J 0):∃ O,Xp D n J O (Pm D)∧O.length=(Pm D).length:=by
 have h:Xp D n J [0] []:=⟨⟨by simp,by simp;omega⟩,rfl,by simp,by simp,rfl,trivial,by simpa using hJ0,by simp⟩
 have:=Xp.go hD cD hJ 64 [0] [] h (by simp;omega)
 exact⟨_,this.1,this.2⟩
end
end Go.AM.B1
namespace Go.AM.B1
open Go.AM Go.AM.So
structure OU (ss:List Rb) (sets:List Al) (C:List (List Int)) (O:List Int) (l:List (List xe)):Prop where
 ok:qc ss
 pre:Fg ss
 W:Pk ss sets C
 hl:C.length=sets.length
 told:Xp (Ge C.length C.flatten).C C.length (fun o=>∃ j,j < C.length∧o=co C j) O l
 len:O.length=l.length
 pos:0 < C.length
 le:C.length≤64
theorem dH (C:List (List Int)):co C 0=0:=by unfold co;rw[if_pos rfl]
section
variable {ss:List Rb} {sets:List Al} {C:List (List Int)} (W:Pk ss sets C) (hl:C.length=sets.length)
include W hl
theorem RN {j x:Nat} (hj:j < C.length) (hx:x < 256):iq C j x=if 0≤jg C j x then co C (jg C j x).toNat else jg C j x:=by
 unfold iq
 split
 ·next h=>
  have:=W.tz hl hj hx h
  unfold co;rw[if_neg (by omega)]
 ·rfl
end
theorem sV {ss:List Rb} {l:List (List xe)} (Ba:qc ss) (hpre:Fg ss) (h:yg ss=some l):∃ sets C O,OU ss sets C O l:=by
 unfold yg at h
 rw[Option.map_eq_some_iff] at h
 obtain⟨⟨sets,C⟩,hw,rfl⟩:=h
 obtain⟨W,hl⟩:=vF Ba.len (fun s hs=>(Ba.Av s hs).lo) hw
 have W:Pk ss sets C:=W
 have hl:C.length=sets.length:=hl
 have hm:=W.sx hl
 have h0:0 < C.length:=by rw[hl];exact (List.getElem?_eq_some_iff.1 W.first).1
 have h64:C.length≤64:=by rw[hl];exact W.ok.1
 have hrow:∀ j x,j < C.length→x < 256→(Ta (Ge C.length C.flatten).C (co C j).toNat).getD x 0=iq C j x:=fun j x hj hx=>TH W hl hj hx
 obtain⟨O,h1,h2⟩:=mV (n:=C.length) (J:=fun o=>∃ j,j < C.length∧o=co C j) (D:=(Ge C.length C.flatten).C) hm.hC (by
  intro c hc
  obtain⟨p,hp,rfl⟩:=List.getElem_of_mem hc
  have hpl:p < C.length * 256:=by rw[← hm.hC];exact hp
  have e1:(Ge C.length C.flatten).C[p]=(Ta (Ge C.length C.flatten).C (p / 256)).getD (p % 256) 0:=by
   rw[List.getD_eq_getElem?_getD,Jr (Nat.mod_lt _ (by omega))]
   have:p / 256 * 256+p % 256=p:=by omega
   rw[this,List.getElem?_eq_getElem hp];rfl
  rw[e1,W.dP hl (by omega) (Nat.mod_lt _ (by omega))]
  have hb:=W.bound hl (k:=p / 256) (x:=p % 256) (by omega) (Nat.mod_lt _ (by omega))
  unfold iq
  split
  ·exact (hm.En (j:=(jg C (p / 256) (p % 256)).toNat) (by omega)).2.1
  ·exact hb.2) (by
  rintro o ⟨j,hj,rfl⟩ _ _ x hx h3
  rw[hrow j x hj hx,RN W hl hj hx] at h3 ⊢
  have hb:=W.bound hl hj hx
  split at h3
  ·next h4=>rw[if_pos h4];exact⟨_,by omega,rfl⟩
  ·omega) h64 h0 ⟨0,h0,(dH C).symm⟩
 exact⟨sets,C,O,Ba,hpre,W,hl,h1,h2,h0,h64⟩
section
variable {ss:List Rb} {sets:List Al} {C:List (List Int)} {O:List Int} {l:List (List xe)}
theorem OU.first (h:OU ss sets C O l):O[0]? =some (co C 0):=by rw[dH];exact h.told.first
theorem OU.row (h:OU ss sets C O l) {k j:Nat} (hk:O[k]? =some (co C j)) (hj:j < C.length):∃ row,l[k]? =some (Ff row)∧
 ∀ x,x < 256→(jg C j x < 0→row.getD x 0=jg C j x)∧(0≤jg C j x→∃ k':Nat,row.getD x 0=(k':Int)∧0 < k'∧O[k']? =some (co C (jg C j x).toNat)):=by
 have hkl:=(List.getElem?_eq_some_iff.1 hk).1
 have hle:=h.len
 have he:l[k]? =some l[k]:=List.getElem?_eq_getElem (by omega)
 obtain⟨row,h1,h2⟩:=(h.told.rows k _ _ hk he).ex
 refine⟨row,by rw[he,h1],fun x hx=> ?_⟩
 have h3:=h2 x hx
 rw[TH h.W h.hl hj hx,RN h.W h.hl hj hx] at h3
 constructor
 ·intro h4
  rw[if_neg (by omega)] at h3
  exact h3.1 h4
 ·intro h4
  rw[if_pos h4] at h3
  have hd:=h.W.tz h.hl hj hx h4
  have hb:=h.W.bound h.hl hj hx
  have hc:0≤co C (jg C j x).toNat:=by
   unfold co;split
   ·omega
   ·exact ((h.W.sx h.hl).En (by omega)).1
  obtain⟨k',e1,e2⟩:=h3.2 hc
  refine⟨k',e1,?_,e2⟩
  rcases Nat.eq_zero_or_pos k' with rfl | h5
  ·rw[h.first,dH] at e2
   injection e2 with e2
   unfold co at e2
   rw[if_neg (by omega)] at e2
   exact absurd e2.symm (BN h.ok h.pre h.W h.hl (by omega) (by omega))
  ·exact h5
end
end Go.AM.B1
namespace Go.AM.B1
open Go.AM Go.AM.So
section
variable {ss:List Rb} {sets:List Al} {C:List (List Int)} {O:List Int} {l:List (List xe)} (h:OU ss sets C O l)
include h
theorem OU.step {k j:Nat} (hk:O[k]? =some (co C j)) (hj:j < C.length) {x:Nat} (hx:x < 256):
 (jg C j x= -2∧Yk l (k:Int) (x:Int)=(0,false))∨(jg C j x= -1∧Yk l (k:Int) (x:Int)=(-1,true))∨
 (0≤jg C j x∧jg C j x < C.length∧∃ k':Nat,Yk l (k:Int) (x:Int)=((k':Int),true)∧0 < k'∧O[k']? =some (co C (jg C j x).toNat)):=by
 obtain⟨row,h1,h2⟩:=h.row hk hj
 have h3:=(zz row).step x hx
 obtain⟨h4,h5⟩:=h2 x hx
 have hb:=h.W.bound h.hl hj hx
 have hs:Yk l (k:Int) (x:Int)=match fg (x:Int) (Ff row) with
  |some t=>(t,true)
  |none=>(0,false):=by
  unfold Yk
  rw[if_neg (by omega),Int.toNat_natCast,h1] <;> rfl
 rw[h3] at hs
 by_cases c0:0≤jg C j x
 ·obtain⟨k',e1,e2,e3⟩:=h5 c0
  rw[e1,if_neg (by omega)] at hs
  exact .inr (.inr ⟨c0,hb.2,k',hs,e2,e3⟩)
 ·have h6:=h4 (by omega)
  rw[h6] at hs
  by_cases c1:jg C j x= -2
  ·rw[if_pos c1] at hs;exact .inl ⟨c1,hs⟩
  ·have c2:jg C j x= -1:=by omega
   rw[if_neg c1,c2] at hs;exact .inr (.inl ⟨c2,hs⟩)
theorem OU.match:∀ (bs:List Nat) (i k j:Nat),Bytes bs→O[k]? =some (co C j)→j < C.length→
 ∃ m:Nat,m≤bs.length∧((Hh l i (k:Int) (bs.map fun (n:Nat)=>(n:Int))=(((i+m:Nat):Int),1)∧0 < m∧runT C j (bs.take m)= -1)∨
  (Hh l i (k:Int) (bs.map fun (n:Nat)=>(n:Int))=(((i+m:Nat):Int),2)∧m=bs.length∧0≤runT C j bs)∨
  (Hh l i (k:Int) (bs.map fun (n:Nat)=>(n:Int))=(((i+m:Nat):Int),3)∧m < bs.length∧0≤runT C j (bs.take m)∧runT C j (bs.take (m+1))= -2))
 | [],i,k,j,_,hk,hj=>⟨0,by simp,.inr (.inl ⟨rfl,rfl,Int.natCast_nonneg j⟩)⟩
 |x::bs,i,k,j,hb,hk,hj=>by
  have hx:x < 256:=hb x (by simp)
  have hbs:Bytes bs:=fun y hy=>hb y (by simp[hy])
  have hj0:¬((j:Int) < 0):=by omega
  rw[List.map_cons,Hh]
  rcases h.step hk hj hx with⟨h1,h2⟩ | ⟨h1,h2⟩ | ⟨h1,h1',k',h2,h3,h4⟩
  ·rw[h2]
   refine⟨0,by simp,.inr (.inr ⟨rfl,by simp,Int.natCast_nonneg j,?_⟩)⟩
   show runT C j [x]= -2
   rw[runT,if_neg hj0,Int.toNat_natCast,h1];rfl
  ·rw[h2]
   refine⟨1,by simp,.inl ⟨rfl,by omega,?_⟩⟩
   show runT C j [x]= -1
   rw[runT,if_neg hj0,Int.toNat_natCast,h1];rfl
  ·rw[h2]
   simp only[Bool.true_eq_false,if_false]
   rw[if_neg (by omega)]
   obtain⟨m,hm,hc⟩:=OU.match bs (i+1) k' (jg C j x).toNat hbs h4 (by omega)
   have hr:∀ w,runT C j (x::w)=runT C ((jg C j x).toNat:Nat) w:=by
    intro w
    rw[runT,if_neg hj0,Int.toNat_natCast,Int.toNat_of_nonneg h1]
   have he:i+1+m=i+(m+1):=by omega
   rw[he] at hc
   refine⟨m+1,by simp;omega,?_⟩
   rcases hc with⟨c1,c2,c3⟩ | ⟨c1,c2,c3⟩ | ⟨c1,c2,c3,c4⟩
   ·exact .inl ⟨c1,by omega,by rw[List.take_succ_cons,hr];exact c3⟩
   ·exact .inr (.inl ⟨c1,by simp[c2],by rw[hr];exact c3⟩)
   ·exact .inr (.inr ⟨c1,by simp;omega,by rw[List.take_succ_cons,hr];exact c3,by rw[List.take_succ_cons,hr];exact c4⟩)
end
end Go.AM.B1
namespace Go.AM.B1
open Go.AM Go.AM.So
theorem KQ {row:List Int} {e:xe} (he:e∈Ff row):0≤e.lo∧e.lo≤e.hi∧e.hi < 256∧e.to≠ -2∧e.to=row.getD e.lo.toNat 0:=by
 have h:=zz row
 obtain⟨h1,h2,h3,h4⟩:=h.nE e he
 have hs:=h.step e.lo.toNat (by omega)
 rw[Int.toNat_of_nonneg h1,VD h.ord e he (Int.le_refl _) h2] at hs
 refine⟨h1,h2,h3,h4,?_⟩
 split at hs
 ·cases hs
 ·injection hs
theorem kC {ss:List Rb} {l:List (List xe)} (Ba:qc ss) (hpre:Fg ss) (h:yg ss=some l):∀ e∈l,ij e:=by
 obtain⟨sets,C,O,L⟩:=sV Ba hpre h
 intro e he
 obtain⟨k,hk,rfl⟩:=List.getElem_of_mem he
 have hkO:k < O.length:=by rw[L.len];exact hk
 obtain⟨j,hj,ho⟩:=L.told.all O[k] (List.getElem_mem hkO)
 obtain⟨row,h1,h2⟩:=L.row (k:=k) (j:=j) (by rw[List.getElem?_eq_getElem hkO,ho]) hj
 rw[List.getElem?_eq_getElem hk] at h1
 injection h1 with h1
 have htos:=L.told.uY _ (List.getElem_mem hk)
 have h64:=(Oz h).1
 have hlen:=L.len
 rw[h1] at htos ⊢
 refine⟨fun x hx=> ?_,(zz row).ord⟩
 obtain⟨e1,e2,e3,e4,e5⟩:=KQ hx
 have:=htos x hx
 refine⟨e1,e2,e3,?_,by omega⟩
 obtain⟨f1,f2⟩:=h2 x.lo.toNat (by omega)
 by_cases hc:jg C j x.lo.toNat < 0
 ·have hb:=L.W.bound L.hl hj (x:=x.lo.toNat) (by omega)
  rw[f1 hc] at e5
  omega
 ·obtain⟨k',g1,_⟩:=f2 (by omega)
  rw[g1] at e5
  omega
def xH (r:List Int):PV:= .agg (r.map i64)
theorem KD {sz:Nat}:∀ {D:List (List PV)},(∀ r∈D,r.length=sz)→chunk sz true D.length D.flatten=D.map .agg
 | [],_=>rfl
 |r::D,h=>by
  have hr:=h r (by simp)
  rw[List.length_cons,chunk,if_pos rfl,List.flatten_cons,List.take_left' hr,List.drop_left' hr,KD fun x hx=>h x (by simp[hx])];rfl
theorem cy:∀ {D:List (List Int)},(∀ r∈D,r.length=3)→mh 3 D.length D.flatten=D
 | [],_=>rfl
 |r::D,h=>by
  have hr:=h r (by simp)
  rw[List.length_cons,mh,List.flatten_cons,List.take_left' hr,List.drop_left' hr,cy fun x hx=>h x (by simp[hx])]
def Si (ss:List Rb):List (List Int):=(Rn 3 0 (ni ss ss.length).toArray).toList
theorem Pp (ss:List Rb):(Si ss).Perm (ni ss ss.length):=(Ey 3 0 (ni ss ss.length).toArray).2.1
theorem sA {ss:List Rb} {r:List Int} (h:r∈Si ss):r.length=3:=gw ((Pp ss).mem_iff.1 h)
theorem UF (ss:List Rb):(Si ss).length=ss.length:=by rw[(Pp ss).length_eq,ep]
structure Sn (T:PV) (ss:List Rb) (l:List (List xe)):Prop where
 ex:∃ S' NX DG RW,T= .rp [S',zj l,NX,DG,RW,i64 (zi ss)] 0∧ri 2 S' (ss.map Fe)∧ri 256 NX (l.map Tm)∧ri 1 DG (ss.map fun s=>Ii s.parts)∧ri 3 RW ((Si ss).map xH)
section
variable {S:PV} {ss:List Rb} {es:List PV} (hS:wb S ss es)
include hS
theorem ZA {n:Int} {V:PV} (hV:(AV.pv V).one=true) (h0:n≠0) (h1:n≠130) (hb:wc [.agg [S]]=some (.uc [.agg [V],i64 n])):Fb [.agg [S]]=some (.uc [.Kg,i64 n]):=by
 have hS1:(AV.pv S).one=true:=by rcases hS.is with⟨h,_⟩ | h <;> rw[h] <;> rfl
 have d0:(n==0)=false:=by simp[h0]
 have d1:(n==130)=false:=by simp[h1]
 have d2:(n != 0)=true:=by simp[h0]
 have st:Ma [.box [.pv .ma]] 1 (.ptr 0 0) (.pv (.agg [V]))=some [.box [.pv V]]:=by simp[Ma,AV.cells,PV.cells,hV,na]
 simp -implicitDefEqProofs only[Fb,PA.eq_1,SX,sevalprocAttr,mi,hS1,Af,hb,st,d0,d1,d2]
theorem JA {n:Int} {V:PV} {y:Bool} {a b:Int} (hV:(AV.pv V).one=true) (h0:n=0∨n=130) (hy:n=130∨y=false) (hb:wc [.agg [S]]=some (.uc [.agg [V],i64 n])) (hi:Ng [.agg [S]]=some (.uc [.agg [.bool y,i64 a,i64 b],i64 0])):
 Fb [.agg [S]]=some (.uc [.Kg,i64 (if y then n else 111)]):=by
 have hS1:(AV.pv S).one=true:=by rcases hS.is with⟨h,_⟩ | h <;> rw[h] <;> rfl
 have st:Ma [.box [.pv .ma]] 1 (.ptr 0 0) (.pv (.agg [V]))=some [.box [.pv V]]:=by simp[Ma,AV.cells,PV.cells,hV,na]
 have st2:Ma [.box [.pv V],.box [.pv (.bool false),.pv (i64 0),.pv (i64 0)]] 3 (.ptr 1 0) (.pv (.agg [.bool y,i64 a,i64 b]))=some [.box [.pv V],.box [.pv (.bool y),.pv (i64 a),.pv (i64 b)]]:=rfl
 have p2:∀ a b c d,place [a,.box [b,c,d]] 0 (.ptr 1 0)=some (.ptr 1 0):=fun a b c d=>rfl
 have l2:∀ a b c d,ya [a,.box [b,c,d]] false 1 (.ptr 1 0)=some b:=fun a b c d=>rfl
 have z0:((0:Int)==0)=true:=rfl
 have z1:((130:Int)==0)=false:=rfl
 have z2:((130:Int)==130)=true:=rfl
 have z3:((130:Int) != 0)=true:=rfl
 have z4:((111:Int) != 0)=true:=rfl
 rcases h0 with rfl | rfl
 ·obtain rfl:y=false:=by rcases hy with h | h;cases h;exact h
  simp -implicitDefEqProofs only[Fb,PA.eq_1,SX,sevalprocAttr,mi,hS1,Af,hb,hi,st,st2,p2,l2,z0,z1,z2,z3,z4]
 ·cases y <;> simp -implicitDefEqProofs only[Fb,PA.eq_1,SX,sevalprocAttr,mi,hS1,Af,hb,hi,st,st2,p2,l2,z0,z1,z2,z3,z4]
end
end Go.AM.B1
