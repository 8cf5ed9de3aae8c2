/- What functions of the program compute. -/
import Derived.Test.YtijlhblleiaomaaGreatV11
import Derived.Test.YtijlhblleiaomaaGreatV7
import Derived.Test.YtijlhblleiaomaaGreatV2
import Derived.Test.YtijlhblleiaomaaGreatV10
import Derived.Test.YtijlhblleiaomaaGreatV3
import Derived.Test.YtijlhblleiaomaaGreatV8
set_option linter.unusedVariables false
set_option linter.unusedSimpArgs false
namespace Go.AM.B1
open Go.AM Go.AM.So
theorem iQ {e:Tr} {H:List ba} {s:Lb} {P:PV} {ps:List PV} {sb oid fl i:Nat} {prod:Int} {g:Nat→AV} (hp:rf P s.parts ps) (hi:i < s.parts.length) (Ba:Xc s.parts[i])
 (h1:e.get 1= .pv (.rp [P,i64 s.first] 0)) (h3:e.get 3= .ptr sb 0) (h4:e.get 4= .pv (i64 prod)) (h5:e.get 5= .pv (i64 i)) (hs:H[sb]? =some (.box [.own oid s.parts.length])) (ho:H[oid]? =some (.seq 258 true (cellsOf (s.parts.length * 258) g) fl false))
 (hg:g (i * 258)= .pv .ma) (hw:IntKind.i64.wrap (prod * (Ek s.parts[i]).length)=prod * (Ek s.parts[i]).length) (hnd:(Ek s.parts[i]).Nodup) (hml:(Ek s.parts[i]).length≤256) (hmb:∀ x∈Ek s.parts[i],0≤x∧x≤255) (hne:Ek s.parts[i]≠[]) (hfl:fl≤s.parts.length * 258) (hi2:i≤4611686018427387904):
 Gd (fun r=>r.1= .norm∧r.2.env.get 1= .pv (.rp [P,i64 s.first] 0)∧r.2.env.get 3= .ptr sb 0∧r.2.env.get 4= .pv (i64 (prod * (Ek s.parts[i]).length))∧r.2.env.get 5= .pv (i64 (i - 1))∧r.2.H[sb]? =some (.box [.own oid s.parts.length])∧
  ∃ fl' g',fl'≤s.parts.length * 258∧r.2.H[oid]? =some (.seq 258 true (cellsOf (s.parts.length * 258) g') fl' false)∧QY (g' (i * 258)) r.2.H ((Ek s.parts[i]).map eZ)∧(∀ j,j≠i * 258→(∀ x∈Ek s.parts[i],j≠i * 258+1+x.toNat)→g' j=Mv g (i * 258+257) (.pv (i64 prod)) j)∧∀ (k:Nat) x,(Ek s.parts[i])[k]? =some x→g' (i * 258+1+x.toNat)= .pv (.int .u16 ((k:Nat)+1))) (ua (Ea Vg 8) Hk ⟨e,H⟩):=by
 obtain⟨v,hv1,hv2,hv3⟩:=hp.get hi
 obtain⟨u,hu,hall⟩:=TF hv3 Ba
 have hso:sb≠oid:=by intro e;subst e;rw[hs] at ho;cases ho
 have hlt:=getElem?_lt hs
 have hlo:=getElem?_lt ho
 generalize hl:s.parts[i]=l at *
 clear hl hp
 generalize hn:s.parts.length=n at *
 have p3:place H 0 (.ptr sb 0)=some (.ptr sb 0):=by simp[place,hs]
 have l3:xa H false 1 (.ptr sb 0)=some (.own oid n):=by simp[xa,hs,bh]
 have ia:wa H 258 (.own oid n) (i:Int)=some (.Gc oid (n * 258) (i * 258)):=by
  simp only[wa,ho,pg]
  rw[if_pos ⟨trivial,by unfold Ia;omega,by unfold Qh;omega⟩]
  simp
 have hH2:(H++[ba.box [.pv .Sg]]).set H.length (.box [.Gc oid (n * 258) (i * 258)])=H++[ba.box [.Gc oid (n * 258) (i * 258)]]:=by
  rw[List.set_append_right _ _ (Nat.le_refl _)];simp
 have st0:Oa (H++[ba.box [.pv .Sg]]) 1 (.ptr H.length 0) (.Gc oid (n * 258) (i * 258))=some (H++[ba.box [.Gc oid (n * 258) (i * 258)]]):=by
  rw[← hH2]
  simp[Oa,AV.cells,AV.one,oa]
 have hb2:(H++[ba.box [.Gc oid (n * 258) (i * 258)]])[H.length]? =some (.box [.Gc oid (n * 258) (i * 258)]):=by simp
 have ho2:(H++[ba.box [.Gc oid (n * 258) (i * 258)]])[oid]? =some (.seq 258 true (cellsOf (n * 258) g) fl false):=by rw[getElem?_push hlo];exact ho
 have hs2:(H++[ba.box [.Gc oid (n * 258) (i * 258)]])[sb]? =some (.box [.own oid n]):=by rw[getElem?_push hlt];exact hs
 generalize H++[ba.box [.Gc oid (n * 258) (i * 258)]]=H2 at *
 have l6:xa H2 false 1 (.ptr H.length 0)=some (.Gc oid (n * 258) (i * 258)):=by simp[xa,hb2,bh]
 have p6:∀ d,place H2 d (.Gc oid (n * 258) (i * 258))=some (.Gc oid (n * 258) (i * 258+d)):=fun d=>It ho2 rfl
 have st1:=dB (off:=i * 258+257) (v:= .pv (i64 prod)) ho2 rfl (by omega) rfl rfl
 have hbo:H.length≠oid:=by omega
 have hs3:(H2.set oid (.seq 258 true (cellsOf (n * 258) (Mv g (i * 258+257) (.pv (i64 prod)))) (n * 258) false))[sb]? =some (.box [.own oid n]):=by rw[List.getElem?_set_ne (Ne.symm hso)];exact hs2
 have hb3:(H2.set oid (.seq 258 true (cellsOf (n * 258) (Mv g (i * 258+257) (.pv (i64 prod)))) (n * 258) false))[H.length]? =some (.box [.Gc oid (n * 258) (i * 258)]):=by rw[List.getElem?_set_ne (Ne.symm hbo)];exact hb2
 have ho3:(H2.set oid (.seq 258 true (cellsOf (n * 258) (Mv g (i * 258+257) (.pv (i64 prod)))) (n * 258) false))[oid]? =some (.seq 258 true (cellsOf (n * 258) (Mv g (i * 258+257) (.pv (i64 prod)))) (n * 258) false):=List.getElem?_set_self (getElem?_lt ho2)
 generalize H2.set oid (.seq 258 true (cellsOf (n * 258) (Mv g (i * 258+257) (.pv (i64 prod)))) (n * 258) false)=H3 at *
 have w5:decide ((i:Int)≥0)=true:=decide_eq_true (by omega)
 have r0:∀ H (x y:PV),xa H false 1 (.pv (.rp [x,y] 0))=some (.pv x):=fun H x y=>rfl
 have q0:∀ H (x y:PV),place H 0 (.pv (.rp [x,y] 0))=some (.pv (.rp [x,y] 0)):=fun H x y=>rfl
 have il:∀ H,wa H 1 (.pv P) (i:Int)=some (.pv (.rp v.cells 0)):=by
  intro H
  subst hv2
  have hq:i < ps.length:=getElem?_lt hv1
  simp only[wa]
  rw[if_pos ⟨trivial,by unfold Ia;omega⟩,Int.toNat_natCast,hv1];rfl
 have hvc:v.cells=[v]:=by rcases hv3.is with⟨h,_⟩ | h <;> rw[h] <;> rfl
 rw[hvc] at il
 have r1:∀ H (x:PV),xa H false 1 (.pv (.rp [x] 0))=some (.pv x):=fun H x=>rfl
 have hlp:=Pq Ba.2
 have rv:fp 35 Sk 1 (.Fk 35 [.pv (.rp [u] 0),.pv (.rp [i64 0] 0)])=some ((Ek l).map fun x=>[i64 x]):=by
  have:((Ek l).map fun x=>[i64 x]).all (nO 1)=true:=by
   rw[List.all_eq_true];intro y hy
   obtain⟨x,_,rfl⟩:=List.mem_map.1 hy
   rfl
  simp[fp,ve,iD hu Ba.2 (by omega)]
  exact fun _ _=>rfl
 have c39:Vg 39=some om:=rfl
 have hall':=fun H=>(Qz Vg 7 39 [AV.pv v,AV.pv (i64 0)] H (f:=om) rfl).symm.trans (hall H)
 generalize hQ:(fun r:Ex×St=>r.1=Ex.norm∧_)=Q
 simp -implicitDefEqProofs only[SX,sevalprocAttr,Hk,xX,h1,h3,h4,h5,p3,l3,ia,st0,l6,p6,st1,w5,r0,q0,il,r1,c39,hall',rv,fA]
 have hin:=fun (E:Tr) (h6:E.get 6= .ptr H.length 0)=>of_inner (Ea Vg 8) (e:=E) h6 (off:=i * 258) (m:=n * 258) (by omega) (Ek l) (es:=[]) hb3 ho3 hmb hnd (.inl ⟨rfl,by rw[Mu _ _ (by omega)];exact hg⟩) (by simpa using hml)
 generalize hEE:(Tr.set _ 39 _:Tr)=E
 have e6:E.get 6= .ptr H.length 0:=by rw[← hEE];simp[Tr.aa]
 have e1:E.get 1= .pv (.rp [P,i64 s.first] 0):=by rw[← hEE];simp[Tr.aa,h1]
 have e3:E.get 3= .ptr sb 0:=by rw[← hEE];simp[Tr.aa,h3]
 have e4:E.get 4= .pv (i64 prod):=by rw[← hEE];simp[Tr.aa,h4]
 have e5:E.get 5= .pv (i64 i):=by rw[← hEE];simp[Tr.aa,h5]
 clear hEE
 obtain⟨H4,fl4,g4,q0,q1,q2,q3,q4,q5,q6,q7⟩:=hin E e6
 rw[q1]
 have l64:xa H4 false 1 (.ptr H.length 0)=some (.Gc oid (n * 258) (i * 258)):=by simp[xa,q2,bh]
 have p66:∀ d,place H4 d (.Gc oid (n * 258) (i * 258))=some (.Gc oid (n * 258) (i * 258+d)):=fun d=>It q3 rfl
 have l67:=bE (off:=i * 258) q3 rfl (by omega)
 have ln:∀ K,Vb K 0 (g4 (i * 258))=some (Ek l).length:=by
  rcases q4 with⟨h,_⟩ | ⟨tk,_,h,_⟩
  ·simp at h;exact absurd h hne
  ·intro K;rw[h];simp[Vb]
 have w1:IntKind.i64.wrap ((i:Int) - 1)=(i:Int) - 1:=Ca (by omega)
 simp -implicitDefEqProofs only[SX,sevalprocAttr,NR,e6,e1,e3,e4,e5,l64,p66,l67,ln,hw,w1]
 subst hQ
 refine⟨rfl,?_,?_,?_,?_,?_,fl4,g4,q0 (Nat.le_refl _),q3,by simpa using q4,q5,fun k x hk=>by simpa using q6 k x hk⟩ <;> first | exact q7 _ _ hs3 | simp[Tr.aa,e1,e3]
end Go.AM.B1
namespace Go.AM.B1
open Go.AM Go.AM.So
abbrev Zn (w:List Nat):List Int:=w.map fun (n:Nat)=>(n:Int)
theorem FN {l:List (Int×Int)} (hl:Xc l) (x:Nat):(xf (x:Int) 0 l).2=wi l x:=by
 rw[← EG];unfold vM;rw[FC hl.2]
theorem QC:∀ (ls:List (List (Int×Int))) (w:List Nat) (k:Int),(∀ l∈ls,Xc l)→w.length=ls.length→((fh ls (Zn w) k).isSome↔∀ (j x:Nat) l,w[j]? =some x→ls[j]? =some l→wi l x=true)
 | [],w,k,_,hl=>by
   have:w=[]:=List.eq_nil_of_length_eq_zero hl
   subst this
   rw[Hq];simp
 |l::ls,[],k,_,hl=>by simp at hl
 |l::ls,y::w,k,h,hl=>by
  have hp:=h l (by simp)
  show (fh (l::ls) ((y:Int)::Zn w) k).isSome↔_
  rw[fh,FN hp]
  split
  ·next hm=>
   rw[QC ls w _ (fun x hx=>h x (by simp[hx])) (by simpa using hl)]
   constructor
   ·intro h1 j x l' hj hl'
    cases j with
    |zero=>simp at hj hl';subst hj hl';exact hm
    |succ j=>exact h1 j x l' (by simpa using hj) (by simpa using hl')
   ·intro h1 j x l' hj hl'
    exact h1 (j+1) x l' (by simpa using hj) (by simpa using hl')
  ·next hm=>
   constructor
   ·intro h1;cases h1
   ·intro h1;exact absurd (h1 0 y l rfl rfl) hm
theorem nG {s:Lb} {j x:Nat}:Ro s j x=true↔∃ l,s.parts[j]? =some l∧wi l x=true:=by
 unfold Ro
 cases s.parts[j]? <;> simp
theorem Xq {s:Lb} (h:Dd s) (w:List Nat):(Lf s (Zn w)).isSome↔Full s w:=by
 unfold Lf Full
 by_cases hl:w.length=s.parts.length
 ·rw[if_pos (by rw[List.length_map];exact hl),QC _ _ _ h.parts hl]
  unfold Wr
  constructor
  ·intro h1
   refine⟨fun j x hj=> ?_,hl⟩
   have hjl:=(List.getElem?_eq_some_iff.1 hj).1
   have hl2:s.parts[j]? =some s.parts[j]:=List.getElem?_eq_getElem (by omega)
   exact nG.2 ⟨_,hl2,h1 j x _ hj hl2⟩
  ·rintro⟨h1,_⟩ j x l hj hl2
   obtain⟨l',h3,h4⟩:=nG.1 (h1 j x hj)
   rw[hl2] at h3;injection h3 with h3;subst h3;exact h4
 ·rw[if_neg (by rw[List.length_map];exact hl)]
  constructor
  ·intro h1;cases h1
  ·intro h1;exact absurd h1.2 hl
def Fo (b:List Int):List Lb→Int→Int
 | [],m=>m
 |s::r,m=>match Lf s b with
  |some k=>if m < 0∨s.first+k < m then Fo b r (s.first+k) else Fo b r m
  |none=>Fo b r m
theorem Xp:∀ (ls:List (List (Int×Int))) (b:List Int) (k k':Int),(∀ l∈ls,Xc l)→fh ls b k=some k'→k≤k'∧k' < k+Ha ls
 | [],b,k,k',_,h=>by rw[Hq] at h;injection h with h;subst h;rw[Ha];omega
 |l::ls,[],k,k',hp,h=>by
  rw[fh] at h
  ·injection h with h;subst h
   have:=sf hp;omega
  ·intro _ _ _ _ h2 h3;cases h3
 |l::ls,y::b,k,k',hp,h=>by
  rw[fh] at h
  split at h
  ·next hc=>
   have h0:=hp l (by simp)
   have hb:=Oo (x:=y) (n:=0) h0.2 hc
   obtain⟨h1,h2⟩:=Xp ls b _ _ (fun x hx=>hp x (by simp[hx])) h
   have h3:=sf (ls:=ls) fun x hx=>hp x (by simp[hx])
   have h4:0≤(xf y 0 l).1 * Ha ls:=Int.mul_nonneg hb.1 (by omega)
   have h5:((xf y 0 l).1+1) * Ha ls≤Ac 0 l * Ha ls:=Int.mul_le_mul_of_nonneg_right (by omega) (by omega)
   rw[Int.add_mul,Int.one_mul] at h5
   rw[Ha,Int.mul_comm (Ha ls)]
   omega
  ·cases h
theorem Hw {s:Lb} (h:Dd s) {b:List Int} {k:Int} (hk:Lf s b=some k):0≤k∧s.first+k≤1073741823:=by
 unfold Lf at hk
 split at hk
 ·obtain⟨h1,h2⟩:=Xp _ _ _ _ h.parts hk
  have h3:=h.last
  rw[h.yh] at h3
  omega
 ·cases hk
theorem Pn {b:List Int}:∀ {ss:List Lb} {m:Int},(∀ s∈ss,Dd s)→ -1≤m→(-1≤Fo b ss m∧(0≤m→0≤Fo b ss m))∧(0≤Fo b ss m↔0≤m∨∃ s∈ss,(Lf s b).isSome)
 | [],m,_,hm=>⟨⟨hm,id⟩,by simp[Fo]⟩
 |s::r,m,h,hm=>by
  have hr:=fun x (hx:x∈r)=>h x (by simp[hx])
  rw[Fo]
  cases hk:Lf s b with
  |none=>
   have:=Pn (b:=b) hr hm
   refine⟨this.1,this.2.trans ?_⟩
   simp[hk]
  |some k=>
   have hb:=Hw (h s (by simp)) hk
   have hf:=(h s (by simp)).f0
   simp only
   split
   ·have:=Pn (b:=b) (m:=s.first+k) hr (by omega)
    refine⟨⟨this.1.1,fun _=>this.1.2 (by omega)⟩,this.2.trans ?_⟩
    simp[hk];omega
   ·next hc=>
    have:=Pn (b:=b) hr hm
    refine⟨this.1,this.2.trans ?_⟩
    simp[hk];omega
abbrev rD (S B:PV) (n i m:Int):Tr:=((((Tr.lf.set 17 (.pv (i64 i))).set 16 (.pv (i64 n))).set 15 (.pv S)).set 6 (.pv (i64 m))).set 1 (.pv B)
theorem JM {S:PV} {ss:List Lb} {es:List PV} (hS:eb S ss es) {B:PV} {bs:List Int} (hB:Wi B bs):
 (¬ Tb ss→Qi [.agg [S],B]=some (.mc [i64 0,i64 84]))∧
 (Tb ss→Qi [.agg [S],B]=some (.mc (if Fo bs ss (-1) < 0 then [i64 0,i64 100] else [i64 (Fo bs ss (-1)),i64 0]))):=by
 obtain⟨b,hb,hb'⟩:=Nh hS
 have hS1:(AV.pv S).one=true:=by rcases hS.is with⟨h,_⟩ | h <;> rw[h] <;> rfl
 have hB1:=hB.one
 have lA:=hS.Vb
 have hm:=hS.sz
 constructor
 ·intro hn
  have:b=false:=by cases b with | false=>rfl | true=>exact absurd (hb'.1 rfl) hn
  subst this
  simp -implicitDefEqProofs only[Qi,SX,sevalprocAttr,Ql,hS1,hB1,Nb,Ta,zc,hb,lA]
 ·intro Ba
  have:b=true:=hb'.2 Ba
  subst this
  have hloop:Gd (fun r=>∃ E H,r=(.exit 0,⟨E,H⟩)∧E.get 6= .pv (i64 (Fo bs ss (-1))))
   (ab (ga (ua (Ea (fun _=>none) 8) Fg) (fa 0 [1,6,15,16,17])) qa ⟨rD S B ss.length 0 (-1),[]⟩):=by
   refine za (wb (fun i t=>∃ m,t=⟨rD S B ss.length i m,[]⟩∧ -1≤m∧Fo bs ss (-1)=Fo bs (ss.drop i) m)
    ss.length (by unfold qa;unfold maxLen at hm;omega) _ ⟨-1,rfl,by omega,rfl⟩ ?_ ?_) (fun r h=>h.2)
   ·rintro i t hi ⟨m,rfl,hm1,hd⟩
    obtain⟨P,ps,hP,a1⟩:=hS.sd hi
    have hsk:=Ba.Xo _ (List.getElem_mem hi)
    have hrk:=ew hP hB hsk
    have hP1:=hP.Pv.1
    have e1:decide ((i:Int) < (ss.length:Int))=true:=Fa (by omega)
    have t2:=Ua hi hm
    have hdr:ss.drop i=ss[i]::ss.drop (i+1):=List.drop_eq_getElem_cons hi
    rw[hdr,Fo] at hd
    have hbd:=fun k=>Hw (b:=bs) (k:=k) hsk
    have hf0:=hsk.f0
    generalize ss[i]=s at *
    have s1:Oa [.box [.pv .ma,.pv (i64 0)]] 2 (.ptr 0 0) (.pv (.agg [P,i64 s.first]))=some [.box [.pv P,.pv (i64 s.first)]]:=vj _ _ _ _ hP1 rfl [] _ rfl
    have p1:place [.box [.pv P,.pv (i64 s.first)]] 1 (.ptr 0 0)=some (.ptr 0 1):=rfl
    have l1:xa [.box [.pv P,.pv (i64 s.first)]] false 1 (.ptr 0 1)=some (.pv (i64 s.first)):=rfl
    have l2:xa [.box [.pv P,.pv (i64 s.first)]] true 2 (.ptr 0 0)=some (.pv (.agg [P,i64 s.first])):=rfl
    generalize hQ:LN _ _ i=QQ
    cases hk:Lf s bs with
    |none=>
     have hr:=hrk.2 hk
     rw[hk] at hd
     simp -implicitDefEqProofs only[SX,sevalprocAttr,Fg,e1,t2,a1,oc,s1,l2,hr,fa,Aa,AV.cut,na,List.take_zero,pa,rD]
     subst hQ
     exact⟨m,rfl,hm1,hd⟩
    |some k=>
     have hr:=hrk.1 k hk
     have hb2:=hbd k hk
     rw[hk] at hd
     simp only at hd
     have t3:IntKind.i64.wrap (s.first+k)=s.first+k:=Ca (by omega)
     by_cases c1:m < 0
     ·have d1:decide (m < 0)=true:=Fa c1
      rw[if_pos (.inl c1)] at hd
      simp -implicitDefEqProofs only[SX,sevalprocAttr,Fg,e1,t2,t3,a1,oc,s1,l2,p1,l1,d1,hr,fa,Aa,AV.cut,na,List.take_zero,pa,rD]
      subst hQ
      exact⟨s.first+k,rfl,by omega,hd⟩
     ·have d1:decide (m < 0)=false:=Ga c1
      by_cases c2:s.first+k < m
      ·have d2:decide (s.first+k < m)=true:=Fa c2
       rw[if_pos (.inr c2)] at hd
       simp -implicitDefEqProofs only[SX,sevalprocAttr,Fg,e1,t2,t3,a1,oc,s1,l2,p1,l1,d1,d2,hr,fa,Aa,AV.cut,na,List.take_zero,pa,rD]
       subst hQ
       exact⟨s.first+k,rfl,by omega,hd⟩
      ·have d2:decide (s.first+k < m)=false:=Ga c2
       rw[if_neg (by omega)] at hd
       simp -implicitDefEqProofs only[SX,sevalprocAttr,Fg,e1,t2,t3,a1,oc,s1,l2,p1,l1,d1,d2,hr,fa,Aa,AV.cut,na,List.take_zero,pa,rD]
       subst hQ
       exact⟨m,rfl,by omega,hd⟩
   ·rintro t ⟨m,rfl,hm1,hd⟩
    rw[List.drop_length,Fo] at hd
    have e1:decide ((ss.length:Int) < (ss.length:Int))=false:=Ga (by omega)
    generalize hQ:(fun r:Ex×St=>r.1.stop=true∧_)=Q
    simp -implicitDefEqProofs only[SX,sevalprocAttr,Fg,e1,rD]
    subst hQ
    exact⟨rfl,_,_,rfl,by rw[hd];simp[Tr.aa]⟩
  have hbd:=(Pn (b:=bs) (m:= -1) Ba.Xo (by omega)).1.1
  apply Yk
  generalize Fo bs ss (-1)=d at *
  by_cases c:d < 0
  ·rw[if_pos c]
   have d1:decide (d < 0)=true:=Fa c
   simp -implicitDefEqProofs only[Qi,SX,sevalprocAttr,Ql,hS1,hB1,Nb,Ta,zc,hb,lA,xb,fa,Aa,AV.cut,na,List.take_zero,pa]
   refine za hloop ?_
   rintro r ⟨E,H,rfl,k6⟩
   simp -implicitDefEqProofs only[SX,sevalprocAttr,k6,d1]
  ·rw[if_neg c]
   have d1:decide (d < 0)=false:=Ga c
   simp -implicitDefEqProofs only[Qi,SX,sevalprocAttr,Ql,hS1,hB1,Nb,Ta,zc,hb,lA,xb,fa,Aa,AV.cut,na,List.take_zero,pa]
   refine za hloop ?_
   rintro r ⟨E,H,rfl,k6⟩
   simp -implicitDefEqProofs only[SX,sevalprocAttr,k6,d1]
end Go.AM.B1
namespace Go.AM.B1
open Go.AM Go.AM.So
def eI:Int→List (Int×Int)→Option Int
 |_,[]=>none
 |k,p::r=>if k≤p.2 - p.1 then some (p.1+k) else eI (k - (p.2 - p.1+1)) r
theorem On {top:Int}:∀ {l:List (Int×Int)} {last k:Int},Qa top last l=true→0≤k→k < Ac 0 l→∃ x,eI k l=some x∧0≤x∧x≤top∧last+1 < x∧∀ n,xf x n l=(n+k,true)
 | [],last,k,_,h0,h1=>by simp[Ac] at h1;omega
 |p::l,last,k,hv,h0,h1=>by
  obtain⟨v1,v2,v3,v4,v5⟩:=ee hv
  rw[Ac,AA] at h1
  rw[eI]
  by_cases c:k≤p.2 - p.1
  ·rw[if_pos c]
   refine⟨_,rfl,by omega,by omega,by omega,fun n=> ?_⟩
   rw[xf,if_neg (by omega),if_pos (by omega)]
   congr 1;omega
  ·rw[if_neg c]
   obtain⟨x,q1,q2,q3,q4,q5⟩:=On (k:=k - (p.2 - p.1+1)) v5 (by omega) (by omega)
   refine⟨x,q1,q2,q3,by omega,fun n=> ?_⟩
   rw[xf,if_neg (by omega),if_neg (by omega),q5]
   congr 1;omega
abbrev tO (v:PV) (n i k:Int):Tr:=(((Tr.lf.set 12 (.pv (i64 i))).set 11 (.pv (i64 n))).set 10 (.pv v)).set 1 (.pv (i64 k))
theorem lC {v:PV} {l:List (Int×Int)} (hv:Vi 2 v (Hd l)) (hw:l.length≤maxLen) (hval:Qa 255 (-2) l=true) {k:Int} (h0:0≤k) (h1:k < Ac 0 l):
 ∃ x,Tn [v,i64 k]=some (.mc [i64 x,.bool true])∧eI k l=some x:=by
 obtain⟨x,q1,_⟩:=On hval h0 h1
 refine⟨x,?_,q1⟩
 have ls:=hv.len
 simp only[Hd,List.length_map] at ls
 have hall:=Jn hval
 have hloop:Gd (fun r=>∃ E H,r=(.ret,⟨E,H⟩)∧E.get 4= .pv (i64 x)∧E.get 5= .pv (.bool true))
  (ab (ga (ua (Ea (fun _=>none) 8) nj) (fa 0 [1,10,11,12])) qa ⟨tO v l.length 0 k,[]⟩):=by
  refine za (wb (fun i t=>∃ j,t=⟨tO v l.length i j,[]⟩∧0≤j∧j≤k∧eI j (l.drop i)=some x)
   l.length (by unfold qa;unfold maxLen at hw;omega) _ ⟨k,rfl,h0,Int.le_refl _,q1⟩ ?_ ?_) (fun r h=>h.2)
  ·rintro i t hi ⟨j,rfl,hj0,hjk,hs⟩
   have hvl:=hv.lit (i:=i) (by simpa using hi)
   have hd:l.drop i=l[i]::l.drop (i+1):=List.drop_eq_getElem_cons hi
   have hp:=hall _ (List.getElem_mem hi)
   have hbig:k≤140737488355328 * 256:=by
    have:=(yo hval).2;omega
   have a1:∀ H,wa H 2 (.pv v) (i:Int)=some (.pv (.rp [i64 l[i].1,i64 l[i].2] 0)):=fun H=>by
    rw[hvl];exact Qj H hi
   rw[hd,eI] at hs
   generalize l[i]=p at *
   have e1:decide ((i:Int) < (l.length:Int))=true:=Fa (by omega)
   have t2:=Ua hi hw
   have t3:IntKind.i64.wrap (p.2 - p.1)=p.2 - p.1:=Ca (by omega)
   have s1:Oa [.box [.pv (i64 0),.pv (i64 0)]] 2 (.ptr 0 0) (.pv (.agg [i64 p.1,i64 p.2]))=some [.box [.pv (i64 p.1),.pv (i64 p.2)]]:=vj _ _ _ _ rfl rfl [] _ rfl
   have p0:∀ c,place [.box c] 0 (.ptr 0 0)=some (.ptr 0 0):=fun c=>by simp[place]
   have pp0:place [.box [.pv (i64 p.1),.pv (i64 p.2)]] 0 (.ptr 0 0)=some (.ptr 0 0):=rfl
   have pp1:place [.box [.pv (i64 p.1),.pv (i64 p.2)]] 1 (.ptr 0 0)=some (.ptr 0 1):=rfl
   have l0:xa [.box [.pv (i64 p.1),.pv (i64 p.2)]] false 1 (.ptr 0 0)=some (.pv (i64 p.1)):=rfl
   have l1:xa [.box [.pv (i64 p.1),.pv (i64 p.2)]] false 1 (.ptr 0 1)=some (.pv (i64 p.2)):=rfl
   generalize hQ:LN _ _ i=QQ
   by_cases c:j≤p.2 - p.1
   ·rw[if_pos c] at hs;injection hs with hs
    have d1:decide (j≤p.2 - p.1)=true:=Fa c
    have t4:IntKind.i64.wrap (p.1+j)=p.1+j:=Ca (by omega)
    simp -implicitDefEqProofs only[SX,sevalprocAttr,-List.reduceReplicate,nj,e1,a1,oc,s1,pp0,pp1,l0,l1,t3,t4,d1,tO]
    subst hQ
    exact⟨_,_,rfl,by rw[← hs];simp[Tr.aa],by simp[Tr.aa]⟩
   ·rw[if_neg c] at hs
    have d1:decide (j≤p.2 - p.1)=false:=Ga c
    have t4:IntKind.i64.wrap (p.2 - p.1+1)=p.2 - p.1+1:=Ca (by omega)
    have t5:IntKind.i64.wrap (j - (p.2 - p.1+1))=j - (p.2 - p.1+1):=Ca (by omega)
    simp -implicitDefEqProofs only[SX,sevalprocAttr,-List.reduceReplicate,nj,e1,t2,a1,oc,s1,pp0,pp1,l0,l1,t3,t4,t5,d1,fa,Aa,AV.cut,na,List.take_zero,pa,tO]
    subst hQ
    exact⟨_,rfl,by omega,by omega,hs⟩
  ·rintro t ⟨j,rfl,hj0,hjk,hs⟩
   rw[List.drop_length] at hs;cases hs
 obtain⟨r,g1,E,H,rfl,g4,g5⟩:=xc hloop
 have d0:decide (k < 0)=false:=Ga (by omega)
 have g1':ab (ga (ua (Ea (fun _=>none) 8) nj) (fa 0 [1,10,11,12])) qa ⟨(((Tr.lf.set 12 (.pv (.int .i64 0))).set 11 (.pv (i64 l.length))).set 10 (.pv v)).set 1 (.pv (i64 k)),[]⟩=some (.ret,⟨E,H⟩):=g1
 simp -implicitDefEqProofs only[Tn,SX,sevalprocAttr,-List.reduceReplicate,Ms,ls,xb,fa,Aa,AV.cut,pa,d0,g1',g4,g5]
theorem aA {v:PV} {l:List (Int×Int)} (hv:Gm v l) (hp:Xc l) {k:Int} (h0:0≤k) (h1:k < Ac 0 l):
 ∃ x,Xm [v,i64 k]=some (.mc [i64 x,.bool true])∧eI k l=some x:=by
 obtain⟨u,q1,q2⟩:=Yr v l hv.is hv.sz
 rw[FC hp.2] at q2
 obtain⟨x,q3,q4⟩:=lC q2 (by have:=Pq hp.2;unfold maxLen;omega) hp.2 h0 h1
 refine⟨x,?_,q4⟩
 have hv1:(AV.pv v).one=true:=by rcases hv.is with⟨h,_⟩ | h <;> rw[h] <;> rfl
 simp -implicitDefEqProofs only[Xm,SX,sevalprocAttr,-List.reduceReplicate,pq,q1,q3]
theorem zv {e:PV} {s:Lb} {P:PV} {ps:List PV} (h:pf e s P ps) (Ba:Dd s):Ml [e]=some (i64 (Ha s.parts)):=by
 obtain⟨b1,hb1,hb1'⟩:=Tl h
 have:=hb1'.2 Ba
 subst this
 have hst:=jA h Ba
 have hP1:=h.Pv.1
 have heq:=h.eq
 subst heq
 have i0:∀ H,wa H 1 (.pv (.lit 1 ((Pg s.parts).map i64))) 0=some (.pv (.rp [i64 (Ha s.parts)] 0)):=fun H=>by
  have:(Pg s.parts).map i64=i64 (Ha s.parts)::((Pg s.parts).map i64).tail:=by
   simp only[Pg,List.range_succ_eq_map,List.map_cons,List.drop_zero,List.tail_cons]
  rw[this]
  simp only[wa]
  rw[if_pos (by unfold Ia;simp)];rfl
 simp -implicitDefEqProofs only[Ml,SX,sevalprocAttr,-List.reduceReplicate,Bs,hP1,oc,hb1,hst,i0,Ta]
def Vd:List (List (Int×Int))→Int→List Int
 | [],_=>[]
 |l::r,k=>(eI (k.tdiv (Ha r)) l).getD 0::Vd r (k.tmod (Ha r))
theorem iN {k p q:Int} (h0:0≤k) (hp:1≤p) (h1:k < p * q):0≤k.tdiv p∧k.tdiv p < q∧0≤k.tmod p∧k.tmod p < p∧k.tdiv p * p+k.tmod p=k:=by
 rw[Int.tdiv_eq_ediv_of_nonneg h0,Int.tmod_eq_emod_of_nonneg h0]
 refine⟨Int.ediv_nonneg h0 (by omega),Int.ediv_lt_of_lt_mul (by omega) (by rw[Int.mul_comm];exact h1),Int.emod_nonneg _ (by omega),Int.emod_lt_of_pos _ (by omega),?_⟩
 rw[Int.mul_comm];exact Int.mul_ediv_add_emod k p
theorem mw:∀ (ls:List (List (Int×Int))) (k n:Int),(∀ l∈ls,Xc l)→0≤k→k < Ha ls→fh ls (Vd ls k) n=some (n+k)∧(Vd ls k).length=ls.length∧∀ x∈Vd ls k,0≤x∧x≤255
 | [],k,n,_,h0,h1=>by
   have:k=0:=by rw[Ha] at h1;omega
   subst this
   exact⟨by rw[Hq,Int.add_zero],rfl,by simp[Vd]⟩
 |l::r,k,n,hp,h0,h1=>by
  have hpr:=sf (ls:=r) fun x hx=>hp x (by simp[hx])
  rw[Ha] at h1
  obtain⟨d1,d2,d3,d4,d5⟩:=iN h0 hpr h1
  obtain⟨x,q1,q2,q3,_,q5⟩:=On (hp l (by simp)).2 d1 d2
  obtain⟨i1,i2,i3⟩:=mw r (k.tmod (Ha r)) (n+k.tdiv (Ha r) * Ha r) (fun x hx=>hp x (by simp[hx])) d3 d4
  rw[Vd,q1,Option.getD_some,fh,q5,if_pos rfl]
  simp only[Int.zero_add]
  rw[i1]
  refine⟨by congr 1;omega,by simp[i2],?_⟩
  intro y hy
  rcases List.mem_cons.1 hy with rfl | hy
  ·exact⟨q2,q3⟩
  ·exact i3 y hy
abbrev gP (row:List PV) (S:PV) (n i k:Int) (nl:Bool) (es:List PV):Tr:=(((((Tr.lf.set 23 (.pv (i64 i))).set 22 (.pv (i64 n))).set 21 (.pv S)).set 6 (.uq 0 nl 1 es)).set 2 (.pv (.rp row 0))).set 1 (.pv (i64 k))
theorem KM {e:PV} {s:Lb} {P:PV} {ps:List PV} (h:pf e s P ps) (Ba:Dd s) (k:Int):
 ((k < 0∨Ha s.parts≤k)→Uh [e,i64 k]=some (.mc [.ma,.bool false]))∧
 (0≤k→k < Ha s.parts→Uh [e,i64 k]=some (.mc [.lit 1 ((Vd s.parts k).map (PV.int .u8)),.bool true])):=by
 have hcn:=zv h Ba
 have hst:=jA h Ba
 have hP1:=h.Pv.1
 have heq:=h.eq
 subst heq
 have hP:=h.parts
 have h8:=Ba.hi
 constructor
 ·rintro (h1 | h1)
  ·have d1:decide (k < 0)=true:=Fa h1
   simp -implicitDefEqProofs only[Uh,SX,sevalprocAttr,-List.reduceReplicate,Jk,hP1,oc,hcn,d1]
  ·have hp:=sf Ba.parts
   have d1:decide (k < 0)=false:=Ga (by omega)
   have d2:decide (k≥Ha s.parts)=true:=Fa (by omega)
   simp -implicitDefEqProofs only[Uh,SX,sevalprocAttr,-List.reduceReplicate,Jk,hP1,oc,hcn,d1,d2]
 ·intro h0 h1
  have hsl:∀ H,ye H 1 (.pv (.lit 1 ((Pg s.parts).map i64))) (some 1) none=some (.pv (.lit 1 (((Pg s.parts).map i64).drop 1))):=fun H=>FD H (k:=1) (by omega) (by simp[Pg])
  have hdl:(((Pg s.parts).map i64).drop 1).length=s.parts.length:=by simp[Pg]
  have hde:∀ i,i < s.parts.length→(((Pg s.parts).map i64).drop 1)[i]? =some (i64 (Ha (s.parts.drop (i+1)))):=by
   intro i hi
   rw[List.getElem?_drop,List.getElem?_map,Pg,List.getElem?_map,List.getElem?_range (by omega),Nat.add_comm 1 i];rfl
  generalize ((Pg s.parts).map i64).drop 1=S at *
  have hpr:=Ba.prod.2
  have hloop:Gd (fun r=>∃ E H,r=(.exit 0,⟨E,H⟩)∧E.get 6= .uq 0 false 1 ((Vd s.parts k).map (PV.int .u8)))
   (ab (ga (ua (Ea (fun _=>none) 8) Li) (fa 1 [1,2,6,21,22,23])) qa ⟨gP [P,i64 s.first] (.lit 1 S) s.parts.length 0 k true [],[.tok 1 0 true]⟩):=by
   refine za (wb (fun i t=>∃ j nl es,t=⟨gP [P,i64 s.first] (.lit 1 S) s.parts.length i j nl (es.map (PV.int .u8)),[.tok 1 i nl]⟩∧0≤j∧j < Ha (s.parts.drop i)∧(nl=decide (i=0))∧es.length=i∧Vd s.parts k=es++Vd (s.parts.drop i) j)
    s.parts.length (by unfold qa;omega) _ ⟨k,true,[],rfl,h0,h1,rfl,rfl,rfl⟩ ?_ ?_) (fun r h=>h.2)
   ·rintro i t hi ⟨j,nl,es,rfl,hj0,hj1,hnl,hel,hs⟩
    obtain⟨v,hv,hpt,_⟩:=hP.sd hi []
    have a2:=hP.Dw hv
    have hpo:=Ba.parts s.parts[i] (List.getElem_mem hi)
    have hd:s.parts.drop i=s.parts[i]::s.parts.drop (i+1):=List.drop_eq_getElem_cons hi
    rw[hd,Ha] at hj1
    rw[hd,Vd] at hs
    have hpos:=sf (ls:=s.parts.drop (i+1)) fun x hx=>Ba.parts x (List.mem_of_mem_drop hx)
    have hle:=Rk Ba.parts (i+1)
    have hdv:=iN hj0 hpos hj1
    obtain⟨x,q1,q2⟩:=aA hpt hpo hdv.1 hdv.2.1
    obtain⟨_,q3,q4,q5,_⟩:=On hpo.2 hdv.1 hdv.2.1
    rw[q2] at q3;injection q3 with q3;subst q3
    rw[q2,Option.getD_some] at hs
    have hle2:=Rk Ba.parts i
    rw[hd,Ha] at hle2
    have t3:IntKind.i64.wrap (j.tdiv (Ha (s.parts.drop (i+1))))=j.tdiv (Ha (s.parts.drop (i+1))):=Ca (by
     have:=hdv.2.2.2.2
     have h5:j.tdiv (Ha (s.parts.drop (i+1))) * 1≤j.tdiv (Ha (s.parts.drop (i+1))) * Ha (s.parts.drop (i+1)):=Int.mul_le_mul_of_nonneg_left hpos hdv.1
     omega)
    generalize s.parts[i]=l at *
    have a1:∀ H,wa H 1 (.pv (.lit 1 S)) (i:Int)=some (.pv (.rp [i64 (Ha (s.parts.drop (i+1)))] 0)):=fun H=>by
     simp only[wa]
     rw[if_pos (by unfold Ia;simp;omega),Int.toNat_natCast,hde i hi];rfl
    have e1:decide ((i:Int) < (s.parts.length:Int))=true:=Fa (by omega)
    have t2:=Ua hi (by unfold maxLen;omega)
    have z0:(Ha (s.parts.drop (i+1))=0)=False:=by simp;omega
    have t4:IntKind.u8.wrap x=x:=wrap_u8 ⟨q4,q5⟩
    have hap:=Wo (A:=[.tok 1 i nl]) (id:=0) (n:=i) (h:= .uq) (nl:=nl) (bytes:=1) (es:=es.map (PV.int .u8)) rfl (by simp[hel]) (by unfold qb;omega) (.int .u8 x)
    rw[List.set_cons_zero] at hap
    have hbm:(es++[x]).map (PV.int .u8)=es.map (PV.int .u8)++[.int .u8 x]:=by simp
    generalize hpq:Ha (s.parts.drop (i+1))=pr at *
    generalize hQ:LN _ _ i=QQ
    simp -implicitDefEqProofs only[SP,WP,oa,sevalprocAttr,-List.reduceReplicate,Li,e1,t2,t3,t4,z0,a1,a2,Ta,Fc,Bd,q1,hap,fa,Aa,AV.cut,na,pa,gP]
    subst hQ
    exact⟨_,false,es++[x],by rw[hbm],hdv.2.2.1,by rw[hpq];exact hdv.2.2.2.1,by simp,by simp[hel],by rw[hs];simp⟩
   ·rintro t ⟨j,nl,es,rfl,hj0,hj1,hnl,hel,hs⟩
    rw[List.drop_length,Vd,List.append_nil] at hs
    have hlo:=Ba.lo
    have e1:decide ((s.parts.length:Int) < (s.parts.length:Int))=false:=Ga (by omega)
    have:nl=false:=by rw[hnl,decide_eq_false_iff_not];omega
    subst this
    generalize hQ:(fun r:Ex×St=>r.1.stop=true∧_)=Q
    simp -implicitDefEqProofs only[SX,sevalprocAttr,-List.reduceReplicate,Li,e1,gP]
    subst hQ
    exact⟨rfl,_,_,rfl,by rw[hs];simp[Tr.aa]⟩
  obtain⟨r,g1,E,H,rfl,g6⟩:=xc hloop
  have g1':ab (ga (ua (Ea (fun _=>none) 8) Li) (fa 1 [1,2,6,21,22,23])) qa ⟨(((((Tr.lf.set 23 (.pv (.int .i64 0))).set 22 (.pv (i64 s.parts.length))).set 21 (.pv (.lit 1 S))).set 6 (.uq 0 true 1 [])).set 2 (.pv (.rp [P,i64 s.first] 0))).set 1 (.pv (i64 k)),[.tok 1 0 true]⟩=some (.exit 0,⟨E,H⟩):=g1
  have d1:decide (k < 0)=false:=Ga (by omega)
  have d2:decide (k≥Ha s.parts)=false:=Ga (by omega)
  have hz:(0 < 1)=True:=by simp
  simp -implicitDefEqProofs only[Uh,SX,sevalprocAttr,-List.reduceReplicate,Jk,hP1,oc,hcn,d1,d2,hst,hsl,hdl,Be,hz,xb,fa,Aa,AV.cut,na,pa,g1',g6]
end Go.AM.B1
namespace Go.AM.B1
open Go.AM Go.AM.So
def Tu (l:List (Int×Int)) (x:Nat):PV:= .int .u16 (if (xf (x:Int) 0 l).2 then (xf (x:Int) 0 l).1+1 else 0)
def qp (l:List (Int×Int)):PV:= .lit 1 ((Ek l).map eZ)
def GH (ls:List (List (Int×Int))) (c:Nat):PV:=
 if c % 258=0 then qp (ls.getD (c / 258) []) else if c % 258=257 then i64 (Ha (ls.drop (c / 258+1))) else Tu (ls.getD (c / 258) []) (c % 258 - 1)
def zI (ls:List (List (Int×Int))) (i:Nat):PV:= .agg ((List.range 258).map fun k=>GH ls (i * 258+k))
def Ni (ls:List (List (Int×Int))):PV:= .rp [.lit 258 ((List.range ls.length).map (zI ls))] 0
def XH (ls:List (List (Int×Int))) (g:Nat→AV) (i:Nat):Prop:=
 (∃ tk,g (i * 258)= .uq tk false 1 ((Ek (ls.getD i [])).map eZ))∧(∀ y:Nat,y < 256→g (i * 258+1+y)= .pv (Tu (ls.getD i []) y))∧g (i * 258+257)= .pv (i64 (Ha (ls.drop (i+1))))
def vI (g:Nat→AV) (i:Nat):Prop:=g (i * 258)= .pv .ma∧∀ y:Nat,y < 256→g (i * 258+1+y)= .pv (.int .u16 0)
theorem MO {l:List (Int×Int)} (h:Xc l):Ek l≠[]:=by
 intro e
 have h1:=Ry 0 h.2
 rw[e] at h1
 have:=(Ah h).1
 simp at h1;omega
theorem vS {l:List (Int×Int)} (h:Xc l):(Ek l).length≤256:=by
 have h1:=Ry 0 h.2
 have:=(Ah h).2
 omega
theorem Iz {l:List (Int×Int)} (h:Xc l):∀ x∈Ek l,0≤x∧x≤255:=by
 intro x hx
 obtain⟨k,hk,rfl⟩:=List.getElem_of_mem hx
 have:=au (n:=0) h.2 (List.getElem?_eq_getElem hk)
 exact⟨this.2.1,this.2.2.1⟩
theorem TM {l:List (Int×Int)} (h:Xc l):(Ek l).Nodup:=by
 unfold List.Nodup
 rw[List.pairwise_iff_getElem]
 intro i j hi hj hij e
 have h1:=(au (n:=0) h.2 (List.getElem?_eq_getElem hi)).1
 have h2:=(au (n:=0) h.2 (List.getElem?_eq_getElem hj)).1
 rw[e,h2] at h1
 injection h1 with h1 _
 omega
theorem mM {l:List (Int×Int)} (h:Xc l) {k:Nat} {x:Int} (hk:(Ek l)[k]? =some x):Tu l x.toNat= .int .u16 ((k:Nat)+1):=by
 obtain⟨h1,h2,_⟩:=au (n:=0) h.2 hk
 unfold Tu
 rw[Int.toNat_of_nonneg h2,h1]
 simp
theorem HM {l:List (Int×Int)} (h:Xc l) {y:Nat} (hy:(y:Int) ∉ Ek l):Tu l y= .int .u16 0:=by
 unfold Tu
 rw[if_neg]
 intro hr
 obtain⟨k,h1,_⟩:=bn h.2 hr
 exact hy (List.mem_of_getElem? h1)
theorem CX (z:List PV) (n:Nat):(Dk z n).length=n * z.length:=by
 induction n with
 |zero=>simp[Dk]
 |succ n ih=>rw[Dk,List.length_append,List.length_map,ih,Nat.add_mul];omega
theorem eO {z:List PV}:∀ {n i k:Nat} {v:PV},i < n→z[k]? =some v→(Dk z n)[i * z.length+k]? =some (.pv v)
 |n+1,0,k,v,_,hk=>by
  have:k < z.length:=getElem?_lt hk
  rw[Dk,Nat.zero_mul,Nat.zero_add,List.getElem?_append_left (by simpa using this),List.getElem?_map,hk];rfl
 |n+1,i+1,k,v,hi,hk=>by
  rw[Dk,List.getElem?_append_right (by rw[List.length_map,Nat.add_mul];omega),List.length_map,Nat.add_mul,show i * z.length+1 * z.length+k - z.length=i * z.length+k by omega]
  exact eO (by omega) hk
theorem kI (c:List AV):c=cellsOf c.length (fun j=>c.getD j .undef):=by
 apply List.ext_getElem?
 intro j
 by_cases hj:j < c.length
 ·rw[Kr _ hj,List.getD_eq_getElem?_getD,List.getElem?_eq_getElem hj];rfl
 ·rw[List.getElem?_eq_none (by omega),List.getElem?_eq_none (by rw[pg];omega)]
theorem qN {H:List ba} {d:Nat} {f:Nat→PV}:∀ {n:Nat} {g:Nat→AV},(∀ c,c < n→dc H d (g c)=some (f c))→Ra (dc H d) (cellsOf n g)=some ((List.range n).map f):=by
 have key:∀ (l:List Nat) (g:Nat→AV),(∀ c∈l,dc H d (g c)=some (f c))→Ra (dc H d) (l.map g)=some (l.map f):=by
  intro l g
  induction l with
  |nil=>intro _;rfl
  |cons a l ih=>intro h;rw[List.map_cons,Ra,h a (by simp),Option.bind_some,ih fun c hc=>h c (by simp[hc])];rfl
 intro n g h
 exact key (List.range n) g fun c hc=>h c (List.mem_range.1 hc)
theorem WL {f:Nat→PV} (a n:Nat):(List.range' a n).map f=(List.range n).map fun k=>f (a+k):=by
 rw[List.range'_eq_map_range,List.map_map];rfl
theorem xB {f:Nat→PV} (sz:Nat):∀ (n a:Nat),chunk sz true n ((List.range' a (n * sz)).map f)=(List.range n).map fun i=> .agg ((List.range sz).map fun k=>f (a+(i * sz+k)))
 |0,a=>by simp[chunk]
 |n+1,a=>by
  have e:List.range' a ((n+1) * sz)=List.range' a sz++List.range' (a+sz) (n * sz):=by
   rw[Nat.add_mul,Nat.one_mul,Nat.add_comm,List.range'_append_1]
  have hl:((List.range' a sz).map f).length=sz:=by simp
  rw[e,List.map_append,chunk,if_pos rfl,List.take_left' hl,List.drop_left' hl,xB sz n,List.range_succ_eq_map,List.map_cons,List.map_map,WL]
  congr 1
  ·congr 1;apply List.map_congr_left;intro k _;congr 1;omega
  ·apply List.map_congr_left;intro i _
   simp only[Function.comp]
   congr 1;apply List.map_congr_left;intro k _;congr 1
   rw[Nat.succ_mul];omega
end Go.AM.B1
namespace Go.AM.B1
open Go.AM Go.AM.So
theorem gn {e:Tr} {t:Nat}:∀ {l:List Nat},t∈l→(Bc e l).get t=e.get t
 |a::l,h=>by
  rw[Bc,Tr.aa]
  by_cases ht:t=a
  ·rw[if_pos ht,ht]
  ·rw[if_neg ht]
   rcases List.mem_cons.1 h with h | h
   ·exact absurd h ht
   ·exact gn h
theorem sX {E0:Tr} {H0:List ba} {s:Lb} {P:PV} {ps:List PV} {sb oid:Nat} {g0:Nat→AV} (hp:rf P s.parts ps) (Ba:Dd s)
 (h1:E0.get 1= .pv (.rp [P,i64 s.first] 0)) (h3:E0.get 3= .ptr sb 0) (h4:E0.get 4= .pv (i64 1)) (h5:E0.get 5= .pv (i64 ((s.parts.length:Int) - 1))) (hs:H0[sb]? =some (.box [.own oid s.parts.length]))
 (ho:H0[oid]? =some (.seq 258 true (cellsOf (s.parts.length * 258) g0) 0 false)) (hz:∀ j,j < s.parts.length→vI g0 j):
 Gd (fun r=>∃ E H,r=(.exit 0,⟨E,H⟩)∧E.get 3= .ptr sb 0∧H[sb]? =some (.box [.own oid s.parts.length])∧∃ fl g,H[oid]? =some (.seq 258 true (cellsOf (s.parts.length * 258) g) fl false)∧∀ j,j < s.parts.length→XH s.parts g j)
  (ua (Ea Vg 8) (.Lp [1,2,3,4,5] Hk) ⟨E0,H0⟩):=by
 rw[Tp]
 have h8:=Ba.hi
 have hpr:=Ba.prod.2
 refine za (wb (fun r t=>t.env.get 1= .pv (.rp [P,i64 s.first] 0)∧t.env.get 3= .ptr sb 0∧t.env.get 4= .pv (i64 (Ha (s.parts.drop (s.parts.length - r))))∧t.env.get 5= .pv (i64 ((s.parts.length:Int) - 1 - r))∧t.H[sb]? =some (.box [.own oid s.parts.length])∧
  ∃ fl g,fl≤s.parts.length * 258∧t.H[oid]? =some (.seq 258 true (cellsOf (s.parts.length * 258) g) fl false)∧(∀ j,s.parts.length - r≤j→j < s.parts.length→XH s.parts g j)∧∀ j,j < s.parts.length - r→vI g j)
  s.parts.length (by unfold qa;omega) _ ?_ ?_ ?_) (fun r h=>h.2)
 ·refine⟨?_,?_,?_,?_,hs,0,g0,by omega,ho,fun j a b=>by omega,fun j hj=>hz j (by omega)⟩
  ·simp only[tidy];rw[gn (by simp),h1]
  ·simp only[tidy];rw[gn (by simp),h3]
  ·simp only[tidy];rw[gn (by simp),h4,Nat.sub_zero,List.drop_length];rfl
  ·simp only[tidy];rw[gn (by simp),h5];simp
 ·rintro r ⟨E,H⟩ hr ⟨g1,g3,g4,g5,gs,fl,g,hfl,go,hd,hz⟩
  obtain⟨i,hi⟩:∃ i,i=s.parts.length - 1 - r:=⟨_,rfl⟩
  have hil:i < s.parts.length:=by omega
  have hpo:=Ba.parts s.parts[i] (List.getElem_mem hil)
  have hdr:s.parts.drop i=s.parts[i]::s.parts.drop (i+1):=List.drop_eq_getElem_cons hil
  have hpd:Ha (s.parts.drop i)=Ha (s.parts.drop (i+1)) * Ac 0 s.parts[i]:=by rw[hdr,Ha]
  have hle:=Rk Ba.parts i
  have hpos:=sf (ls:=s.parts.drop i) fun x hx=>Ba.parts x (List.mem_of_mem_drop hx)
  have hsz:=Ry 0 hpo.2
  rw[Int.zero_add] at hsz
  rw[show s.parts.length - r=i+1 by omega] at g4 hd hz
  have hcol:=iQ (e:=E) (H:=H) hp hil hpo g1 g3 g4 (by rw[g5];congr 2;omega) gs go (hz i (by omega)).1 (by rw[← hsz,←hpd];exact Ca (by omega)) (TM hpo) (vS hpo) (Iz hpo) (MO hpo) hfl (by omega)
  rw[ga,ez]
  refine za hcol ?_
  rintro⟨ex,E',H'⟩ ⟨rfl,q1,q3,q4,q5,qs,fl',g',qfl,qo,qB,qg,qw⟩
  have hgd:s.parts.getD i []=s.parts[i]:=by rw[List.getD_eq_getElem?_getD,List.getElem?_eq_getElem hil];rfl
  have hother:∀ j k,j≠i→k < 258→g' (j * 258+k)=g (j * 258+k):=by
   intro j k hj hk
   rw[qg _ (by omega) (fun x hx=>by have:=Iz hpo x hx;omega),Mu _ _ (by omega)]
  refine⟨?_,?_,?_,?_,qs,fl',g',qfl,qo,?_,?_⟩
  ·simp only[tidy];rw[gn (by simp)];exact q1
  ·simp only[tidy];rw[gn (by simp)];exact q3
  ·simp only[tidy];rw[gn (by simp),q4,show s.parts.length - (r+1)=i by omega,hpd,hsz]
  ·simp only[tidy];rw[gn (by simp),q5];congr 2;omega
  ·intro j hj1 hj2
   by_cases hji:j=i
   ·subst hji
    refine⟨?_,fun y hy=> ?_,?_⟩
    ·rcases qB with⟨h,_⟩ | ⟨tk,_,h,_⟩
     ·simp at h;exact absurd h (MO hpo)
     ·exact⟨tk,by rw[hgd];exact h⟩
    ·rw[hgd]
     by_cases hm:(y:Int)∈Ek s.parts[j]
     ·obtain⟨k,hk⟩:=List.mem_iff_getElem?.1 hm
      have:=qw k y hk
      rw[Int.toNat_natCast] at this
      rw[this,←mM hpo hk,Int.toNat_natCast]
     ·rw[HM hpo hm,qg _ (by omega) (fun x hx=>by
       intro e
       have:=Iz hpo x hx
       have:x=(y:Int):=by omega
       exact hm (this ▸ hx)),Mu _ _ (by omega)]
      exact (hz j (by omega)).2 y hy
    ·rw[qg _ (by omega) (fun x hx=>by have:=Iz hpo x hx;omega),Xt]
   ·obtain⟨⟨tk,a1⟩,a2,a3⟩:=hd j (by omega) hj2
    refine⟨⟨tk,?_⟩,fun y hy=> ?_,?_⟩
    ·have:=hother j 0 hji (by omega);rw[Nat.add_zero] at this;rw[this];exact a1
    ·have:=hother j (1+y) hji (by omega);rw[← Nat.add_assoc] at this;rw[this];exact a2 y hy
    ·rw[hother j 257 hji (by omega)];exact a3
  ·intro j hj
   have hji:j≠i:=by omega
   obtain⟨a1,a2⟩:=hz j (by omega)
   refine⟨?_,fun y hy=> ?_⟩
   ·have:=hother j 0 hji (by omega);rw[Nat.add_zero] at this;rw[this];exact a1
   ·have:=hother j (1+y) hji (by omega);rw[← Nat.add_assoc] at this;rw[this];exact a2 y hy
 ·rintro⟨E,H⟩ ⟨g1,g3,g4,g5,gs,fl,g,hfl,go,hd,hz⟩
  have e1:decide ((s.parts.length:Int) - 1 - s.parts.length≥0)=false:=Ga (by omega)
  generalize hQ:(fun r:Ex×St=>r.1.stop=true∧_)=Q
  simp -implicitDefEqProofs only[SX,sevalprocAttr,-List.reduceReplicate,Hk,g5,e1]
  subst hQ
  exact⟨rfl,_,_,rfl,by simp[Tr.aa,g3],gs,fl,g,go,fun j hj=>hd j (by omega) hj⟩
theorem DF {e:PV} {s:Lb} {P:PV} {ps:List PV} (h:pf e s P ps) (Ba:Dd s):yr [e]=some (Ni s.parts):=by
 obtain⟨hP1,hP2⟩:=h.Pv
 have heq:=h.eq
 subst heq
 have hP:=h.parts
 have lP:=hP.Vb
 have h8:=Ba.hi
 generalize hzr:([PV.ma]++List.replicate 256 (PV.int .u16 0)++[PV.int .i64 0])=zr
 have sT:zr.length=258:=by rw[← hzr];simp[-List.reduceReplicate]
 have hzg:∀ i k v,i < s.parts.length→zr[k]? =some v→(Dk zr s.parts.length).getD (i * 258+k) .undef= .pv v:=by
  intro i k v hi hk
  rw[List.getD_eq_getElem?_getD,←sT,eO hi hk];rfl
 have hcz:∀ j,j < s.parts.length→vI (fun c=>(Dk zr s.parts.length).getD c .undef) j:=by
  intro j hj
  refine⟨by have:=hzg j 0 .ma hj (by rw[← hzr];rfl);rw[Nat.add_zero] at this;exact this,fun y hy=> ?_⟩
  show (Dk zr s.parts.length).getD (j * 258+1+y) .undef=_
  rw[Nat.add_assoc]
  refine hzg j (1+y) _ hj ?_
  rw[← hzr,List.getElem?_append_left (by simp[-List.reduceReplicate];omega),List.getElem?_append_right (by simp[-List.reduceReplicate]),List.getElem?_replicate]
  rw[if_pos (by simp[-List.reduceReplicate];omega)]
 have hcell:Dk zr s.parts.length=cellsOf (s.parts.length * 258) (fun c=>(Dk zr s.parts.length).getD c .undef):=by
  have:=kI (Dk zr s.parts.length)
  rw[CX,sT] at this
  exact this
 generalize (fun c=>(Dk zr s.parts.length).getD c AV.undef)=g0 at *
 have r0:∀ H (x y:PV),xa H false 1 (.pv (.rp [x,y] 0))=some (.pv x):=fun H x y=>rfl
 have q0:∀ H (x y:PV),place H 0 (.pv (.rp [x,y] 0))=some (.pv (.rp [x,y] 0)):=fun H x y=>rfl
 have e2:(0≤(s.parts.length:Int))=True:=by simp
 have e3:((s.parts.length:Int)≤(s.parts.length:Int))=True:=by simp
 have e4:qb s.parts.length 544:=by unfold qb;omega
 have t1:IntKind.i64.wrap ((s.parts.length:Int) - 1)=(s.parts.length:Int) - 1:=Ca (by omega)
 have m1:Np ([PV.ma].map .pv) [(0,1,AV.own 0 s.parts.length)]=some [AV.own 0 s.parts.length]:=rfl
 have m2:Ir [AV.own 0 s.parts.length]= .agg [AV.own 0 s.parts.length]:=rfl
 have m3:(([AV.own 0 s.parts.length]:List AV).length=1∧([AV.own 0 s.parts.length]:List AV).all AV.one=true)=True:=by simp[AV.one]
 have hlp:=fun (E:Tr) (a1:E.get 1= .pv (.rp [P,i64 s.first] 0)) (a3:E.get 3= .ptr 1 0) (a4:E.get 4= .pv (i64 1)) (a5:E.get 5= .pv (i64 ((s.parts.length:Int) - 1)))=>
  sX (E0:=E) (H0:=[.seq 258 true (cellsOf (s.parts.length * 258) g0) 0 false,.box [.own 0 s.parts.length]]) hP Ba a1 a3 a4 a5 (sb:=1) (oid:=0) rfl rfl hcz
 have p1:∀ A B,place [A,.box B] 0 (.ptr 1 0)=some (.ptr 1 0):=fun A B=>rfl
 have l1:∀ A b,xa [A,.box [b]] false 1 (.ptr 1 0)=some b:=fun A b=>rfl
 have hw:Qh 258 s.parts.length 0 (cellsOf (s.parts.length * 258) g0).length:=⟨Nat.zero_le _,by rw[pg];exact Nat.le_refl _⟩
 have ln:Vb [.seq 258 true (cellsOf (s.parts.length * 258) g0) 0 false,.box [.own 0 s.parts.length]] 0 (.own 0 s.parts.length)=some s.parts.length:=by
  simp only[Vb,List.getElem?_cons_zero,if_pos hw]
 have hfin:∀ (H:List ba) (fl:Nat) (g:Nat→AV),H[1]? =some (.box [.own 0 s.parts.length])→H[0]? =some (.seq 258 true (cellsOf (s.parts.length * 258) g) fl false)→(∀ j,j < s.parts.length→XH s.parts g j)→dc H 6 (.ptr 1 0)=some (Ni s.parts):=by
  intro H fl g h1 h0 hd
  have hm:Ra (dc H 4) (cellsOf (s.parts.length * 258) g)=some ((List.range (s.parts.length * 258)).map (GH s.parts)):=by
   refine qN fun c hc=> ?_
   obtain⟨⟨tk,a1⟩,a2,a3⟩:=hd (c / 258) (by omega)
   unfold GH
   by_cases k0:c % 258=0
   ·rw[if_pos k0,show c=c / 258 * 258 by omega,a1,show c / 258 * 258 / 258=c / 258 by omega];rfl
   ·rw[if_neg k0]
    by_cases k1:c % 258=257
    ·rw[if_pos k1]
     have e:g c=g (c / 258 * 258+257):=by congr 1;omega
     rw[e,a3];rfl
    ·rw[if_neg k1]
     have e:g c=g (c / 258 * 258+1+(c % 258 - 1)):=by congr 1;omega
     rw[e,a2 _ (by omega)];rfl
  have hc2:s.parts.length * 258=(cellsOf (s.parts.length * 258) g).length∧(true||(258:Nat)==1)=true:=⟨(pg _ _).symm,rfl⟩
  have h5:dc H 5 (.own 0 s.parts.length)=some (.lit 258 ((List.range s.parts.length).map (zI s.parts))):=by
   simp only[dc,h0,if_pos hc2,Bool.false_eq_true,if_false,hm,Option.map_some,List.range_eq_range' (n:=s.parts.length * 258),xB,Nat.zero_add]
   rfl
  show (match H[1]? with | some (.box cells)=>(Ra (dc H 5) cells).map fun ps=>PV.rp ps 0 | _=>none)=_
  rw[h1]
  simp only[Ra,h5,Option.bind_some,Option.map_some]
  rfl
 have hzr':PV.ma::(List.replicate 256 (PV.int .u16 0)++[PV.int .i64 0])=zr:=hzr
 have m4:oa [AV.pv PV.ma] 0 [AV.own 0 s.parts.length]=[AV.own 0 s.parts.length]:=rfl
 have m5:ve [AV.own 0 s.parts.length]=none:=rfl
 have m6:[AV.own 0 s.parts.length].all AV.one=true:=rfl
 simp -implicitDefEqProofs only[yr,SX,sevalprocAttr,-List.reduceReplicate,ir,hP1,r0,q0,lP,e2,e3,eq_true e4,hzr',hcell,m4,m5,m6,p1,l1,ln,t1]
 generalize hEE:(Tr.set _ 5 _:Tr)=E
 have a1:E.get 1= .pv (.rp [P,i64 s.first] 0):=by rw[← hEE];simp[Tr.aa]
 have a3:E.get 3= .ptr 1 0:=by rw[← hEE];simp[Tr.aa]
 have a4:E.get 4= .pv (i64 1):=by rw[← hEE];simp[Tr.aa]
 have a5:E.get 5= .pv (i64 ((s.parts.length:Int) - 1)):=by rw[← hEE];simp[Tr.aa]
 obtain⟨r,h1,E',H',rfl,q3,q1,fl,g,q4,q5⟩:=xc (hlp E a1 a3 a4 a5)
 rw[h1]
 have h9:=hfin H' fl g q1 q4 q5
 simp -implicitDefEqProofs only[SX,sevalprocAttr,-List.reduceReplicate,q3,h9]
end Go.AM.B1
namespace Go.AM.B1
open Go.AM Go.AM.So
section
variable {call:Wa} {o0 o1 o4 o5:ba} {c0 c1 c3 c4 c5:AV}
 (hg:∀ nl es,Gg (Uv o0 o1 o4 o5 c0 c1 c3 c4 c5 nl es))
include hg
theorem QV {E:Tr} {V:PV} {l:List (List ze)} (hV:Vi 1 V (l.map Wd)) (hl:l.length≤64) (hle:∀ e∈l,e.length≤256) (Ba:∀ e∈l,Ej e)
 (h8:E.get 8= .ptr 2 0) (h101:E.get 101= .pv V) (h102:E.get 102= .pv (i64 l.length)) (h103:E.get 103= .pv (i64 0)):
 Gd (fun r=>r.1.stop=true∧∃ E' nl,r=(.exit 2,⟨E',Uv o0 o1 o4 o5 c0 c1 c3 c4 c5 nl (l.map zn)⟩)∧E'.get 8= .ptr 2 0∧(nl=true→l=[]))
  (ua call (.loop [8,101,102,103] Rh) ⟨E,Uv o0 o1 o4 o5 c0 c1 c3 c4 c5 true []⟩):=by
 have hgl:∀ nl es,(Uv o0 o1 o4 o5 c0 c1 c3 c4 c5 nl es).length=6:=fun _ _=>rfl
 have hgd:∀ nl es,∀ o∈Uv o0 o1 o4 o5 c0 c1 c3 c4 c5 nl es,na 6 o=some o:=fun nl es o ho=>hg nl es 6 (by rw[hgl];exact Nat.le_refl _) o ho
 have hcut:Fit 6 [8,101,102] E:= .cons h8 (Ru (by omega)) (.cons h101 Ma (.cons h102 Ma (.nil _ _)))
 refine Qn (fun i t=>Td [8,101,102] E t.env∧t.env.get 103= .pv (i64 i)∧∃ nl,t.H=Uv o0 o1 o4 o5 c0 c1 c3 c4 c5 nl ((l.take i).map zn)∧(nl=true→i=0)) l.length (by unfold qa;omega) ?_ ?_ ?_
 ·rw[hgl]
  exact Tg.all rfl (hgd _ _) (Fit.sub (.cons h103 Ma hcut) rfl) fun E' hE=>⟨Td.sub hE rfl,by rw[hE 103 (by simp),h103];rfl,true,rfl,fun _=>rfl⟩
 ·rintro i ⟨E1,H1⟩ hi ⟨k1,k2,nl,k3,k4⟩
  simp only at k1 k2 k3
  subst k3
  refine za (iT (call:=call) hg hV hl hle Ba hi (by simp;omega) ((k1 8 (by simp)).trans h8) ((k1 101 (by simp)).trans h101) ((k1 102 (by simp)).trans h102) k2) ?_
  rintro r ⟨E2,rfl,k5,k6⟩
  rw[Xl,hgl]
  have hnx:(l.take (i+1)).map zn=(l.take i).map zn++[zn l[i]]:=by rw[List.take_succ_eq_append_getElem hi,List.map_append];rfl
  exact Tg.front (hgl _ _).symm (hgd _ _) (Fit.sub (.cons k6 Ma (hcut.Je (k1.trans k5))) rfl) fun E' hE=>⟨(k1.trans k5).trans (Td.sub hE rfl),by rw[hE 103 (by simp),k6],false,by rw[hnx],fun h=>by cases h⟩
 ·rintro⟨E1,H1⟩ ⟨k1,k2,nl,k3,k4⟩
  simp only at k1 k2 k3
  subst k3
  have g102:=(k1 102 (by simp)).trans h102
  have e1:decide ((l.length:Int) < (l.length:Int))=false:=Ga (by omega)
  rw[List.take_length]
  generalize hQ:(fun r:Ex×St=>r.1.stop=true∧_)=Q
  simp -implicitDefEqProofs only[SX,sevalprocAttr,-List.reduceReplicate,Rh,k2,g102,e1]
  subst hQ
  exact⟨rfl,_,nl,rfl,by rw[Tr.aa,if_neg (by decide)];exact (k1 8 (by simp)).trans h8,fun h=>List.eq_nil_of_length_eq_zero (k4 h)⟩
end
def Gv (s:Lb) (i:Nat):List Int:=[s.first,s.first+Ha s.parts - 1,(i:Int)]
def Ki (ss:List Lb) (n:Nat):List (List Int):=(List.range n).map fun j=>Gv (ss.getD j ⟨[],0⟩) j
theorem VM (ss:List Lb) {n:Nat} (h:n < ss.length):Ki ss (n+1)=Ki ss n++[Gv ss[n] n]:=by
 unfold Ki
 rw[List.range_succ,List.map_append,List.map_cons,List.map_nil,List.getD_eq_getElem?_getD,List.getElem?_eq_getElem h];rfl
theorem gq (ss:List Lb) (n:Nat):(Ki ss n).length=n:=by simp[Ki]
theorem Xw {ss:List Lb} {n:Nat} {r:List Int} (h:r∈Ki ss n):r.length=3:=by
 unfold Ki at h
 obtain⟨j,_,rfl⟩:=List.mem_map.1 h
 rfl
theorem Vw:∀ {D:List (List Int)},(∀ r∈D,r.length=3)→D.flatten.length=D.length * 3
 | [],_=>rfl
 |r::D,h=>by rw[List.flatten_cons,List.length_append,h r (by simp),Vw fun x hx=>h x (by simp[hx]),List.length_cons];omega
def Xe (ss:List Lb):Nat:=ss.foldl (fun m s=>if s.parts.length > m then s.parts.length else m) 0
def Gx (o0 o1 o3:ba) (c0 c1 c2:AV) (nl:Bool) (ds:List PV) (D:List (List Int)) (fl:Nat) (nr:Bool) (m:Int):List ba:=
 [o0,o1,.box [c0,c1,c2,.uq 4 nl 1 ds,.own 5 D.length,.pv (i64 m)],o3,.tok 1 ds.length nl,.seq 3 true (Hf D.flatten) fl nr]
section
variable {call:Wa} {o0 o1 o3:ba} {c0 c1 c2:AV}
theorem AS {E:Tr} {S:PV} {ss:List Lb} {es:List PV} {i:Nat} {nl nr:Bool} {fl:Nat} {ds:List PV} {D:List (List Int)} {m:Nat} (hS:eb S ss es) (Ba:Tb ss) (hi:i < ss.length) (hds:ds.length=i) (hD:D.length=i) (hDr:∀ r∈D,r.length=3) (hm:m≤8)
 (h4:E.get 4= .ptr 0 0) (h8:E.get 8= .ptr 2 0) (h46:E.get 46= .pv S) (h47:E.get 47= .pv (i64 ss.length)) (h48:E.get 48= .pv (i64 i)):
 Gd (fun r=>∃ E' T,r=(.norm,⟨E',Gx o0 o1 o3 c0 c1 c2 false (ds++[Ni ss[i].parts]) (D++[Gv ss[i] i]) fl false (if ss[i].parts.length > m then ss[i].parts.length else m:Nat)++T⟩)∧Td [4,8,46,47] E E'∧E'.get 48= .pv (i64 (i+1:Nat)))
  (ua call Yh ⟨E,Gx o0 o1 o3 c0 c1 c2 nl ds D fl nr m⟩):=by
 obtain⟨P,ps,hsh,a1⟩:=hS.sd hi
 have hs:=Ba.Xo _ (List.getElem_mem hi)
 have h32:=Ba.len
 have hcn:=zv hsh hs
 have hdg:=DF hsh hs
 have hpo:=sf hs.parts
 have hpr:=hs.prod.2
 have hlt:=hs.yh
 have hl1:=hs.last
 have hf0:=hs.f0
 have hf1:=hs.f1
 have h88:=hs.hi
 have lP:=hsh.parts.Vb
 have hP1:=hsh.Pv.1
 have hDl:=Vw hDr
 generalize ss[i]=s at *
 have e1:decide ((i:Int) < (ss.length:Int))=true:=Fa (by omega)
 have t1:IntKind.i64.wrap ((i:Int)+1)=((i+1:Nat):Int):=ym (by omega)
 have t2:IntKind.i64.wrap (s.first+Ha s.parts)=s.first+Ha s.parts:=Ca (by omega)
 have t3:IntKind.i64.wrap (s.first+Ha s.parts - 1)=s.first+Ha s.parts - 1:=Ca (by omega)
 have r2:∀ H (x y:PV),xa H true 2 (.pv (.rp [x,y] 0))=some (.pv (.agg [x,y])):=fun H x y=>rfl
 obtain⟨b10,hb10⟩:∃ b,b=ba.box [.pv P,.pv (i64 s.first)]:=⟨_,rfl⟩
 have hH0:(Gx o0 o1 o3 c0 c1 c2 nl ds D fl nr m).length=6:=rfl
 have s1:Oa (Gx o0 o1 o3 c0 c1 c2 nl ds D fl nr m++[.box [.pv .ma,.pv (i64 0)]]) 2 (.ptr 6 0) (.pv (.agg [P,i64 s.first]))=some (Gx o0 o1 o3 c0 c1 c2 nl ds D fl nr m++[b10]):=by
  rw[hb10]
  exact vj (.pv .ma) (.pv (i64 0)) (.pv P) (.pv (i64 s.first)) hP1 rfl (Gx o0 o1 o3 c0 c1 c2 nl ds D fl nr m) _ rfl
 have p1:∀ d,place (Gx o0 o1 o3 c0 c1 c2 nl ds D fl nr m++[b10]) d (.ptr 2 0)=some (.ptr 2 (0+d)):=fun d=>ng rfl d 0
 have q1:∀ d,place (Gx o0 o1 o3 c0 c1 c2 nl ds D fl nr m++[b10]) d (.ptr 6 0)=some (.ptr 6 (0+d)):=fun d=>ng (by rw[hb10];rfl) d 0
 have l1:xa (Gx o0 o1 o3 c0 c1 c2 nl ds D fl nr m++[b10]) false 1 (.ptr 2 4)=some (.own 5 D.length):=rfl
 have l2:xa (Gx o0 o1 o3 c0 c1 c2 nl ds D fl nr m++[b10]) false 1 (.ptr 6 1)=some (.pv (i64 s.first)):=by rw[hb10];rfl
 have l3:xa (Gx o0 o1 o3 c0 c1 c2 nl ds D fl nr m++[b10]) true 2 (.ptr 6 0)=some (.pv (.agg [P,i64 s.first])):=by rw[hb10];rfl
 obtain⟨H2,hH2⟩:∃ H,H=[o0,o1,.box [c0,c1,c2,.uq 4 nl 1 ds,.own 5 D.length,.pv (i64 m)],o3,.tok 1 ds.length nl,.seq 3 true (Hf (D++[Gv s i]).flatten) fl false,b10]:=⟨_,rfl⟩
 have ap1:Yb (Gx o0 o1 o3 c0 c1 c2 nl ds D fl nr m++[b10]) true .own 3 true 24 (.own 5 D.length) (.pv (.lit 3 [.agg [i64 s.first,i64 (s.first+Ha s.parts - 1),i64 i]]))=some (.own 5 (D.length+1),H2):=by
  rw[hH2]
  have hc:Hf D.flatten++[AV.pv (i64 s.first),.pv (i64 (s.first+Ha s.parts - 1)),.pv (i64 i)]=Hf (D++[Gv s i]).flatten:=by
   rw[List.flatten_append];simp[Hf,Gv]
  simp only[Yb,Gx,List.cons_append,List.nil_append,List.getElem?_cons_succ,List.getElem?_cons_zero,if_true,Cj,Kf,Option.map_some,Option.bind_some,flat,PV.cells,List.append_nil,List.map_cons,List.map_nil,List.length_cons,List.length_nil]
  rw[if_pos ⟨trivial,by rw[List.length_map];omega,by unfold qb;omega,rfl⟩,hc]
  simp
 have p2:∀ d,place H2 d (.ptr 2 0)=some (.ptr 2 (0+d)):=fun d=>ng (by rw[hH2];rfl) d 0
 obtain⟨H3,hH3⟩:∃ H,H=[o0,o1,.box [c0,c1,c2,.uq 4 nl 1 ds,.own 5 (D.length+1),.pv (i64 m)],o3,.tok 1 ds.length nl,.seq 3 true (Hf (D++[Gv s i]).flatten) fl false,b10]:=⟨_,rfl⟩
 have s2:Oa H2 1 (.ptr 2 4) (.own 5 (D.length+1))=some H3:=by rw[hH2,hH3];rfl
 have p3:∀ d,place H3 d (.ptr 2 0)=some (.ptr 2 (0+d)):=fun d=>ng (by rw[hH3];rfl) d 0
 have q3:∀ d,place H3 d (.ptr 6 0)=some (.ptr 6 (0+d)):=fun d=>ng (by rw[hH3,hb10];rfl) d 0
 have l4:xa H3 false 1 (.ptr 2 5)=some (.pv (i64 m)):=by rw[hH3];rfl
 have l5:xa H3 false 1 (.ptr 6 0)=some (.pv P):=by rw[hH3,hb10];rfl
 obtain⟨mm,hmm⟩:∃ x:Nat,x=if s.parts.length > m then s.parts.length else m:=⟨_,rfl⟩
 have hmx:(if (s.parts.length:Int) > (m:Int) then (s.parts.length:Int) else (m:Int))=(mm:Int):=by rw[hmm];split <;> split <;> omega
 obtain⟨H4,hH4⟩:∃ H,H=[o0,o1,.box [c0,c1,c2,.uq 4 nl 1 ds,.own 5 (D.length+1),.pv (i64 mm)],o3,.tok 1 ds.length nl,.seq 3 true (Hf (D++[Gv s i]).flatten) fl false,b10]:=⟨_,rfl⟩
 have s3:Oa H3 1 (.ptr 2 5) (.pv (.int .i64 mm))=some H4:=by rw[hH3,hH4];rfl
 have p4:∀ d,place H4 d (.ptr 2 0)=some (.ptr 2 (0+d)):=fun d=>ng (by rw[hH4];rfl) d 0
 have l6:xa H4 false 1 (.ptr 2 3)=some (.uq 4 nl 1 ds):=by rw[hH4];rfl
 have l7:xa H4 true 2 (.ptr 6 0)=some (.pv (.agg [P,i64 s.first])):=by rw[hH4,hb10];rfl
 obtain⟨H5,hH5⟩:∃ H,H=[o0,o1,.box [c0,c1,c2,.uq 4 nl 1 ds,.own 5 (D.length+1),.pv (i64 mm)],o3,.tok 1 (ds.length+1) false,.seq 3 true (Hf (D++[Gv s i]).flatten) fl false,b10]:=⟨_,rfl⟩
 have ap2:Yb H4 false .uq 1 false 8 (.uq 4 nl 1 ds) (.pv (.lit 1 [Ni s.parts]))=some (.uq 4 false 1 (ds++[Ni s.parts]),H5):=by
  rw[hH5]
  rw[Fh (A:=H4) (id:=4) (n:=ds.length) (nl:=nl) (by rw[hH4];rfl) rfl (by unfold qb;omega) (Ni s.parts)]
  rw[hH4];rfl
 have p5:∀ d,place H5 d (.ptr 2 0)=some (.ptr 2 (0+d)):=fun d=>ng (by rw[hH5];rfl) d 0
 have s5:Oa H5 1 (.ptr 2 3) (.uq 4 false 1 (ds++[Ni s.parts]))=some (Gx o0 o1 o3 c0 c1 c2 false (ds++[Ni s.parts]) (D++[Gv s i]) fl false mm++[b10]):=by
  rw[hH5]
  have e1:(ds++[Ni s.parts]).length=ds.length+1:=by simp
  have e2:(D++[Gv s i]).length=D.length+1:=by simp
  unfold Gx
  rw[e1,e2];rfl
 rw[← hmm]
 have m1:Np (List.map AV.pv [PV.int .i64 0,.int .i64 0,.int .i64 0]) [(0,1,.pv (i64 s.first)),(1,1,.pv (i64 (s.first+Ha s.parts - 1))),(2,1,.pv (i64 i))]=some [.pv (i64 s.first),.pv (i64 (s.first+Ha s.parts - 1)),.pv (i64 i)]:=rfl
 have hdc:(AV.pv (Ni s.parts)).one=true:=rfl
 have hdp:(Ni s.parts).cells=[Ni s.parts]:=rfl
 have hfin:Gx o0 o1 o3 c0 c1 c2 false (ds++[Ni s.parts]) (D++[Gv s i]) fl false mm++[b10]=Gx o0 o1 o3 c0 c1 c2 false (ds++[Ni s.parts]) (D++[Gv s i]) fl false mm++[b10]:=rfl
 clear hH2 hH3 hH4 hH5 hb10
 generalize hG1:Gx o0 o1 o3 c0 c1 c2 nl ds D fl nr m++[b10]=G1 at *
 generalize hG0:Gx o0 o1 o3 c0 c1 c2 nl ds D fl nr m=G0 at *
 generalize Ni s.parts=dd at *
 generalize hQ:(fun r:Ex×St=>∃ E' T,r=_∧_)=Q
 simp -implicitDefEqProofs only[SP,WP,oa,sevalprocAttr,-List.reduceReplicate,Yh,h8,h46,h47,h48,e1,a1,r2,hH0,s1,p1,q1,l1,l2,l3,hcn,t1,t2,t3,ap1,p2,s2,p3,q3,l4,l5,lP,hmx,Mo,De,s3,p4,l6,l7,hdg,hdc,hdp,ap2,p5,s5]
 subst hQ
 refine⟨_,[b10],rfl,?_,by rw[Tr.aa,if_pos rfl]⟩
 repeat refine Td.set ?_ rfl
 exact Td.refl _ _
theorem fN {ss:List Lb} {i:Nat} (hi:i < ss.length):Xe (ss.take (i+1))=if ss[i].parts.length > Xe (ss.take i) then ss[i].parts.length else Xe (ss.take i):=by
 unfold Xe
 rw[List.take_succ_eq_append_getElem hi,List.foldl_append];rfl
theorem wS {ss:List Lb} (h:∀ s∈ss,s.parts.length≤8):Xe ss≤8:=by
 have key:∀ (ss:List Lb) (m:Nat),m≤8→(∀ s∈ss,s.parts.length≤8)→ss.foldl (fun m s=>if s.parts.length > m then s.parts.length else m) m≤8:=by
  intro ss
  induction ss with
  |nil=>intro m h _;exact h
  |cons s ss ih=>
   intro m hm h
   rw[List.foldl_cons]
   refine ih _ ?_ fun x hx=>h x (by simp[hx])
   have:=h s (by simp)
   split <;> omega
 exact key ss 0 (by omega) h
theorem KV (hg:∀ nl ds D fl nr m,Gg (Gx o0 o1 o3 c0 c1 c2 nl ds D fl nr m)) {E:Tr} {S:PV} {ss:List Lb} {es:List PV} (hS:eb S ss es) (Ba:Tb ss)
 (h4:E.get 4= .ptr 0 0) (h8:E.get 8= .ptr 2 0) (h46:E.get 46= .pv S) (h47:E.get 47= .pv (i64 ss.length)) (h48:E.get 48= .pv (i64 0)):
 Gd (fun r=>r.1.stop=true∧∃ E' nl nr,r=(.exit 0,⟨E',Gx o0 o1 o3 c0 c1 c2 nl (ss.map fun s=>Ni s.parts) (Ki ss ss.length) 0 nr (Xe ss)⟩)∧E'.get 4= .ptr 0 0∧E'.get 8= .ptr 2 0∧(nl=true→ss=[])∧(nr=true→ss=[]))
  (ua call (.loop [4,8,46,47,48] Yh) ⟨E,Gx o0 o1 o3 c0 c1 c2 true [] [] 0 true 0⟩):=by
 have hgl:∀ nl ds D fl nr m,(Gx o0 o1 o3 c0 c1 c2 nl ds D fl nr m).length=6:=fun _ _ _ _ _ _=>rfl
 have hgd:∀ nl ds D fl nr m,∀ o∈Gx o0 o1 o3 c0 c1 c2 nl ds D fl nr m,na 6 o=some o:=fun nl ds D fl nr m o ho=>hg nl ds D fl nr m 6 (by rw[hgl];exact Nat.le_refl _) o ho
 have hcut:Fit 6 [4,8,46,47] E:= .cons h4 (Ru (by omega)) (.cons h8 (Ru (by omega)) (.cons h46 Ma (.cons h47 Ma (.nil _ _))))
 have h32:=Ba.len
 refine Qn (fun i t=>Td [4,8,46,47] E t.env∧t.env.get 48= .pv (i64 i)∧∃ nl nr,t.H=Gx o0 o1 o3 c0 c1 c2 nl ((ss.take i).map fun s=>Ni s.parts) (Ki ss i) 0 nr (Xe (ss.take i))∧(nl=true→i=0)∧(nr=true→i=0)) ss.length (by unfold qa;omega) ?_ ?_ ?_
 ·rw[hgl]
  exact Tg.all rfl (hgd _ _ _ _ _ _) (Fit.sub (.cons h48 Ma hcut) rfl) fun E' hE=>⟨Td.sub hE rfl,by rw[hE 48 (by simp),h48];rfl,true,true,rfl,fun _=>rfl,fun _=>rfl⟩
 ·rintro i ⟨E1,H1⟩ hi ⟨k1,k2,nl,nr,k3,k4,k5⟩
  simp only at k1 k2 k3
  subst k3
  refine za (AS (call:=call) hS Ba hi (by simp;omega) (gq _ _) (fun r hr=>Xw hr) (wS fun s hs=>(Ba.Xo s (List.mem_of_mem_take hs)).hi) ((k1 4 (by simp)).trans h4) ((k1 8 (by simp)).trans h8) ((k1 46 (by simp)).trans h46) ((k1 47 (by simp)).trans h47) k2) ?_
  rintro r ⟨E2,T,rfl,k6,k7⟩
  rw[Xl,hgl,←VM ss hi,←fN hi]
  have hnx:(ss.take (i+1)).map (fun s=>Ni s.parts)=(ss.take i).map (fun s=>Ni s.parts)++[Ni ss[i].parts]:=by rw[List.take_succ_eq_append_getElem hi,List.map_append];rfl
  exact Tg.front (hgl _ _ _ _ _ _).symm (hgd _ _ _ _ _ _) (Fit.sub (.cons k7 Ma (hcut.Je (k1.trans k6))) rfl) fun E' hE=>⟨(k1.trans k6).trans (Td.sub hE rfl),by rw[hE 48 (by simp),k7],false,false,by rw[hnx],fun h=>(by cases h),fun h=>(by cases h)⟩
 ·rintro⟨E1,H1⟩ ⟨k1,k2,nl,nr,k3,k4,k5⟩
  simp only at k1 k2 k3
  subst k3
  have g47:=(k1 47 (by simp)).trans h47
  have e1:decide ((ss.length:Int) < (ss.length:Int))=false:=Ga (by omega)
  rw[List.take_length]
  generalize hQ:(fun r:Ex×St=>r.1.stop=true∧_)=Q
  simp -implicitDefEqProofs only[SX,sevalprocAttr,-List.reduceReplicate,Yh,k2,g47,e1]
  subst hQ
  exact⟨rfl,_,nl,nr,rfl,by rw[Tr.aa,if_neg (by decide)];exact (k1 4 (by simp)).trans h4,by rw[Tr.aa,if_neg (by decide)];exact (k1 8 (by simp)).trans h8,fun h=>List.eq_nil_of_length_eq_zero (k4 h),fun h=>List.eq_nil_of_length_eq_zero (k5 h)⟩
end
end Go.AM.B1
namespace Go.AM.B1
open Go.AM Go.AM.So
def Vk (ss:List Lb):Prop:=∀ i j,(hi:i < ss.length)→(hj:j < ss.length)→i < j→ss[i].parts.length=ss[j].parts.length→Te ss[i] ss[j]=false
theorem TJ (call:Wa) {S:PV} {ss:List Lb} {es:List PV} (hS:eb S ss es) (i j:Nat) (H:List ba) (hi:i < ss.length) (hj:j < ss.length) (hH:H[0]? =some (.box [.pv S])):
 Ri call Eg [.pv (i64 i),.pv (i64 j),.ptr 0 0] H=some (.pv (.bool (decide (i < j∧ss[i].parts.length=ss[j].parts.length))),H):=by
 obtain⟨P,ps,hPs,a1⟩:=hS.sd hi
 obtain⟨Q,qs,hQs,a2⟩:=hS.sd hj
 have lP:=hPs.parts.Vb
 have lQ:=hQs.parts.Vb
 have p0:place H 0 (.ptr 0 0)=some (.ptr 0 0):=by simp[place,hH]
 have l0:xa H false 1 (.ptr 0 0)=some (.pv S):=by simp[xa,hH,bh]
 have r0:∀ H (x y:PV),xa H false 1 (.pv (.rp [x,y] 0))=some (.pv x):=fun H x y=>rfl
 have q0:∀ H (x y:PV),place H 0 (.pv (.rp [x,y] 0))=some (.pv (.rp [x,y] 0)):=fun H x y=>rfl
 by_cases hlt:i < j
 ·have e0:decide ((i:Int) < (j:Int))=true:=decide_eq_true (by omega)
  have e:((ss[i].parts.length:Int)==(ss[j].parts.length:Int))=decide (i < j∧ss[i].parts.length=ss[j].parts.length):=by
   rw[Bool.eq_iff_iff];simp only[beq_iff_eq,decide_eq_true_eq];omega
  generalize decide (i < j∧ss[i].parts.length=ss[j].parts.length)=z at e ⊢
  generalize ss[i]=p at *
  generalize ss[j]=q at *
  by_cases hij:P=Q
  ·subst hij
   have:p.parts.length=q.parts.length:=by have h1:=lP [];have h2:=lQ [];rw[h1] at h2;exact Option.some.inj h2
   rw[this] at lP e
   obtain rfl:z=true:=by rw[← e];simp
   simp -implicitDefEqProofs only[SP,WP,oa,sevalprocAttr,Eg,p0,l0,a1,a2,r0,q0,lP,e0,e]
  ·simp -implicitDefEqProofs only[SP,WP,oa,sevalprocAttr,Eg,p0,l0,a1,a2,r0,q0,lP,lQ,e0,e]
 ·have e0:decide ((i:Int) < (j:Int))=false:=decide_eq_false (by omega)
  have e:decide (i < j∧ss[i].parts.length=ss[j].parts.length)=false:=decide_eq_false (by omega)
  rw[e]
  simp -implicitDefEqProofs only[SP,WP,oa,sevalprocAttr,Eg,e0]
theorem RN {S:PV} {ss:List Lb} {es:List PV} (hS:eb S ss es) (Ba:Tb ss):
 ∃ y a b,Ug [.agg [S]]=some (.mc [.agg [.bool y,i64 a,i64 b],i64 0])∧(y=true↔Vk ss):=by
 have hSone:(AV.pv S).one=true:=by rcases hS.is with⟨h,_⟩ | h <;> rw[h] <;> rfl
 have c25:gj 25=some Vf:=rfl
 have s0:xa [.box [.pv S],Rb false 0 0] true 1 (.ptr 0 0)=some (.pv (.agg [S])):=rfl
 have hA:mY (Ea gj 7) 37 S ss.length (fun i j=>if h:i < ss.length∧j < ss.length then decide (i < j∧ss[i].parts.length=ss[j].parts.length) else false):=by
  refine⟨fun i j H hi hj hH=> ?_⟩
  rw[Qz gj 6 37 _ H (f:=Eg) rfl,TJ _ hS i j H hi hj hH,dif_pos ⟨hi,hj⟩]
 obtain⟨y,a,b,T,h1,h2⟩:=EE hS Ba hA (fun i j hi hj h=>by rw[dif_pos ⟨hi,hj⟩] at h;have:=of_decide_eq_true h;omega) (Rb false 0 0) (fun n=>by simp[na,Ra,Ma])
 refine⟨y,a,b,?_,?_⟩
 ·have s2:Oa ([.box [.pv S],Rb false 0 0]++T) 3 (.ptr 1 0) (.pv (.agg [.bool y,i64 a,i64 b]))=some ([.box [.pv S],Rb y a b]++T):=rfl
  have l3:xa ([.box [.pv S],Rb y a b]++T) true 3 (.ptr 1 0)=some (.pv (.agg [.bool y,i64 a,i64 b])):=rfl
  generalize hA1:[.box [.pv S],Rb false 0 0]++T=A1 at *
  generalize hA2:[.box [.pv S],Rb y a b]++T=A2 at *
  simp -implicitDefEqProofs only[Ug,SP,WP,oa,sevalprocAttr,Fq,c25,hSone,s0,h1,s2,l3]
 ·rw[h2]
  unfold Vk
  constructor
  ·intro h i j hi hj hlt he
   exact h i j hi hj (by rw[dif_pos ⟨hi,hj⟩];exact decide_eq_true ⟨hlt,he⟩)
  ·intro h i j hi hj hlt
   rw[dif_pos ⟨hi,hj⟩] at hlt
   obtain⟨h1,h2⟩:=of_decide_eq_true hlt
   exact h i j hi hj h1 h2
end Go.AM.B1
namespace Go.AM.B1
open Go.AM
theorem qE (ib:List Int):∀ (xs ys:List Nat) (r:List Int×List Int),zd ib (xs++ys) r=zd ib ys (zd ib xs r)
 | [],ys,r=>rfl
 |x::xs,ys,r=>by rw[List.cons_append,zd,zd,qE ib xs]
theorem GG {a:Int}:∀ {l:List Int} {k i:Nat},Rt a l k=some i→k≤i∧l[i - k]? =some a
 | [],_,_,h=>by cases h
 |b::l,k,i,h=>by
  simp only[Rt] at h
  split at h
  ·next he=>injection h with h;subst h he;simp
  ·obtain⟨h1,h2⟩:=GG h
   refine⟨by omega,?_⟩
   have:i - k=(i - (k+1))+1:=by omega
   rw[this,List.getElem?_cons_succ];exact h2
structure nZ (ib O:List Int) (n:Nat) (r:List Int×List Int):Prop where
 len:r.2.length=ib.length
 hi:∀ x,n≤x→r.2.getD x 0=ib.getD x 0
 ext:∃ t,r.1=O++t∧∀ o∈t,0≤o∧∃ x,x < n∧ib.getD x 0=o
 nodup:r.1.Nodup
 val:∀ x,x < n→(ib.getD x 0 < 0→r.2.getD x 0=ib.getD x 0)∧(0≤ib.getD x 0→∃ k:Nat,r.2.getD x 0=(k:Int)∧r.1[k]? =some (ib.getD x 0))
theorem Kj {l:List Int} {x y:Nat} {v:Int} (hx:x < l.length):(l.set x v).getD y 0=if y=x then v else l.getD y 0:=by
 rw[List.getD_eq_getElem?_getD,List.getD_eq_getElem?_getD]
 by_cases h:y=x
 ·subst h;rw[List.getElem?_set_self hx,if_pos rfl];rfl
 ·rw[List.getElem?_set_ne (Ne.symm h),if_neg h]
theorem nZ.next {ib O:List Int} {n:Nat} {r:List Int×List Int} (h:nZ ib O n r) (hn:n < ib.length):
 nZ ib O (n+1) (Ai n (ib.getD n 0) r)∧(Ai n (ib.getD n 0) r).2.getD n 0≤r.1.length∧
 (((Ai n (ib.getD n 0) r).1.length:Int)=if (Ai n (ib.getD n 0) r).2.getD n 0=r.1.length then (r.1.length:Int)+1 else r.1.length)∧
 (∀ x,x < n→(Ai n (ib.getD n 0) r).2.getD x 0=r.2.getD x 0):=by
 obtain⟨t,ht,hts⟩:=h.ext
 have hl:n < r.2.length:=by rw[h.len];exact hn
 have hne:∀ x,x < n→x≠n:=fun x hx=>by omega
 unfold Ai
 by_cases h0:ib.getD n 0 < 0
 ·rw[if_pos h0]
  have hv:=h.hi n (Nat.le_refl _)
  refine⟨⟨h.len,fun x hx=>h.hi x (by omega),⟨t,ht,fun o ho=>⟨(hts o ho).1,by obtain⟨x,hx,e⟩:=(hts o ho).2;exact⟨x,by omega,e⟩⟩⟩,h.nodup,?_⟩,by rw[hv];omega,by rw[hv,if_neg (by omega)],fun x hx=>rfl⟩
  intro x hx
  rcases Nat.lt_or_ge x n with h1 | h1
  ·exact h.val x h1
  ·have:x=n:=by omega
   subst this;exact⟨fun _=>hv,fun h2=>by omega⟩
 ·rw[if_neg h0]
  cases hi:Rt (ib.getD n 0) r.1 0 with
  |some k=>
   have hk:=(GG hi).2
   rw[Nat.sub_zero] at hk
   have hkl:=(List.getElem?_eq_some_iff.1 hk).1
   simp only
   refine⟨⟨by rw[List.length_set,h.len],?_,⟨t,ht,fun o ho=>⟨(hts o ho).1,by obtain⟨x,hx,e⟩:=(hts o ho).2;exact⟨x,by omega,e⟩⟩⟩,h.nodup,?_⟩,?_,?_,?_⟩
   ·intro x hx;rw[Kj hl,if_neg (by omega)];exact h.hi x (by omega)
   ·intro x hx
    rcases Nat.lt_or_ge x n with h1 | h1
    ·rw[Kj hl,if_neg (by omega)];exact h.val x h1
    ·have:x=n:=by omega
     subst this
     rw[Kj hl,if_pos rfl]
     exact⟨fun h2=>absurd h2 h0,fun _=>⟨k,rfl,hk⟩⟩
   ·rw[Kj hl,if_pos rfl];omega
   ·rw[Kj hl,if_pos rfl,if_neg (by omega)]
   ·intro x hx;rw[Kj hl,if_neg (by omega)]
  |none=>
   have hnm:=sA hi
   simp only
   refine⟨⟨by rw[List.length_set,h.len],?_,⟨t++[ib.getD n 0],by rw[ht,List.append_assoc],?_⟩,?_,?_⟩,?_,?_,?_⟩
   ·intro x hx;rw[Kj hl,if_neg (by omega)];exact h.hi x (by omega)
   ·intro o ho
    rcases List.mem_append.1 ho with h1 | h1
    ·exact⟨(hts o h1).1,by obtain⟨x,hx,e⟩:=(hts o h1).2;exact⟨x,by omega,e⟩⟩
    ·simp only[List.mem_singleton] at h1;subst h1;exact⟨by omega,n,by omega,rfl⟩
   ·rw[List.nodup_append]
    refine⟨h.nodup,by simp,fun a ha b hb=> ?_⟩
    simp only[List.mem_singleton] at hb;subst hb;intro e;subst e;exact hnm ha
   ·intro x hx
    rcases Nat.lt_or_ge x n with h1 | h1
    ·rw[Kj hl,if_neg (by omega)]
     refine⟨(h.val x h1).1,fun h2=> ?_⟩
     obtain⟨k,e1,e2⟩:=(h.val x h1).2 h2
     exact⟨k,e1,by rw[List.getElem?_append_left (List.getElem?_eq_some_iff.1 e2).1];exact e2⟩
    ·have:x=n:=by omega
     subst this
     rw[Kj hl,if_pos rfl]
     exact⟨fun h2=>absurd h2 h0,fun _=>⟨_,rfl,by simp⟩⟩
   ·rw[Kj hl,if_pos rfl];omega
   ·rw[Kj hl,if_pos rfl,if_pos rfl,List.length_append];simp
   ·intro x hx;rw[Kj hl,if_neg (by omega)]
theorem cT {ib O:List Int} (hO:O.Nodup):∀ n:Nat,n≤ib.length→nZ ib O n (zd ib (List.range n) (O,ib))∧
 (∀ x,x < n→(zd ib (List.range n) (O,ib)).2.getD x 0≤((zd ib (List.range x) (O,ib)).1.length:Int)∧
  ((zd ib (List.range (x+1)) (O,ib)).1.length:Int)=if (zd ib (List.range n) (O,ib)).2.getD x 0=((zd ib (List.range x) (O,ib)).1.length:Int) then ((zd ib (List.range x) (O,ib)).1.length:Int)+1 else ((zd ib (List.range x) (O,ib)).1.length:Int))
 |0,_=>⟨⟨rfl,fun x _=>rfl,⟨[],by simp[zd]⟩,hO,by omega⟩,by omega⟩
 |n+1,hn=>by
  obtain⟨h1,h2⟩:=cT (ib:=ib) hO n (by omega)
  obtain⟨k1,k2,k3,k4⟩:=h1.next (by omega)
  have e:zd ib (List.range (n+1)) (O,ib)=Ai n (ib.getD n 0) (zd ib (List.range n) (O,ib)):=by rw[List.range_succ,qE];rfl
  refine⟨by rw[e];exact k1,fun x hx=> ?_⟩
  rcases Nat.lt_or_ge x n with h3 | h3
  ·rw[e,k4 x h3];exact h2 x h3
  ·have:x=n:=by omega
   subst this
   rw[e]
   exact⟨k2,k3⟩
structure EJ (D:List Int) (O:List Int) (o:Int) (e:List ze):Prop where
 ex:∃ row,e=Qf row∧∀ x,x < 256→((Xa D o.toNat).getD x 0 < 0→row.getD x 0=(Xa D o.toNat).getD x 0)∧
  (0≤(Xa D o.toNat).getD x 0→∃ k:Nat,row.getD x 0=(k:Int)∧O[k]? =some ((Xa D o.toNat).getD x 0))
theorem EJ.mono {D O:List Int} {o:Int} {e:List ze} (h:EJ D O o e) (t:List Int):EJ D (O++t) o e:=by
 obtain⟨row,h1,h2⟩:=h.ex
 refine⟨row,h1,fun x hx=>⟨(h2 x hx).1,fun h0=> ?_⟩⟩
 obtain⟨k,h3,h4⟩:=(h2 x hx).2 h0
 exact⟨k,h3,by rw[List.getElem?_append_left (List.getElem?_eq_some_iff.1 h4).1];exact h4⟩
def HI:Int→Int→List (List ze)→Prop
 |_,_,[]=>True
 |m,i,e::l=>i < m∧ey m e∧HI (UA m e) (i+1) l
def KI (m:Int) (l:List (List ze)):Int:=l.foldl UA m
theorem uB:∀ {m i:Int} {l:List (List ze)} {e:List ze},HI m i l→i+l.length < KI m l→ey (KI m l) e→HI m i (l++[e])
 |m,i,[],e,_,h1,h2=>⟨by simpa[KI] using h1,h2,trivial⟩
 |m,i,a::l,e,h,h1,h2=>⟨h.1,h.2.1,uB h.2.2 (by simp only[List.length_cons] at h1;simp only[KI,List.foldl_cons] at h1;simp only[KI];omega) h2⟩
theorem BP (m:Int) (l:List (List ze)) (e:List ze):KI m (l++[e])=UA (KI m l) e:=by
 unfold KI;rw[List.foldl_append];rfl
structure Rq (D:List Int) (n:Nat) (J:Int→Prop) (O:List Int) (l:List (List ze)):Prop where
 ord:Bv n O
 first:O[0]? =some 0
 le:l.length≤O.length
 rows:∀ (k:Nat) o e,O[k]? =some o→l[k]? =some e→EJ D O o e
 met:KI 1 l=O.length
 rZ:HI 1 0 l
 all:∀ o∈O,J o
 KZ:∀ e∈l,∀ x∈e,x.to < O.length
section
variable {D:List Int} {n:Nat} {J:Int→Prop} (hD:D.length=n * 256) (cD:∀ c∈D,c < n)
 (hJ:∀ o,J o→0≤o→o < n→∀ x,x < 256→0≤(Xa D o.toNat).getD x 0→J ((Xa D o.toNat).getD x 0))
include hD cD hJ
theorem Rq.next {O:List Int} {l:List (List ze)} (h:Rq D n J O l) {o:Int} (ho:O[l.length]? =some o):
 Rq D n J (dg D o O).1 (l++[Qf (dg D o O).2]):=by
 have hoO:=List.mem_of_getElem? ho
 have hb:=h.ord.2 o hoO
 have hlt:=(List.getElem?_eq_some_iff.1 ho).1
 have hrl:(Xa D o.toNat).length=256:=Ih hD (by omega)
 obtain⟨k1,k2⟩:=cT (ib:=Xa D o.toNat) h.ord.1 256 (by omega)
 obtain⟨t,ht,hts⟩:=k1.ext
 unfold dg
 have hm:=pG (row:=(zd (Xa D o.toNat) (List.range 256) (O,Xa D o.toNat)).2) (g:=fun x=>((zd (Xa D o.toNat) (List.range x) (O,Xa D o.toNat)).1.length:Int)) (fun x=>by omega) 256 (fun x hx=>(k2 x hx).1) (fun x hx=>(k2 x hx).2)
 generalize hr:zd (Xa D o.toNat) (List.range 256) (O,Xa D o.toNat)=r at *
 obtain⟨m1,m2,m3⟩:=hm
 have hg0:((zd (Xa D o.toNat) (List.range 0) (O,Xa D o.toNat)).1.length:Int)=O.length:=rfl
 simp only[hg0] at m1 m2
 have e1:me r.2 (List.range 256) []=Qf r.2:=rfl
 rw[e1] at m1 m2 m3
 have hval:EJ D r.1 o (Qf r.2):=⟨r.2,rfl,fun x hx=>k1.val x hx⟩
 have hm':=h.met
 have hget:∀ x,x < 256→(Xa D o.toNat).getD x 0 < n:=by
  intro x hx
  rw[List.getD_eq_getElem?_getD,List.getElem?_eq_getElem (by omega)]
  have:=List.getElem_mem (l:=Xa D o.toNat) (n:=x) (by omega)
  exact cD _ (by unfold Xa at this;exact List.mem_of_mem_drop (List.mem_of_mem_take this))
 refine⟨⟨k1.nodup,?_⟩,?_,?_,?_,?_,?_,?_,?_⟩
 ·intro o' ho'
  rw[ht] at ho'
  rcases List.mem_append.1 ho' with h1 | h1
  ·exact h.ord.2 o' h1
  ·obtain⟨h2,x,hx,rfl⟩:=hts o' h1;exact⟨h2,hget x hx⟩
 ·rw[ht,List.getElem?_append_left (by omega)];exact h.first
 ·rw[ht];simp;omega
 ·intro k o' e h1 h2
  rcases Nat.lt_or_ge k l.length with h3 | h3
  ·rw[List.getElem?_append_left h3] at h2
   rw[ht,List.getElem?_append_left (by omega)] at h1
   rw[ht];exact (h.rows k o' e h1 h2).mono t
  ·have h4:=(List.getElem?_eq_some_iff.1 h2).1
   have:k=l.length:=by simp at h4;omega
   subst this
   rw[List.getElem?_append_right (Nat.le_refl _)] at h2
   simp at h2;subst h2
   rw[ht,List.getElem?_append_left (by omega),ho] at h1
   injection h1 with h1;subst h1;exact hval
 ·rw[BP,hm',m1]
 ·exact uB h.rZ (by rw[hm'];omega) (by rw[hm'];exact m2)
 ·intro o' ho'
  rw[ht] at ho'
  rcases List.mem_append.1 ho' with h1 | h1
  ·exact h.all o' h1
  ·obtain⟨h2,x,hx,rfl⟩:=hts o' h1;exact hJ o (h.all o hoO) hb.1 hb.2 x hx h2
 ·intro e he x hx
  rcases List.mem_append.1 he with h1 | h1
  ·have:=h.KZ e h1 x hx;rw[ht,List.length_append];omega
  ·simp only[List.mem_singleton] at h1;subst h1;exact m3 x hx
theorem Rq.go:∀ (f:Nat) (O:List Int) (l:List (List ze)),Rq D n J O l→n≤l.length+f→Rq D n J (rj D f (O,l)).1 (rj D f (O,l)).2∧(rj D f (O,l)).1.length=(rj D f (O,l)).2.length
 |0,O,l,h,hf=>⟨h,by have:=h.ord.len;have:=h.le;show O.length=l.length;omega⟩
 |f+1,O,l,h,hf=>by
  cases ho:O[l.length]? with
  |none=>
   rw[Uq (r:=(O,l)) ho]
   have:=List.getElem?_eq_none_iff.1 ho
   exact⟨h,by have:=h.le;show O.length=l.length;omega⟩
  |some o=>
   rw[Mr (r:=(O,l)) ho]
   exact Rq.go f _ _ (h.next hD cD hJ ho) (by simp;omega)
theorem eX (hn:n≤64) (h0:0 < n) (hJ0:J 0):∃ O,Rq D n J O (Dn D)∧O.length=(Dn D).length:=by
 have h:Rq D n J [0] []:=⟨⟨by simp,by simp;omega⟩,rfl,by simp,by simp,rfl,trivial,by simpa using hJ0,by simp⟩
 have:=Rq.go hD cD hJ 64 [0] [] h (by simp;omega)
 exact⟨_,this.1,this.2⟩
end
end Go.AM.B1
namespace Go.AM.B1
open Go.AM Go.AM.So
structure oW (ss:List Lb) (sets:List Al) (C:List (List Int)) (O:List Int) (l:List (List ze)):Prop where
 ok:Tb ss
 pre:xg ss
 W:ml ss sets C
 hl:C.length=sets.length
 told:Rq (Re C.length C.flatten).C C.length (fun o=>∃ j,j < C.length∧o=co C j) O l
 len:O.length=l.length
 pos:0 < C.length
 le:C.length≤64
theorem jI (C:List (List Int)):co C 0=0:=by unfold co;rw[if_pos rfl]
section
variable {ss:List Lb} {sets:List Al} {C:List (List Int)} (W:ml ss sets C) (hl:C.length=sets.length)
include W hl
theorem oO {j x:Nat} (hj:j < C.length) (hx:x < 256):qq C j x=if 0≤vg C j x then co C (vg C j x).toNat else vg C j x:=by
 unfold qq
 split
 ·next h=>
  have:=W.RA hl hj hx h
  unfold co;rw[if_neg (by omega)]
 ·rfl
end
theorem ZO {ss:List Lb} {l:List (List ze)} (Ba:Tb ss) (hpre:xg ss) (h:sg ss=some l):∃ sets C O,oW ss sets C O l:=by
 unfold sg at h
 rw[Option.map_eq_some_iff] at h
 obtain⟨⟨sets,C⟩,hw,rfl⟩:=h
 obtain⟨W,hl⟩:=tG Ba.len (fun s hs=>(Ba.Xo s hs).lo) hw
 have W:ml ss sets C:=W
 have hl:C.length=sets.length:=hl
 have hm:=W.Iy hl
 have h0:0 < C.length:=by rw[hl];exact (List.getElem?_eq_some_iff.1 W.first).1
 have h64:C.length≤64:=by rw[hl];exact W.ok.1
 have hrow:∀ j x,j < C.length→x < 256→(Xa (Re C.length C.flatten).C (co C j).toNat).getD x 0=qq C j x:=fun j x hj hx=>bI W hl hj hx
 obtain⟨O,h1,h2⟩:=eX (n:=C.length) (J:=fun o=>∃ j,j < C.length∧o=co C j) (D:=(Re C.length C.flatten).C) hm.hC (by
  intro c hc
  obtain⟨p,hp,rfl⟩:=List.getElem_of_mem hc
  have hpl:p < C.length * 256:=by rw[← hm.hC];exact hp
  have e1:(Re C.length C.flatten).C[p]=(Xa (Re C.length C.flatten).C (p / 256)).getD (p % 256) 0:=by
   rw[List.getD_eq_getElem?_getD,Xs (Nat.mod_lt _ (by omega))]
   have:p / 256 * 256+p % 256=p:=by omega
   rw[this,List.getElem?_eq_getElem hp];rfl
  rw[e1,W.bQ hl (by omega) (Nat.mod_lt _ (by omega))]
  have hb:=W.bound hl (k:=p / 256) (x:=p % 256) (by omega) (Nat.mod_lt _ (by omega))
  unfold qq
  split
  ·exact (hm.Vo (j:=(vg C (p / 256) (p % 256)).toNat) (by omega)).2.1
  ·exact hb.2) (by
  rintro o ⟨j,hj,rfl⟩ _ _ x hx h3
  rw[hrow j x hj hx,oO W hl hj hx] at h3 ⊢
  have hb:=W.bound hl hj hx
  split at h3
  ·next h4=>rw[if_pos h4];exact⟨_,by omega,rfl⟩
  ·omega) h64 h0 ⟨0,h0,(jI C).symm⟩
 exact⟨sets,C,O,Ba,hpre,W,hl,h1,h2,h0,h64⟩
section
variable {ss:List Lb} {sets:List Al} {C:List (List Int)} {O:List Int} {l:List (List ze)}
theorem oW.first (h:oW ss sets C O l):O[0]? =some (co C 0):=by rw[jI];exact h.told.first
theorem oW.row (h:oW ss sets C O l) {k j:Nat} (hk:O[k]? =some (co C j)) (hj:j < C.length):∃ row,l[k]? =some (Qf row)∧
 ∀ x,x < 256→(vg C j x < 0→row.getD x 0=vg C j x)∧(0≤vg C j x→∃ k':Nat,row.getD x 0=(k':Int)∧0 < k'∧O[k']? =some (co C (vg C j x).toNat)):=by
 have hkl:=(List.getElem?_eq_some_iff.1 hk).1
 have hle:=h.len
 have he:l[k]? =some l[k]:=List.getElem?_eq_getElem (by omega)
 obtain⟨row,h1,h2⟩:=(h.told.rows k _ _ hk he).ex
 refine⟨row,by rw[he,h1],fun x hx=> ?_⟩
 have h3:=h2 x hx
 rw[bI h.W h.hl hj hx,oO h.W h.hl hj hx] at h3
 constructor
 ·intro h4
  rw[if_neg (by omega)] at h3
  exact h3.1 h4
 ·intro h4
  rw[if_pos h4] at h3
  have hd:=h.W.RA h.hl hj hx h4
  have hb:=h.W.bound h.hl hj hx
  have hc:0≤co C (vg C j x).toNat:=by
   unfold co;split
   ·omega
   ·exact ((h.W.Iy h.hl).Vo (by omega)).1
  obtain⟨k',e1,e2⟩:=h3.2 hc
  refine⟨k',e1,?_,e2⟩
  rcases Nat.eq_zero_or_pos k' with rfl | h5
  ·rw[h.first,jI] at e2
   injection e2 with e2
   unfold co at e2
   rw[if_neg (by omega)] at e2
   exact absurd e2.symm (PO h.ok h.pre h.W h.hl (by omega) (by omega))
  ·exact h5
end
end Go.AM.B1
namespace Go.AM.B1
open Go.AM Go.AM.So
section
variable {ss:List Lb} {sets:List Al} {C:List (List Int)} {O:List Int} {l:List (List ze)} (h:oW ss sets C O l)
include h
theorem oW.step {k j:Nat} (hk:O[k]? =some (co C j)) (hj:j < C.length) {x:Nat} (hx:x < 256):
 (vg C j x= -2∧El l (k:Int) (x:Int)=(0,false))∨(vg C j x= -1∧El l (k:Int) (x:Int)=(-1,true))∨
 (0≤vg C j x∧vg C j x < C.length∧∃ k':Nat,El l (k:Int) (x:Int)=((k':Int),true)∧0 < k'∧O[k']? =some (co C (vg C j x).toNat)):=by
 obtain⟨row,h1,h2⟩:=h.row hk hj
 have h3:=(FA row).step x hx
 obtain⟨h4,h5⟩:=h2 x hx
 have hb:=h.W.bound h.hl hj hx
 have hs:El l (k:Int) (x:Int)=match tg (x:Int) (Qf row) with
  |some t=>(t,true)
  |none=>(0,false):=by
  unfold El
  rw[if_neg (by omega),Int.toNat_natCast,h1] <;> rfl
 rw[h3] at hs
 by_cases c0:0≤vg C j x
 ·obtain⟨k',e1,e2,e3⟩:=h5 c0
  rw[e1,if_neg (by omega)] at hs
  exact .inr (.inr ⟨c0,hb.2,k',hs,e2,e3⟩)
 ·have h6:=h4 (by omega)
  rw[h6] at hs
  by_cases c1:vg C j x= -2
  ·rw[if_pos c1] at hs;exact .inl ⟨c1,hs⟩
  ·have c2:vg C j x= -1:=by omega
   rw[if_neg c1,c2] at hs;exact .inr (.inl ⟨c2,hs⟩)
theorem oW.match:∀ (bs:List Nat) (i k j:Nat),Bytes bs→O[k]? =some (co C j)→j < C.length→
 ∃ m:Nat,m≤bs.length∧((Og l i (k:Int) (bs.map fun (n:Nat)=>(n:Int))=(((i+m:Nat):Int),1)∧0 < m∧runT C j (bs.take m)= -1)∨
  (Og l i (k:Int) (bs.map fun (n:Nat)=>(n:Int))=(((i+m:Nat):Int),2)∧m=bs.length∧0≤runT C j bs)∨
  (Og l i (k:Int) (bs.map fun (n:Nat)=>(n:Int))=(((i+m:Nat):Int),3)∧m < bs.length∧0≤runT C j (bs.take m)∧runT C j (bs.take (m+1))= -2))
 | [],i,k,j,_,hk,hj=>⟨0,by simp,.inr (.inl ⟨rfl,rfl,Int.natCast_nonneg j⟩)⟩
 |x::bs,i,k,j,hb,hk,hj=>by
  have hx:x < 256:=hb x (by simp)
  have hbs:Bytes bs:=fun y hy=>hb y (by simp[hy])
  have hj0:¬((j:Int) < 0):=by omega
  rw[List.map_cons,Og]
  rcases h.step hk hj hx with⟨h1,h2⟩ | ⟨h1,h2⟩ | ⟨h1,h1',k',h2,h3,h4⟩
  ·rw[h2]
   refine⟨0,by simp,.inr (.inr ⟨rfl,by simp,Int.natCast_nonneg j,?_⟩)⟩
   show runT C j [x]= -2
   rw[runT,if_neg hj0,Int.toNat_natCast,h1];rfl
  ·rw[h2]
   refine⟨1,by simp,.inl ⟨rfl,by omega,?_⟩⟩
   show runT C j [x]= -1
   rw[runT,if_neg hj0,Int.toNat_natCast,h1];rfl
  ·rw[h2]
   simp only[Bool.true_eq_false,if_false]
   rw[if_neg (by omega)]
   obtain⟨m,hm,hc⟩:=oW.match bs (i+1) k' (vg C j x).toNat hbs h4 (by omega)
   have hr:∀ w,runT C j (x::w)=runT C ((vg C j x).toNat:Nat) w:=by
    intro w
    rw[runT,if_neg hj0,Int.toNat_natCast,Int.toNat_of_nonneg h1]
   have he:i+1+m=i+(m+1):=by omega
   rw[he] at hc
   refine⟨m+1,by simp;omega,?_⟩
   rcases hc with⟨c1,c2,c3⟩ | ⟨c1,c2,c3⟩ | ⟨c1,c2,c3,c4⟩
   ·exact .inl ⟨c1,by omega,by rw[List.take_succ_cons,hr];exact c3⟩
   ·exact .inr (.inl ⟨c1,by simp[c2],by rw[hr];exact c3⟩)
   ·exact .inr (.inr ⟨c1,by simp;omega,by rw[List.take_succ_cons,hr];exact c3,by rw[List.take_succ_cons,hr];exact c4⟩)
end
theorem nQ {ss:List Lb} {l:List (List ze)} (Ba:Tb ss) (hpre:xg ss) (ha:sg ss=some l) (bs:List Nat) (hb:Bytes bs):
 ∃ m:Nat,m≤bs.length∧((Og l 0 0 (bs.map fun (n:Nat)=>(n:Int))=((m:Int),1)∧∃ s∈ss,Full s (bs.take m))∨
  (Og l 0 0 (bs.map fun (n:Nat)=>(n:Int))=((m:Int),2)∧m=bs.length∧(bs=[]∨∃ s∈ss,Wr s bs)∧∀ s∈ss,¬Full s bs)∨
  (Og l 0 0 (bs.map fun (n:Nat)=>(n:Int))=((m:Int),3)∧m < bs.length∧(bs.take m=[]∨∃ s∈ss,Wr s (bs.take m))∧(∀ s∈ss,¬Full s (bs.take m))∧∀ s∈ss,¬Wr s (bs.take (m+1)))):=by
 obtain⟨sets,C,O,h⟩:=ZO Ba hpre ha
 obtain⟨m,hm,hc⟩:=h.match bs 0 0 0 hb h.first h.pos
 have hbt:∀ m,Bytes (bs.take m):=fun m x hx=>hb x (List.mem_of_mem_take hx)
 have hsem:∀ w,Bytes w→HX ss sets w (runT C 0 w):=fun w hw=>zz Ba hpre h.W h.hl _ w rfl hw
 rw[Nat.zero_add] at hc
 refine⟨m,hm,?_⟩
 rcases hc with⟨c1,c2,c3⟩ | ⟨c1,c2,c3⟩ | ⟨c1,c2,c3,c4⟩
 ·refine .inl ⟨c1,?_⟩
  rcases hsem _ (hbt m) with⟨_,q⟩ | ⟨q,_⟩ | ⟨q,_⟩
  ·exact q
  ·have:runT C ((0:Nat):Int) (bs.take m)= -1:=c3
   rw[show ((0:Nat):Int)=0 from rfl] at this;omega
  ·have:runT C ((0:Nat):Int) (bs.take m)= -1:=c3
   rw[show ((0:Nat):Int)=0 from rfl] at this;omega
 ·refine .inr (.inl ⟨c1,c2,?_⟩)
  rw[show ((0:Nat):Int)=0 from rfl] at c3
  rcases hsem _ hb with⟨q,_⟩ | ⟨_,_,q1,q2⟩ | ⟨q,_⟩
  ·omega
  ·refine⟨?_,q2⟩
   rcases q1 with q1 | ⟨s,h1,h2,_⟩
   ·exact .inl q1
   ·exact .inr ⟨s,h1,h2⟩
  ·omega
 ·rw[show ((0:Nat):Int)=0 from rfl] at c3 c4
  refine .inr (.inr ⟨c1,c2,?_⟩)
  have h4:∀ s∈ss,¬Wr s (bs.take (m+1)):=by
   rcases hsem _ (hbt (m+1)) with⟨q,_⟩ | ⟨q,_⟩ | ⟨_,_,q⟩
   ·omega
   ·omega
   ·exact q
  rcases hsem _ (hbt m) with⟨q,_⟩ | ⟨_,_,q1,q2⟩ | ⟨q,_⟩
  ·omega
  ·refine⟨?_,q2,h4⟩
   rcases q1 with q1 | ⟨s,h1,h2,_⟩
   ·exact .inl q1
   ·exact .inr ⟨s,h1,h2⟩
  ·omega
end Go.AM.B1
namespace Go.AM.B1
open Go.AM Go.AM.So
theorem aQ {row:List Int} {e:ze} (he:e∈Qf row):0≤e.lo∧e.lo≤e.hi∧e.hi < 256∧e.to≠ -2∧e.to=row.getD e.lo.toNat 0:=by
 have h:=FA row
 obtain⟨h1,h2,h3,h4⟩:=h.HC e he
 have hs:=h.step e.lo.toNat (by omega)
 rw[Int.toNat_of_nonneg h1,IE h.ord e he (Int.le_refl _) h2] at hs
 refine⟨h1,h2,h3,h4,?_⟩
 split at hs
 ·cases hs
 ·injection hs
theorem iE {ss:List Lb} {l:List (List ze)} (Ba:Tb ss) (hpre:xg ss) (h:sg ss=some l):∀ e∈l,Ej e:=by
 obtain⟨sets,C,O,L⟩:=ZO Ba hpre h
 intro e he
 obtain⟨k,hk,rfl⟩:=List.getElem_of_mem he
 have hkO:k < O.length:=by rw[L.len];exact hk
 obtain⟨j,hj,ho⟩:=L.told.all O[k] (List.getElem_mem hkO)
 obtain⟨row,h1,h2⟩:=L.row (k:=k) (j:=j) (by rw[List.getElem?_eq_getElem hkO,ho]) hj
 rw[List.getElem?_eq_getElem hk] at h1
 injection h1 with h1
 have htos:=L.told.KZ _ (List.getElem_mem hk)
 have h64:=(aB h).1
 have hlen:=L.len
 rw[h1] at htos ⊢
 refine⟨fun x hx=> ?_,(FA row).ord⟩
 obtain⟨e1,e2,e3,e4,e5⟩:=aQ hx
 have:=htos x hx
 refine⟨e1,e2,e3,?_,by omega⟩
 obtain⟨f1,f2⟩:=h2 x.lo.toNat (by omega)
 by_cases hc:vg C j x.lo.toNat < 0
 ·have hb:=L.W.bound L.hl hj (x:=x.lo.toNat) (by omega)
  rw[f1 hc] at e5
  omega
 ·obtain⟨k',g1,_⟩:=f2 (by omega)
  rw[g1] at e5
  omega
def KH (r:List Int):PV:= .agg (r.map i64)
theorem TD {sz:Nat}:∀ {D:List (List PV)},(∀ r∈D,r.length=sz)→chunk sz true D.length D.flatten=D.map .agg
 | [],_=>rfl
 |r::D,h=>by
  have hr:=h r (by simp)
  rw[List.length_cons,chunk,if_pos rfl,List.flatten_cons,List.take_left' hr,List.drop_left' hr,TD fun x hx=>h x (by simp[hx])];rfl
theorem pz:∀ {D:List (List Int)},(∀ r∈D,r.length=3)→wh 3 D.length D.flatten=D
 | [],_=>rfl
 |r::D,h=>by
  have hr:=h r (by simp)
  rw[List.length_cons,wh,List.flatten_cons,List.take_left' hr,List.drop_left' hr,pz fun x hx=>h x (by simp[hx])]
def sj (ss:List Lb):List (List Int):=(Ho 3 0 (Ki ss ss.length).toArray).toList
theorem sq (ss:List Lb):(sj ss).Perm (Ki ss ss.length):=(Xy 3 0 (Ki ss ss.length).toArray).2.1
theorem gA {ss:List Lb} {r:List Int} (h:r∈sj ss):r.length=3:=Xw ((sq ss).mem_iff.1 h)
theorem sH (ss:List Lb):(sj ss).length=ss.length:=by rw[(sq ss).length_eq,gq]
structure Bo (T:PV) (ss:List Lb) (l:List (List ze)):Prop where
 ex:∃ S' NX DG RW,T= .rp [S',qj l,NX,DG,RW,i64 (Xe ss)] 0∧Vi 2 S' (ss.map Oe)∧Vi 256 NX (l.map zn)∧Vi 1 DG (ss.map fun s=>Ni s.parts)∧Vi 3 RW ((sj ss).map KH)
section
variable {S:PV} {ss:List Lb} {es:List PV} (hS:eb S ss es)
include hS
theorem FB {n:Int} {V:PV} (hV:(AV.pv V).one=true) (h0:n≠0) (h1:n≠130) (hb:Cc [.agg [S]]=some (.mc [.agg [V],i64 n])):Hb [.agg [S]]=some (.mc [.Sg,i64 n]):=by
 have hS1:(AV.pv S).one=true:=by rcases hS.is with⟨h,_⟩ | h <;> rw[h] <;> rfl
 have d0:(n==0)=false:=by simp[h0]
 have d1:(n==130)=false:=by simp[h1]
 have d2:(n != 0)=true:=by simp[h0]
 have st:Oa [.box [.pv .ma]] 1 (.ptr 0 0) (.pv (.agg [V]))=some [.box [.pv V]]:=by simp[Oa,AV.cells,PV.cells,hV,oa]
 simp -implicitDefEqProofs only[Hb,QB.eq_1,SX,sevalprocAttr,xi,hS1,zc,hb,st,d0,d1,d2]
theorem sB {n:Int} {V:PV} {y:Bool} {a b:Int} (hV:(AV.pv V).one=true) (h0:n=0∨n=130) (hy:n=130∨y=false) (hb:Cc [.agg [S]]=some (.mc [.agg [V],i64 n])) (hi:Ug [.agg [S]]=some (.mc [.agg [.bool y,i64 a,i64 b],i64 0])):
 Hb [.agg [S]]=some (.mc [.Sg,i64 (if y then n else 111)]):=by
 have hS1:(AV.pv S).one=true:=by rcases hS.is with⟨h,_⟩ | h <;> rw[h] <;> rfl
 have st:Oa [.box [.pv .ma]] 1 (.ptr 0 0) (.pv (.agg [V]))=some [.box [.pv V]]:=by simp[Oa,AV.cells,PV.cells,hV,oa]
 have st2:Oa [.box [.pv V],.box [.pv (.bool false),.pv (i64 0),.pv (i64 0)]] 3 (.ptr 1 0) (.pv (.agg [.bool y,i64 a,i64 b]))=some [.box [.pv V],.box [.pv (.bool y),.pv (i64 a),.pv (i64 b)]]:=rfl
 have p2:∀ a b c d,place [a,.box [b,c,d]] 0 (.ptr 1 0)=some (.ptr 1 0):=fun a b c d=>rfl
 have l2:∀ a b c d,xa [a,.box [b,c,d]] false 1 (.ptr 1 0)=some b:=fun a b c d=>rfl
 have z0:((0:Int)==0)=true:=rfl
 have z1:((130:Int)==0)=false:=rfl
 have z2:((130:Int)==130)=true:=rfl
 have z3:((130:Int) != 0)=true:=rfl
 have z4:((111:Int) != 0)=true:=rfl
 rcases h0 with rfl | rfl
 ·obtain rfl:y=false:=by rcases hy with h | h;cases h;exact h
  simp -implicitDefEqProofs only[Hb,QB.eq_1,SX,sevalprocAttr,xi,hS1,zc,hb,hi,st,st2,p2,l2,z0,z1,z2,z3,z4]
 ·cases y <;> simp -implicitDefEqProofs only[Hb,QB.eq_1,SX,sevalprocAttr,xi,hS1,zc,hb,hi,st,st2,p2,l2,z0,z1,z2,z3,z4]
end
end Go.AM.B1
