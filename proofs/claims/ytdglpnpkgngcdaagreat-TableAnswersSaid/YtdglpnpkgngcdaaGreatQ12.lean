/- What functions of the program compute. -/
import Derived.Test.YtdglpnpkgngcdaaGreatQ11
import Derived.Test.YtdglpnpkgngcdaaGreatQ3
import Derived.Test.YtdglpnpkgngcdaaGreatQ6
import Derived.Test.YtdglpnpkgngcdaaGreatQ9
import Derived.Test.YtdglpnpkgngcdaaGreatQ10
set_option linter.unusedVariables false
set_option linter.unusedSimpArgs false
namespace Go.AM.B1
open Go.AM Go.AM.So
theorem Gm {e:Tr} {t:Nat}:∀ {l:List Nat},t∈l→(Dc e l).get t=e.get t
 |a::l,h=>by
  rw[Dc,Tr.aa]
  by_cases ht:t=a
  ·rw[if_pos ht,ht]
  ·rw[if_neg ht]
   rcases List.mem_cons.1 h with h | h
   ·exact absurd h ht
   ·exact Gm h
theorem FV {E0:Tr} {H0:List ba} {s:dc} {P:PV} {ps:List PV} {sb oid:Nat} {g0:Nat→AV} (hp:Rf P s.parts ps) (Aa:Nd s)
 (h1:E0.get 1= .pv (.rp [P,i64 s.first] 0)) (h3:E0.get 3= .ptr sb 0) (h4:E0.get 4= .pv (i64 1)) (h5:E0.get 5= .pv (i64 ((s.parts.length:Int) - 1))) (hs:H0[sb]? =some (.box [.own oid s.parts.length]))
 (ho:H0[oid]? =some (.seq 258 true (cellsOf (s.parts.length * 258) g0) 0 false)) (hz:∀ j,j < s.parts.length→sH g0 j):
 Td (fun r=>∃ E H,r=(.exit 0,⟨E,H⟩)∧E.get 3= .ptr sb 0∧H[sb]? =some (.box [.own oid s.parts.length])∧∃ fl g,H[oid]? =some (.seq 258 true (cellsOf (s.parts.length * 258) g) fl false)∧∀ j,j < s.parts.length→EH s.parts g j)
  (ta (Ga bh 8) (.tp [1,2,3,4,5] Nk) ⟨E0,H0⟩):=by
 rw[Dp]
 have h8:=Aa.hi
 have hpr:=Aa.prod.2
 refine xa (Nb (fun r t=>t.env.get 1= .pv (.rp [P,i64 s.first] 0)∧t.env.get 3= .ptr sb 0∧t.env.get 4= .pv (i64 (Ca (s.parts.drop (s.parts.length - r))))∧t.env.get 5= .pv (i64 ((s.parts.length:Int) - 1 - r))∧t.H[sb]? =some (.box [.own oid s.parts.length])∧
  ∃ fl g,fl≤s.parts.length * 258∧t.H[oid]? =some (.seq 258 true (cellsOf (s.parts.length * 258) g) fl false)∧(∀ j,s.parts.length - r≤j→j < s.parts.length→EH s.parts g j)∧∀ j,j < s.parts.length - r→sH g j)
  s.parts.length (by unfold oa;omega) _ ?_ ?_ ?_) (fun r h=>h.2)
 ·refine⟨?_,?_,?_,?_,hs,0,g0,by omega,ho,fun j a b=>by omega,fun j hj=>hz j (by omega)⟩
  ·simp only[tidy];rw[Gm (by simp),h1]
  ·simp only[tidy];rw[Gm (by simp),h3]
  ·simp only[tidy];rw[Gm (by simp),h4,Nat.sub_zero,List.drop_length];rfl
  ·simp only[tidy];rw[Gm (by simp),h5];simp
 ·rintro r ⟨E,H⟩ hr ⟨g1,g3,g4,g5,gs,fl,g,hfl,go,hd,hz⟩
  obtain⟨i,hi⟩:∃ i,i=s.parts.length - 1 - r:=⟨_,rfl⟩
  have hil:i < s.parts.length:=by omega
  have hpo:=Aa.parts s.parts[i] (List.getElem_mem hil)
  have hdr:s.parts.drop i=s.parts[i]::s.parts.drop (i+1):=List.drop_eq_getElem_cons hil
  have hpd:Ca (s.parts.drop i)=Ca (s.parts.drop (i+1)) * Sb 0 s.parts[i]:=by rw[hdr,Ca]
  have hle:=zn Aa.parts i
  have hpos:=Cd (ls:=s.parts.drop i) fun x hx=>Aa.parts x (List.mem_of_mem_drop hx)
  have hsz:=nz 0 hpo.2
  rw[Int.zero_add] at hsz
  rw[show s.parts.length - r=i+1 by omega] at g4 hd hz
  have hcol:=zO (e:=E) (H:=H) hp hil hpo g1 g3 g4 (by rw[g5];congr 2;omega) gs go (hz i (by omega)).1 (by rw[← hsz,←hpd];exact Ba (by omega)) (zM hpo) (OT hpo) (lz hpo) (uO hpo) hfl (by omega)
  rw[fa,Lz]
  refine xa hcol ?_
  rintro⟨ex,E',H'⟩ ⟨rfl,q1,q3,q4,q5,qs,fl',g',qfl,qo,qB,qg,qw⟩
  have hgd:s.parts.getD i []=s.parts[i]:=by rw[List.getD_eq_getElem?_getD,List.getElem?_eq_getElem hil];rfl
  have hother:∀ j k,j≠i→k < 258→g' (j * 258+k)=g (j * 258+k):=by
   intro j k hj hk
   rw[qg _ (by omega) (fun x hx=>by have:=lz hpo x hx;omega),cu _ _ (by omega)]
  refine⟨?_,?_,?_,?_,qs,fl',g',qfl,qo,?_,?_⟩
  ·simp only[tidy];rw[Gm (by simp)];exact q1
  ·simp only[tidy];rw[Gm (by simp)];exact q3
  ·simp only[tidy];rw[Gm (by simp),q4,show s.parts.length - (r+1)=i by omega,hpd,hsz]
  ·simp only[tidy];rw[Gm (by simp),q5];congr 2;omega
  ·intro j hj1 hj2
   by_cases hji:j=i
   ·subst hji
    refine⟨?_,fun y hy=> ?_,?_⟩
    ·rcases qB with⟨h,_⟩ | ⟨tk,_,h,_⟩
     ·simp at h;exact absurd h (uO hpo)
     ·exact⟨tk,by rw[hgd];exact h⟩
    ·rw[hgd]
     by_cases hm:(y:Int)∈Jk s.parts[j]
     ·obtain⟨k,hk⟩:=List.mem_iff_getElem?.1 hm
      have:=qw k y hk
      rw[Int.toNat_natCast] at this
      rw[this,←HM hpo hk,Int.toNat_natCast]
     ·rw[yL hpo hm,qg _ (by omega) (fun x hx=>by
       intro e
       have:=lz hpo x hx
       have:x=(y:Int):=by omega
       exact hm (this ▸ hx)),cu _ _ (by omega)]
      exact (hz j (by omega)).2 y hy
    ·rw[qg _ (by omega) (fun x hx=>by have:=lz hpo x hx;omega),ct]
   ·obtain⟨⟨tk,a1⟩,a2,a3⟩:=hd j (by omega) hj2
    refine⟨⟨tk,?_⟩,fun y hy=> ?_,?_⟩
    ·have:=hother j 0 hji (by omega);rw[Nat.add_zero] at this;rw[this];exact a1
    ·have:=hother j (1+y) hji (by omega);rw[← Nat.add_assoc] at this;rw[this];exact a2 y hy
    ·rw[hother j 257 hji (by omega)];exact a3
  ·intro j hj
   have hji:j≠i:=by omega
   obtain⟨a1,a2⟩:=hz j (by omega)
   refine⟨?_,fun y hy=> ?_⟩
   ·have:=hother j 0 hji (by omega);rw[Nat.add_zero] at this;rw[this];exact a1
   ·have:=hother j (1+y) hji (by omega);rw[← Nat.add_assoc] at this;rw[this];exact a2 y hy
 ·rintro⟨E,H⟩ ⟨g1,g3,g4,g5,gs,fl,g,hfl,go,hd,hz⟩
  have e1:decide ((s.parts.length:Int) - 1 - s.parts.length≥0)=false:=Ha (by omega)
  generalize hQ:(fun r:Ex×St=>r.1.stop=true∧_)=Q
  simp -implicitDefEqProofs only[SX,sevalprocAttr,-List.reduceReplicate,Nk,g5,e1]
  subst hQ
  exact⟨rfl,_,_,rfl,by simp[Tr.aa,g3],gs,fl,g,go,fun j hj=>hd j (by omega) hj⟩
theorem FF {e:PV} {s:dc} {P:PV} {ps:List PV} (h:pf e s P ps) (Aa:Nd s):er [e]=some (Vi s.parts):=by
 obtain⟨hP1,hP2⟩:=h.Mv
 have heq:=h.eq
 subst heq
 have hP:=h.parts
 have lP:=hP.Wb
 have h8:=Aa.hi
 generalize hzr:([PV.pa]++List.replicate 256 (PV.int .u16 0)++[PV.int .i64 0])=zr
 have lU:zr.length=258:=by rw[← hzr];simp[-List.reduceReplicate]
 have hzg:∀ i k v,i < s.parts.length→zr[k]? =some v→(Lj zr s.parts.length).getD (i * 258+k) .undef= .pv v:=by
  intro i k v hi hk
  rw[List.getD_eq_getElem?_getD,←lU,tO hi hk];rfl
 have hcz:∀ j,j < s.parts.length→sH (fun c=>(Lj zr s.parts.length).getD c .undef) j:=by
  intro j hj
  refine⟨by have:=hzg j 0 .pa hj (by rw[← hzr];rfl);rw[Nat.add_zero] at this;exact this,fun y hy=> ?_⟩
  show (Lj zr s.parts.length).getD (j * 258+1+y) .undef=_
  rw[Nat.add_assoc]
  refine hzg j (1+y) _ hj ?_
  rw[← hzr,List.getElem?_append_left (by simp[-List.reduceReplicate];omega),List.getElem?_append_right (by simp[-List.reduceReplicate]),List.getElem?_replicate]
  rw[if_pos (by simp[-List.reduceReplicate];omega)]
 have hcell:Lj zr s.parts.length=cellsOf (s.parts.length * 258) (fun c=>(Lj zr s.parts.length).getD c .undef):=by
  have:=yI (Lj zr s.parts.length)
  rw[KV,lU] at this
  exact this
 generalize (fun c=>(Lj zr s.parts.length).getD c AV.undef)=g0 at *
 have r0:∀ H (x y:PV),ya H false 1 (.pv (.rp [x,y] 0))=some (.pv x):=fun H x y=>rfl
 have q0:∀ H (x y:PV),place H 0 (.pv (.rp [x,y] 0))=some (.pv (.rp [x,y] 0)):=fun H x y=>rfl
 have e2:(0≤(s.parts.length:Int))=True:=by simp
 have e3:((s.parts.length:Int)≤(s.parts.length:Int))=True:=by simp
 have e4:pb s.parts.length 544:=by unfold pb;omega
 have t1:IntKind.i64.wrap ((s.parts.length:Int) - 1)=(s.parts.length:Int) - 1:=Ba (by omega)
 have m1:Io ([PV.pa].map .pv) [(0,1,AV.own 0 s.parts.length)]=some [AV.own 0 s.parts.length]:=rfl
 have m2:Xq [AV.own 0 s.parts.length]= .agg [AV.own 0 s.parts.length]:=rfl
 have m3:(([AV.own 0 s.parts.length]:List AV).length=1∧([AV.own 0 s.parts.length]:List AV).all AV.one=true)=True:=by simp[AV.one]
 have hlp:=fun (E:Tr) (a1:E.get 1= .pv (.rp [P,i64 s.first] 0)) (a3:E.get 3= .ptr 1 0) (a4:E.get 4= .pv (i64 1)) (a5:E.get 5= .pv (i64 ((s.parts.length:Int) - 1)))=>
  FV (E0:=E) (H0:=[.seq 258 true (cellsOf (s.parts.length * 258) g0) 0 false,.box [.own 0 s.parts.length]]) hP Aa a1 a3 a4 a5 (sb:=1) (oid:=0) rfl rfl hcz
 have p1:∀ A B,place [A,.box B] 0 (.ptr 1 0)=some (.ptr 1 0):=fun A B=>rfl
 have l1:∀ A b,ya [A,.box [b]] false 1 (.ptr 1 0)=some b:=fun A b=>rfl
 have hw:nh 258 s.parts.length 0 (cellsOf (s.parts.length * 258) g0).length:=⟨Nat.zero_le _,by rw[zg];exact Nat.le_refl _⟩
 have ln:Wb [.seq 258 true (cellsOf (s.parts.length * 258) g0) 0 false,.box [.own 0 s.parts.length]] 0 (.own 0 s.parts.length)=some s.parts.length:=by
  simp only[Wb,List.getElem?_cons_zero,if_pos hw]
 have hfin:∀ (H:List ba) (fl:Nat) (g:Nat→AV),H[1]? =some (.box [.own 0 s.parts.length])→H[0]? =some (.seq 258 true (cellsOf (s.parts.length * 258) g) fl false)→(∀ j,j < s.parts.length→EH s.parts g j)→Ub H 6 (.ptr 1 0)=some (Vi s.parts):=by
  intro H fl g h1 h0 hd
  have hm:Qa (Ub H 4) (cellsOf (s.parts.length * 258) g)=some ((List.range (s.parts.length * 258)).map (jH s.parts)):=by
   refine zL fun c hc=> ?_
   obtain⟨⟨tk,a1⟩,a2,a3⟩:=hd (c / 258) (by omega)
   unfold jH
   by_cases k0:c % 258=0
   ·rw[if_pos k0,show c=c / 258 * 258 by omega,a1,show c / 258 * 258 / 258=c / 258 by omega];rfl
   ·rw[if_neg k0]
    by_cases k1:c % 258=257
    ·rw[if_pos k1]
     have e:g c=g (c / 258 * 258+257):=by congr 1;omega
     rw[e,a3];rfl
    ·rw[if_neg k1]
     have e:g c=g (c / 258 * 258+1+(c % 258 - 1)):=by congr 1;omega
     rw[e,a2 _ (by omega)];rfl
  have hc2:s.parts.length * 258=(cellsOf (s.parts.length * 258) g).length∧(true||(258:Nat)==1)=true:=⟨(zg _ _).symm,rfl⟩
  have h5:Ub H 5 (.own 0 s.parts.length)=some (.lit 258 ((List.range s.parts.length).map (yH s.parts))):=by
   simp only[Ub,h0,if_pos hc2,Bool.false_eq_true,if_false,hm,Option.map_some,List.range_eq_range' (n:=s.parts.length * 258),BB,Nat.zero_add]
   rfl
  show (match H[1]? with | some (.box cells)=>(Qa (Ub H 5) cells).map fun ps=>PV.rp ps 0 | _=>none)=_
  rw[h1]
  simp only[Qa,h5,Option.bind_some,Option.map_some]
  rfl
 have hzr':PV.pa::(List.replicate 256 (PV.int .u16 0)++[PV.int .i64 0])=zr:=hzr
 have m4:na [AV.pv PV.pa] 0 [AV.own 0 s.parts.length]=[AV.own 0 s.parts.length]:=rfl
 have m5:nf [AV.own 0 s.parts.length]=none:=rfl
 have m6:[AV.own 0 s.parts.length].all AV.one=true:=rfl
 simp -implicitDefEqProofs only[er,SX,sevalprocAttr,-List.reduceReplicate,lr,hP1,r0,q0,lP,e2,e3,eq_true e4,hzr',hcell,m4,m5,m6,p1,l1,ln,t1]
 generalize hEE:(Tr.set _ 5 _:Tr)=E
 have a1:E.get 1= .pv (.rp [P,i64 s.first] 0):=by rw[← hEE];simp[Tr.aa]
 have a3:E.get 3= .ptr 1 0:=by rw[← hEE];simp[Tr.aa]
 have a4:E.get 4= .pv (i64 1):=by rw[← hEE];simp[Tr.aa]
 have a5:E.get 5= .pv (i64 ((s.parts.length:Int) - 1)):=by rw[← hEE];simp[Tr.aa]
 obtain⟨r,h1,E',H',rfl,q3,q1,fl,g,q4,q5⟩:=Fc (hlp E a1 a3 a4 a5)
 rw[h1]
 have h9:=hfin H' fl g q1 q4 q5
 simp -implicitDefEqProofs only[SX,sevalprocAttr,-List.reduceReplicate,q3,h9]
end Go.AM.B1
namespace Go.AM.B1
open Go.AM Go.AM.So
section
variable {call:Za} {o0 o1 o4 o5:ba} {c0 c1 c3 c4 c5:AV}
 (hg:∀ nl es,Ng (Nv o0 o1 o4 o5 c0 c1 c3 c4 c5 nl es))
include hg
theorem PU {E:Tr} {V:PV} {l:List (List Oe)} (hV:Di 1 V (l.map ee)) (hl:l.length≤64) (hle:∀ e∈l,e.length≤256) (Aa:∀ e∈l,Sn e)
 (h8:E.get 8= .ptr 2 0) (h101:E.get 101= .pv V) (h102:E.get 102= .pv (i64 l.length)) (h103:E.get 103= .pv (i64 0)):
 Td (fun r=>r.1.stop=true∧∃ E' nl,r=(.exit 2,⟨E',Nv o0 o1 o4 o5 c0 c1 c3 c4 c5 nl (l.map yn)⟩)∧E'.get 8= .ptr 2 0∧(nl=true→l=[]))
  (ta call (.loop [8,101,102,103] qi) ⟨E,Nv o0 o1 o4 o5 c0 c1 c3 c4 c5 true []⟩):=by
 have hgl:∀ nl es,(Nv o0 o1 o4 o5 c0 c1 c3 c4 c5 nl es).length=6:=fun _ _=>rfl
 have hgd:∀ nl es,∀ o∈Nv o0 o1 o4 o5 c0 c1 c3 c4 c5 nl es,ma 6 o=some o:=fun nl es o ho=>hg nl es 6 (by rw[hgl];exact Nat.le_refl _) o ho
 have hcut:Fit 6 [8,101,102] E:= .cons h8 (Tu (by omega)) (.cons h101 Ia (.cons h102 Ia (.nil _ _)))
 refine Un (fun i t=>Zd [8,101,102] E t.env∧t.env.get 103= .pv (i64 i)∧∃ nl,t.H=Nv o0 o1 o4 o5 c0 c1 c3 c4 c5 nl ((l.take i).map yn)∧(nl=true→i=0)) l.length (by unfold oa;omega) ?_ ?_ ?_
 ·rw[hgl]
  exact Xg.all rfl (hgd _ _) (Fit.sub (.cons h103 Ia hcut) rfl) fun E' hE=>⟨Zd.sub hE rfl,by rw[hE 103 (by simp),h103];rfl,true,rfl,fun _=>rfl⟩
 ·rintro i ⟨E1,H1⟩ hi ⟨k1,k2,nl,k3,k4⟩
  simp only at k1 k2 k3
  subst k3
  refine xa (yS (call:=call) hg hV hl hle Aa hi (by simp;omega) ((k1 8 (by simp)).trans h8) ((k1 101 (by simp)).trans h101) ((k1 102 (by simp)).trans h102) k2) ?_
  rintro r ⟨E2,rfl,k5,k6⟩
  rw[Xl,hgl]
  have hnx:(l.take (i+1)).map yn=(l.take i).map yn++[yn l[i]]:=by rw[List.take_succ_eq_append_getElem hi,List.map_append];rfl
  exact Xg.front (hgl _ _).symm (hgd _ _) (Fit.sub (.cons k6 Ia (hcut.Be (k1.trans k5))) rfl) fun E' hE=>⟨(k1.trans k5).trans (Zd.sub hE rfl),by rw[hE 103 (by simp),k6],false,by rw[hnx],fun h=>by cases h⟩
 ·rintro⟨E1,H1⟩ ⟨k1,k2,nl,k3,k4⟩
  simp only at k1 k2 k3
  subst k3
  have g102:=(k1 102 (by simp)).trans h102
  have e1:decide ((l.length:Int) < (l.length:Int))=false:=Ha (by omega)
  rw[List.take_length]
  generalize hQ:(fun r:Ex×St=>r.1.stop=true∧_)=Q
  simp -implicitDefEqProofs only[SX,sevalprocAttr,-List.reduceReplicate,qi,k2,g102,e1]
  subst hQ
  exact⟨rfl,_,nl,rfl,by rw[Tr.aa,if_neg (by decide)];exact (k1 8 (by simp)).trans h8,fun h=>List.eq_nil_of_length_eq_zero (k4 h)⟩
end
def Hv (s:dc) (i:Nat):List Int:=[s.first,s.first+Ca s.parts - 1,(i:Int)]
def Li (ss:List dc) (n:Nat):List (List Int):=(List.range n).map fun j=>Hv (ss.getD j ⟨[],0⟩) j
theorem OM (ss:List dc) {n:Nat} (h:n < ss.length):Li ss (n+1)=Li ss n++[Hv ss[n] n]:=by
 unfold Li
 rw[List.range_succ,List.map_append,List.map_cons,List.map_nil,List.getD_eq_getElem?_getD,List.getElem?_eq_getElem h];rfl
theorem Sp (ss:List dc) (n:Nat):(Li ss n).length=n:=by simp[Li]
theorem Tw {ss:List dc} {n:Nat} {r:List Int} (h:r∈Li ss n):r.length=3:=by
 unfold Li at h
 obtain⟨j,_,rfl⟩:=List.mem_map.1 h
 rfl
theorem Sw:∀ {D:List (List Int)},(∀ r∈D,r.length=3)→D.flatten.length=D.length * 3
 | [],_=>rfl
 |r::D,h=>by rw[List.flatten_cons,List.length_append,h r (by simp),Sw fun x hx=>h x (by simp[hx]),List.length_cons];omega
def Og (ss:List dc):Nat:=ss.foldl (fun m s=>if s.parts.length > m then s.parts.length else m) 0
def Dx (o0 o1 o3:ba) (c0 c1 c2:AV) (nl:Bool) (ds:List PV) (D:List (List Int)) (fl:Nat) (nr:Bool) (m:Int):List ba:=
 [o0,o1,.box [c0,c1,c2,.uq 4 nl 1 ds,.own 5 D.length,.pv (i64 m)],o3,.tok 1 ds.length nl,.seq 3 true (Of D.flatten) fl nr]
section
variable {call:Za} {o0 o1 o3:ba} {c0 c1 c2:AV}
theorem TR {E:Tr} {S:PV} {ss:List dc} {es:List PV} {i:Nat} {nl nr:Bool} {fl:Nat} {ds:List PV} {D:List (List Int)} {m:Nat} (hS:Ab S ss es) (Aa:Hc ss) (hi:i < ss.length) (hds:ds.length=i) (hD:D.length=i) (hDr:∀ r∈D,r.length=3) (hm:m≤8)
 (h4:E.get 4= .ptr 0 0) (h8:E.get 8= .ptr 2 0) (h46:E.get 46= .pv S) (h47:E.get 47= .pv (i64 ss.length)) (h48:E.get 48= .pv (i64 i)):
 Td (fun r=>∃ E' T,r=(.norm,⟨E',Dx o0 o1 o3 c0 c1 c2 false (ds++[Vi ss[i].parts]) (D++[Hv ss[i] i]) fl false (if ss[i].parts.length > m then ss[i].parts.length else m:Nat)++T⟩)∧Zd [4,8,46,47] E E'∧E'.get 48= .pv (i64 (i+1:Nat)))
  (ta call fi ⟨E,Dx o0 o1 o3 c0 c1 c2 nl ds D fl nr m⟩):=by
 obtain⟨P,ps,hsh,a1⟩:=hS.pd hi
 have hs:=Aa.As _ (List.getElem_mem hi)
 have h32:=Aa.len
 have hcn:=gC hsh hs
 have hdg:=FF hsh hs
 have hpo:=Cd hs.parts
 have hpr:=hs.prod.2
 have hlt:=hs.Nh
 have hl1:=hs.last
 have hf0:=hs.f0
 have hf1:=hs.f1
 have h88:=hs.hi
 have lP:=hsh.parts.Wb
 have hP1:=hsh.Mv.1
 have hDl:=Sw hDr
 generalize ss[i]=s at *
 have e1:decide ((i:Int) < (ss.length:Int))=true:=Da (by omega)
 have t1:IntKind.i64.wrap ((i:Int)+1)=((i+1:Nat):Int):=mj (by omega)
 have t2:IntKind.i64.wrap (s.first+Ca s.parts)=s.first+Ca s.parts:=Ba (by omega)
 have t3:IntKind.i64.wrap (s.first+Ca s.parts - 1)=s.first+Ca s.parts - 1:=Ba (by omega)
 have r2:∀ H (x y:PV),ya H true 2 (.pv (.rp [x,y] 0))=some (.pv (.agg [x,y])):=fun H x y=>rfl
 obtain⟨b10,hb10⟩:∃ b,b=ba.box [.pv P,.pv (i64 s.first)]:=⟨_,rfl⟩
 have hH0:(Dx o0 o1 o3 c0 c1 c2 nl ds D fl nr m).length=6:=rfl
 have s1:Ra (Dx o0 o1 o3 c0 c1 c2 nl ds D fl nr m++[.box [.pv .pa,.pv (i64 0)]]) 2 (.ptr 6 0) (.pv (.agg [P,i64 s.first]))=some (Dx o0 o1 o3 c0 c1 c2 nl ds D fl nr m++[b10]):=by
  rw[hb10]
  exact Cn (.pv .pa) (.pv (i64 0)) (.pv P) (.pv (i64 s.first)) hP1 rfl (Dx o0 o1 o3 c0 c1 c2 nl ds D fl nr m) _ rfl
 have p1:∀ d,place (Dx o0 o1 o3 c0 c1 c2 nl ds D fl nr m++[b10]) d (.ptr 2 0)=some (.ptr 2 (0+d)):=fun d=>wg rfl d 0
 have q1:∀ d,place (Dx o0 o1 o3 c0 c1 c2 nl ds D fl nr m++[b10]) d (.ptr 6 0)=some (.ptr 6 (0+d)):=fun d=>wg (by rw[hb10];rfl) d 0
 have l1:ya (Dx o0 o1 o3 c0 c1 c2 nl ds D fl nr m++[b10]) false 1 (.ptr 2 4)=some (.own 5 D.length):=rfl
 have l2:ya (Dx o0 o1 o3 c0 c1 c2 nl ds D fl nr m++[b10]) false 1 (.ptr 6 1)=some (.pv (i64 s.first)):=by rw[hb10];rfl
 have l3:ya (Dx o0 o1 o3 c0 c1 c2 nl ds D fl nr m++[b10]) true 2 (.ptr 6 0)=some (.pv (.agg [P,i64 s.first])):=by rw[hb10];rfl
 obtain⟨H2,hH2⟩:∃ H,H=[o0,o1,.box [c0,c1,c2,.uq 4 nl 1 ds,.own 5 D.length,.pv (i64 m)],o3,.tok 1 ds.length nl,.seq 3 true (Of (D++[Hv s i]).flatten) fl false,b10]:=⟨_,rfl⟩
 have ap1:ic (Dx o0 o1 o3 c0 c1 c2 nl ds D fl nr m++[b10]) true .own 3 true 24 (.own 5 D.length) (.pv (.lit 3 [.agg [i64 s.first,i64 (s.first+Ca s.parts - 1),i64 i]]))=some (.own 5 (D.length+1),H2):=by
  rw[hH2]
  have hc:Of D.flatten++[AV.pv (i64 s.first),.pv (i64 (s.first+Ca s.parts - 1)),.pv (i64 i)]=Of (D++[Hv s i]).flatten:=by
   rw[List.flatten_append];simp[Of,Hv]
  simp only[ic,Dx,List.cons_append,List.nil_append,List.getElem?_cons_succ,List.getElem?_cons_zero,if_true,Bj,Gf,Option.map_some,Option.bind_some,flat,PV.cells,List.append_nil,List.map_cons,List.map_nil,List.length_cons,List.length_nil]
  rw[if_pos ⟨trivial,by rw[List.length_map];omega,by unfold pb;omega,rfl⟩,hc]
  simp
 have p2:∀ d,place H2 d (.ptr 2 0)=some (.ptr 2 (0+d)):=fun d=>wg (by rw[hH2];rfl) d 0
 obtain⟨H3,hH3⟩:∃ H,H=[o0,o1,.box [c0,c1,c2,.uq 4 nl 1 ds,.own 5 (D.length+1),.pv (i64 m)],o3,.tok 1 ds.length nl,.seq 3 true (Of (D++[Hv s i]).flatten) fl false,b10]:=⟨_,rfl⟩
 have s2:Ra H2 1 (.ptr 2 4) (.own 5 (D.length+1))=some H3:=by rw[hH2,hH3];rfl
 have p3:∀ d,place H3 d (.ptr 2 0)=some (.ptr 2 (0+d)):=fun d=>wg (by rw[hH3];rfl) d 0
 have q3:∀ d,place H3 d (.ptr 6 0)=some (.ptr 6 (0+d)):=fun d=>wg (by rw[hH3,hb10];rfl) d 0
 have l4:ya H3 false 1 (.ptr 2 5)=some (.pv (i64 m)):=by rw[hH3];rfl
 have l5:ya H3 false 1 (.ptr 6 0)=some (.pv P):=by rw[hH3,hb10];rfl
 obtain⟨mm,hmm⟩:∃ x:Nat,x=if s.parts.length > m then s.parts.length else m:=⟨_,rfl⟩
 have hmx:(if (s.parts.length:Int) > (m:Int) then (s.parts.length:Int) else (m:Int))=(mm:Int):=by rw[hmm];split <;> split <;> omega
 obtain⟨H4,hH4⟩:∃ H,H=[o0,o1,.box [c0,c1,c2,.uq 4 nl 1 ds,.own 5 (D.length+1),.pv (i64 mm)],o3,.tok 1 ds.length nl,.seq 3 true (Of (D++[Hv s i]).flatten) fl false,b10]:=⟨_,rfl⟩
 have s3:Ra H3 1 (.ptr 2 5) (.pv (.int .i64 mm))=some H4:=by rw[hH3,hH4];rfl
 have p4:∀ d,place H4 d (.ptr 2 0)=some (.ptr 2 (0+d)):=fun d=>wg (by rw[hH4];rfl) d 0
 have l6:ya H4 false 1 (.ptr 2 3)=some (.uq 4 nl 1 ds):=by rw[hH4];rfl
 have l7:ya H4 true 2 (.ptr 6 0)=some (.pv (.agg [P,i64 s.first])):=by rw[hH4,hb10];rfl
 obtain⟨H5,hH5⟩:∃ H,H=[o0,o1,.box [c0,c1,c2,.uq 4 nl 1 ds,.own 5 (D.length+1),.pv (i64 mm)],o3,.tok 1 (ds.length+1) false,.seq 3 true (Of (D++[Hv s i]).flatten) fl false,b10]:=⟨_,rfl⟩
 have ap2:ic H4 false .uq 1 false 8 (.uq 4 nl 1 ds) (.pv (.lit 1 [Vi s.parts]))=some (.uq 4 false 1 (ds++[Vi s.parts]),H5):=by
  rw[hH5]
  rw[qj (A:=H4) (id:=4) (n:=ds.length) (nl:=nl) (by rw[hH4];rfl) rfl (by unfold pb;omega) (Vi s.parts)]
  rw[hH4];rfl
 have p5:∀ d,place H5 d (.ptr 2 0)=some (.ptr 2 (0+d)):=fun d=>wg (by rw[hH5];rfl) d 0
 have s5:Ra H5 1 (.ptr 2 3) (.uq 4 false 1 (ds++[Vi s.parts]))=some (Dx o0 o1 o3 c0 c1 c2 false (ds++[Vi s.parts]) (D++[Hv s i]) fl false mm++[b10]):=by
  rw[hH5]
  have e1:(ds++[Vi s.parts]).length=ds.length+1:=by simp
  have e2:(D++[Hv s i]).length=D.length+1:=by simp
  unfold Dx
  rw[e1,e2];rfl
 rw[← hmm]
 have m1:Io (List.map AV.pv [PV.int .i64 0,.int .i64 0,.int .i64 0]) [(0,1,.pv (i64 s.first)),(1,1,.pv (i64 (s.first+Ca s.parts - 1))),(2,1,.pv (i64 i))]=some [.pv (i64 s.first),.pv (i64 (s.first+Ca s.parts - 1)),.pv (i64 i)]:=rfl
 have hdc:(AV.pv (Vi s.parts)).one=true:=rfl
 have hdp:(Vi s.parts).cells=[Vi s.parts]:=rfl
 have hfin:Dx o0 o1 o3 c0 c1 c2 false (ds++[Vi s.parts]) (D++[Hv s i]) fl false mm++[b10]=Dx o0 o1 o3 c0 c1 c2 false (ds++[Vi s.parts]) (D++[Hv s i]) fl false mm++[b10]:=rfl
 clear hH2 hH3 hH4 hH5 hb10
 generalize hG1:Dx o0 o1 o3 c0 c1 c2 nl ds D fl nr m++[b10]=G1 at *
 generalize hG0:Dx o0 o1 o3 c0 c1 c2 nl ds D fl nr m=G0 at *
 generalize Vi s.parts=dd at *
 generalize hQ:(fun r:Ex×St=>∃ E' T,r=_∧_)=Q
 simp -implicitDefEqProofs only[SP,WP,na,sevalprocAttr,-List.reduceReplicate,fi,h8,h46,h47,h48,e1,a1,r2,hH0,s1,p1,q1,l1,l2,l3,hcn,t1,t2,t3,ap1,p2,s2,p3,q3,l4,l5,lP,hmx,gr,Ae,s3,p4,l6,l7,hdg,hdc,hdp,ap2,p5,s5]
 subst hQ
 refine⟨_,[b10],rfl,?_,by rw[Tr.aa,if_pos rfl]⟩
 repeat refine Zd.set ?_ rfl
 exact Zd.refl _ _
theorem gN {ss:List dc} {i:Nat} (hi:i < ss.length):Og (ss.take (i+1))=if ss[i].parts.length > Og (ss.take i) then ss[i].parts.length else Og (ss.take i):=by
 unfold Og
 rw[List.take_succ_eq_append_getElem hi,List.foldl_append];rfl
theorem AS {ss:List dc} (h:∀ s∈ss,s.parts.length≤8):Og ss≤8:=by
 have key:∀ (ss:List dc) (m:Nat),m≤8→(∀ s∈ss,s.parts.length≤8)→ss.foldl (fun m s=>if s.parts.length > m then s.parts.length else m) m≤8:=by
  intro ss
  induction ss with
  |nil=>intro m h _;exact h
  |cons s ss ih=>
   intro m hm h
   rw[List.foldl_cons]
   refine ih _ ?_ fun x hx=>h x (by simp[hx])
   have:=h s (by simp)
   split <;> omega
 exact key ss 0 (by omega) h
theorem LU (hg:∀ nl ds D fl nr m,Ng (Dx o0 o1 o3 c0 c1 c2 nl ds D fl nr m)) {E:Tr} {S:PV} {ss:List dc} {es:List PV} (hS:Ab S ss es) (Aa:Hc ss)
 (h4:E.get 4= .ptr 0 0) (h8:E.get 8= .ptr 2 0) (h46:E.get 46= .pv S) (h47:E.get 47= .pv (i64 ss.length)) (h48:E.get 48= .pv (i64 0)):
 Td (fun r=>r.1.stop=true∧∃ E' nl nr,r=(.exit 0,⟨E',Dx o0 o1 o3 c0 c1 c2 nl (ss.map fun s=>Vi s.parts) (Li ss ss.length) 0 nr (Og ss)⟩)∧E'.get 4= .ptr 0 0∧E'.get 8= .ptr 2 0∧(nl=true→ss=[])∧(nr=true→ss=[]))
  (ta call (.loop [4,8,46,47,48] fi) ⟨E,Dx o0 o1 o3 c0 c1 c2 true [] [] 0 true 0⟩):=by
 have hgl:∀ nl ds D fl nr m,(Dx o0 o1 o3 c0 c1 c2 nl ds D fl nr m).length=6:=fun _ _ _ _ _ _=>rfl
 have hgd:∀ nl ds D fl nr m,∀ o∈Dx o0 o1 o3 c0 c1 c2 nl ds D fl nr m,ma 6 o=some o:=fun nl ds D fl nr m o ho=>hg nl ds D fl nr m 6 (by rw[hgl];exact Nat.le_refl _) o ho
 have hcut:Fit 6 [4,8,46,47] E:= .cons h4 (Tu (by omega)) (.cons h8 (Tu (by omega)) (.cons h46 Ia (.cons h47 Ia (.nil _ _))))
 have h32:=Aa.len
 refine Un (fun i t=>Zd [4,8,46,47] E t.env∧t.env.get 48= .pv (i64 i)∧∃ nl nr,t.H=Dx o0 o1 o3 c0 c1 c2 nl ((ss.take i).map fun s=>Vi s.parts) (Li ss i) 0 nr (Og (ss.take i))∧(nl=true→i=0)∧(nr=true→i=0)) ss.length (by unfold oa;omega) ?_ ?_ ?_
 ·rw[hgl]
  exact Xg.all rfl (hgd _ _ _ _ _ _) (Fit.sub (.cons h48 Ia hcut) rfl) fun E' hE=>⟨Zd.sub hE rfl,by rw[hE 48 (by simp),h48];rfl,true,true,rfl,fun _=>rfl,fun _=>rfl⟩
 ·rintro i ⟨E1,H1⟩ hi ⟨k1,k2,nl,nr,k3,k4,k5⟩
  simp only at k1 k2 k3
  subst k3
  refine xa (TR (call:=call) hS Aa hi (by simp;omega) (Sp _ _) (fun r hr=>Tw hr) (AS fun s hs=>(Aa.As s (List.mem_of_mem_take hs)).hi) ((k1 4 (by simp)).trans h4) ((k1 8 (by simp)).trans h8) ((k1 46 (by simp)).trans h46) ((k1 47 (by simp)).trans h47) k2) ?_
  rintro r ⟨E2,T,rfl,k6,k7⟩
  rw[Xl,hgl,←OM ss hi,←gN hi]
  have hnx:(ss.take (i+1)).map (fun s=>Vi s.parts)=(ss.take i).map (fun s=>Vi s.parts)++[Vi ss[i].parts]:=by rw[List.take_succ_eq_append_getElem hi,List.map_append];rfl
  exact Xg.front (hgl _ _ _ _ _ _).symm (hgd _ _ _ _ _ _) (Fit.sub (.cons k7 Ia (hcut.Be (k1.trans k6))) rfl) fun E' hE=>⟨(k1.trans k6).trans (Zd.sub hE rfl),by rw[hE 48 (by simp),k7],false,false,by rw[hnx],fun h=>(by cases h),fun h=>(by cases h)⟩
 ·rintro⟨E1,H1⟩ ⟨k1,k2,nl,nr,k3,k4,k5⟩
  simp only at k1 k2 k3
  subst k3
  have g47:=(k1 47 (by simp)).trans h47
  have e1:decide ((ss.length:Int) < (ss.length:Int))=false:=Ha (by omega)
  rw[List.take_length]
  generalize hQ:(fun r:Ex×St=>r.1.stop=true∧_)=Q
  simp -implicitDefEqProofs only[SX,sevalprocAttr,-List.reduceReplicate,fi,k2,g47,e1]
  subst hQ
  exact⟨rfl,_,nl,nr,rfl,by rw[Tr.aa,if_neg (by decide)];exact (k1 4 (by simp)).trans h4,by rw[Tr.aa,if_neg (by decide)];exact (k1 8 (by simp)).trans h8,fun h=>List.eq_nil_of_length_eq_zero (k4 h),fun h=>List.eq_nil_of_length_eq_zero (k5 h)⟩
end
end Go.AM.B1
namespace Go.AM.B1
open Go.AM Go.AM.So
def Ql (ss:List dc):Prop:=∀ i j,(hi:i < ss.length)→(hj:j < ss.length)→i < j→ss[i].parts.length=ss[j].parts.length→Pe ss[i] ss[j]=false
theorem AK (call:Za) {S:PV} {ss:List dc} {es:List PV} (hS:Ab S ss es) (i j:Nat) (H:List ba) (hi:i < ss.length) (hj:j < ss.length) (hH:H[0]? =some (.box [.pv S])):
 Ni call Lg [.pv (i64 i),.pv (i64 j),.ptr 0 0] H=some (.pv (.bool (decide (i < j∧ss[i].parts.length=ss[j].parts.length))),H):=by
 obtain⟨P,ps,hPs,a1⟩:=hS.pd hi
 obtain⟨Q,qs,hQs,a2⟩:=hS.pd hj
 have lP:=hPs.parts.Wb
 have lQ:=hQs.parts.Wb
 have p0:place H 0 (.ptr 0 0)=some (.ptr 0 0):=by simp[place,hH]
 have l0:ya H false 1 (.ptr 0 0)=some (.pv S):=by simp[ya,hH,lh]
 have r0:∀ H (x y:PV),ya H false 1 (.pv (.rp [x,y] 0))=some (.pv x):=fun H x y=>rfl
 have q0:∀ H (x y:PV),place H 0 (.pv (.rp [x,y] 0))=some (.pv (.rp [x,y] 0)):=fun H x y=>rfl
 by_cases hlt:i < j
 ·have e0:decide ((i:Int) < (j:Int))=true:=decide_eq_true (by omega)
  have e:((ss[i].parts.length:Int)==(ss[j].parts.length:Int))=decide (i < j∧ss[i].parts.length=ss[j].parts.length):=by
   rw[Bool.eq_iff_iff];simp only[beq_iff_eq,decide_eq_true_eq];omega
  generalize decide (i < j∧ss[i].parts.length=ss[j].parts.length)=z at e ⊢
  generalize ss[i]=p at *
  generalize ss[j]=q at *
  by_cases hij:P=Q
  ·subst hij
   have:p.parts.length=q.parts.length:=by have h1:=lP [];have h2:=lQ [];rw[h1] at h2;exact Option.some.inj h2
   rw[this] at lP e
   obtain rfl:z=true:=by rw[← e];simp
   simp -implicitDefEqProofs only[SP,WP,na,sevalprocAttr,Lg,p0,l0,a1,a2,r0,q0,lP,e0,e]
  ·simp -implicitDefEqProofs only[SP,WP,na,sevalprocAttr,Lg,p0,l0,a1,a2,r0,q0,lP,lQ,e0,e]
 ·have e0:decide ((i:Int) < (j:Int))=false:=decide_eq_false (by omega)
  have e:decide (i < j∧ss[i].parts.length=ss[j].parts.length)=false:=decide_eq_false (by omega)
  rw[e]
  simp -implicitDefEqProofs only[SP,WP,na,sevalprocAttr,Lg,e0]
theorem nM {S:PV} {ss:List dc} {es:List PV} (hS:Ab S ss es) (Aa:Hc ss):
 ∃ y a b,ch [.agg [S]]=some (.Zb [.agg [.bool y,i64 a,i64 b],i64 0])∧(y=true↔Ql ss):=by
 have hSone:(AV.pv S).one=true:=by rcases hS.is with⟨h,_⟩ | h <;> rw[h] <;> rfl
 have c25:pj 25=some jg:=rfl
 have s0:ya [.box [.pv S],Rb false 0 0] true 1 (.ptr 0 0)=some (.pv (.agg [S])):=rfl
 have hA:uX (Ga pj 7) 37 S ss.length (fun i j=>if h:i < ss.length∧j < ss.length then decide (i < j∧ss[i].parts.length=ss[j].parts.length) else false):=by
  refine⟨fun i j H hi hj hH=> ?_⟩
  rw[uz pj 6 37 _ H (f:=Lg) rfl,AK _ hS i j H hi hj hH,dif_pos ⟨hi,hj⟩]
 obtain⟨y,a,b,T,h1,h2⟩:=KC hS Aa hA (fun i j hi hj h=>by rw[dif_pos ⟨hi,hj⟩] at h;have:=of_decide_eq_true h;omega) (Rb false 0 0) (fun n=>by simp[ma,Qa,Ia])
 refine⟨y,a,b,?_,?_⟩
 ·have s2:Ra ([.box [.pv S],Rb false 0 0]++T) 3 (.ptr 1 0) (.pv (.agg [.bool y,i64 a,i64 b]))=some ([.box [.pv S],Rb y a b]++T):=rfl
  have l3:ya ([.box [.pv S],Rb y a b]++T) true 3 (.ptr 1 0)=some (.pv (.agg [.bool y,i64 a,i64 b])):=rfl
  generalize hA1:[.box [.pv S],Rb false 0 0]++T=A1 at *
  generalize hA2:[.box [.pv S],Rb y a b]++T=A2 at *
  simp -implicitDefEqProofs only[ch,SP,WP,na,sevalprocAttr,qq,c25,hSone,s0,h1,s2,l3]
 ·rw[h2]
  unfold Ql
  constructor
  ·intro h i j hi hj hlt he
   exact h i j hi hj (by rw[dif_pos ⟨hi,hj⟩];exact decide_eq_true ⟨hlt,he⟩)
  ·intro h i j hi hj hlt
   rw[dif_pos ⟨hi,hj⟩] at hlt
   obtain⟨h1,h2⟩:=of_decide_eq_true hlt
   exact h i j hi hj h1 h2
end Go.AM.B1
namespace Go.AM.B1
open Go.AM
theorem YC (eb:List Int):∀ (xs ys:List Nat) (r:List Int×List Int),Gd eb (xs++ys) r=Gd eb ys (Gd eb xs r)
 | [],ys,r=>rfl
 |x::xs,ys,r=>by rw[List.cons_append,Gd,Gd,YC eb xs]
theorem xG {a:Int}:∀ {l:List Int} {k i:Nat},Ft a l k=some i→k≤i∧l[i - k]? =some a
 | [],_,_,h=>by cases h
 |b::l,k,i,h=>by
  simp only[Ft] at h
  split at h
  ·next he=>injection h with h;subst h he;simp
  ·obtain⟨h1,h2⟩:=xG h
   refine⟨by omega,?_⟩
   have:i - k=(i - (k+1))+1:=by omega
   rw[this,List.getElem?_cons_succ];exact h2
structure aY (eb O:List Int) (n:Nat) (r:List Int×List Int):Prop where
 len:r.2.length=eb.length
 hi:∀ x,n≤x→r.2.getD x 0=eb.getD x 0
 ext:∃ t,r.1=O++t∧∀ o∈t,0≤o∧∃ x,x < n∧eb.getD x 0=o
 nodup:r.1.Nodup
 val:∀ x,x < n→(eb.getD x 0 < 0→r.2.getD x 0=eb.getD x 0)∧(0≤eb.getD x 0→∃ k:Nat,r.2.getD x 0=(k:Int)∧r.1[k]? =some (eb.getD x 0))
theorem Tj {l:List Int} {x y:Nat} {v:Int} (hx:x < l.length):(l.set x v).getD y 0=if y=x then v else l.getD y 0:=by
 rw[List.getD_eq_getElem?_getD,List.getD_eq_getElem?_getD]
 by_cases h:y=x
 ·subst h;rw[List.getElem?_set_self hx,if_pos rfl];rfl
 ·rw[List.getElem?_set_ne (Ne.symm h),if_neg h]
theorem aY.next {eb O:List Int} {n:Nat} {r:List Int×List Int} (h:aY eb O n r) (hn:n < eb.length):
 aY eb O (n+1) (Si n (eb.getD n 0) r)∧(Si n (eb.getD n 0) r).2.getD n 0≤r.1.length∧
 (((Si n (eb.getD n 0) r).1.length:Int)=if (Si n (eb.getD n 0) r).2.getD n 0=r.1.length then (r.1.length:Int)+1 else r.1.length)∧
 (∀ x,x < n→(Si n (eb.getD n 0) r).2.getD x 0=r.2.getD x 0):=by
 obtain⟨t,ht,hts⟩:=h.ext
 have hl:n < r.2.length:=by rw[h.len];exact hn
 have hne:∀ x,x < n→x≠n:=fun x hx=>by omega
 unfold Si
 by_cases h0:eb.getD n 0 < 0
 ·rw[if_pos h0]
  have hv:=h.hi n (Nat.le_refl _)
  refine⟨⟨h.len,fun x hx=>h.hi x (by omega),⟨t,ht,fun o ho=>⟨(hts o ho).1,by obtain⟨x,hx,e⟩:=(hts o ho).2;exact⟨x,by omega,e⟩⟩⟩,h.nodup,?_⟩,by rw[hv];omega,by rw[hv,if_neg (by omega)],fun x hx=>rfl⟩
  intro x hx
  rcases Nat.lt_or_ge x n with h1 | h1
  ·exact h.val x h1
  ·have:x=n:=by omega
   subst this;exact⟨fun _=>hv,fun h2=>by omega⟩
 ·rw[if_neg h0]
  cases hi:Ft (eb.getD n 0) r.1 0 with
  |some k=>
   have hk:=(xG hi).2
   rw[Nat.sub_zero] at hk
   have hkl:=(List.getElem?_eq_some_iff.1 hk).1
   simp only
   refine⟨⟨by rw[List.length_set,h.len],?_,⟨t,ht,fun o ho=>⟨(hts o ho).1,by obtain⟨x,hx,e⟩:=(hts o ho).2;exact⟨x,by omega,e⟩⟩⟩,h.nodup,?_⟩,?_,?_,?_⟩
   ·intro x hx;rw[Tj hl,if_neg (by omega)];exact h.hi x (by omega)
   ·intro x hx
    rcases Nat.lt_or_ge x n with h1 | h1
    ·rw[Tj hl,if_neg (by omega)];exact h.val x h1
    ·have:x=n:=by omega
     subst this
     rw[Tj hl,if_pos rfl]
     exact⟨fun h2=>absurd h2 h0,fun _=>⟨k,rfl,hk⟩⟩
   ·rw[Tj hl,if_pos rfl];omega
   ·rw[Tj hl,if_pos rfl,if_neg (by omega)]
   ·intro x hx;rw[Tj hl,if_neg (by omega)]
  |none=>
   have hnm:=sA hi
   simp only
   refine⟨⟨by rw[List.length_set,h.len],?_,⟨t++[eb.getD n 0],by rw[ht,List.append_assoc],?_⟩,?_,?_⟩,?_,?_,?_⟩
   ·intro x hx;rw[Tj hl,if_neg (by omega)];exact h.hi x (by omega)
   ·intro o ho
    rcases List.mem_append.1 ho with h1 | h1
    ·exact⟨(hts o h1).1,by obtain⟨x,hx,e⟩:=(hts o h1).2;exact⟨x,by omega,e⟩⟩
    ·simp only[List.mem_singleton] at h1;subst h1;exact⟨by omega,n,by omega,rfl⟩
   ·rw[List.nodup_append]
    refine⟨h.nodup,by simp,fun a ha b hb=> ?_⟩
    simp only[List.mem_singleton] at hb;subst hb;intro e;subst e;exact hnm ha
   ·intro x hx
    rcases Nat.lt_or_ge x n with h1 | h1
    ·rw[Tj hl,if_neg (by omega)]
     refine⟨(h.val x h1).1,fun h2=> ?_⟩
     obtain⟨k,e1,e2⟩:=(h.val x h1).2 h2
     exact⟨k,e1,by rw[List.getElem?_append_left (List.getElem?_eq_some_iff.1 e2).1];exact e2⟩
    ·have:x=n:=by omega
     subst this
     rw[Tj hl,if_pos rfl]
     exact⟨fun h2=>absurd h2 h0,fun _=>⟨_,rfl,by simp⟩⟩
   ·rw[Tj hl,if_pos rfl];omega
   ·rw[Tj hl,if_pos rfl,if_pos rfl,List.length_append];simp
   ·intro x hx;rw[Tj hl,if_neg (by omega)]
theorem QR {eb O:List Int} (hO:O.Nodup):∀ n:Nat,n≤eb.length→aY eb O n (Gd eb (List.range n) (O,eb))∧
 (∀ x,x < n→(Gd eb (List.range n) (O,eb)).2.getD x 0≤((Gd eb (List.range x) (O,eb)).1.length:Int)∧
  ((Gd eb (List.range (x+1)) (O,eb)).1.length:Int)=if (Gd eb (List.range n) (O,eb)).2.getD x 0=((Gd eb (List.range x) (O,eb)).1.length:Int) then ((Gd eb (List.range x) (O,eb)).1.length:Int)+1 else ((Gd eb (List.range x) (O,eb)).1.length:Int))
 |0,_=>⟨⟨rfl,fun x _=>rfl,⟨[],by simp[Gd]⟩,hO,by omega⟩,by omega⟩
 |n+1,hn=>by
  obtain⟨h1,h2⟩:=QR (eb:=eb) hO n (by omega)
  obtain⟨k1,k2,k3,k4⟩:=h1.next (by omega)
  have e:Gd eb (List.range (n+1)) (O,eb)=Si n (eb.getD n 0) (Gd eb (List.range n) (O,eb)):=by rw[List.range_succ,YC];rfl
  refine⟨by rw[e];exact k1,fun x hx=> ?_⟩
  rcases Nat.lt_or_ge x n with h3 | h3
  ·rw[e,k4 x h3];exact h2 x h3
  ·have:x=n:=by omega
   subst this
   rw[e]
   exact⟨k2,k3⟩
structure nK (D:List Int) (O:List Int) (o:Int) (e:List Oe):Prop where
 ex:∃ row,e=Wf row∧∀ x,x < 256→((Wa D o.toNat).getD x 0 < 0→row.getD x 0=(Wa D o.toNat).getD x 0)∧
  (0≤(Wa D o.toNat).getD x 0→∃ k:Nat,row.getD x 0=(k:Int)∧O[k]? =some ((Wa D o.toNat).getD x 0))
theorem nK.mono {D O:List Int} {o:Int} {e:List Oe} (h:nK D O o e) (t:List Int):nK D (O++t) o e:=by
 obtain⟨row,h1,h2⟩:=h.ex
 refine⟨row,h1,fun x hx=>⟨(h2 x hx).1,fun h0=> ?_⟩⟩
 obtain⟨k,h3,h4⟩:=(h2 x hx).2 h0
 exact⟨k,h3,by rw[List.getElem?_append_left (List.getElem?_eq_some_iff.1 h4).1];exact h4⟩
def oI:Int→Int→List (List Oe)→Prop
 |_,_,[]=>True
 |m,i,e::l=>i < m∧Yx m e∧oI (nA m e) (i+1) l
def qI (m:Int) (l:List (List Oe)):Int:=l.foldl nA m
theorem uB:∀ {m i:Int} {l:List (List Oe)} {e:List Oe},oI m i l→i+l.length < qI m l→Yx (qI m l) e→oI m i (l++[e])
 |m,i,[],e,_,h1,h2=>⟨by simpa[qI] using h1,h2,trivial⟩
 |m,i,a::l,e,h,h1,h2=>⟨h.1,h.2.1,uB h.2.2 (by simp only[List.length_cons] at h1;simp only[qI,List.foldl_cons] at h1;simp only[qI];omega) h2⟩
theorem WO (m:Int) (l:List (List Oe)) (e:List Oe):qI m (l++[e])=nA (qI m l) e:=by
 unfold qI;rw[List.foldl_append];rfl
structure yq (D:List Int) (n:Nat) (J:Int→Prop) (O:List Int) (l:List (List Oe)):Prop where
 ord:nv n O
 first:O[0]? =some 0
 le:l.length≤O.length
 rows:∀ (k:Nat) o e,O[k]? =some o→l[k]? =some e→nK D O o e
 met:qI 1 l=O.length
 mY:oI 1 0 l
 all:∀ o∈O,J o
 rY:∀ e∈l,∀ x∈e,x.to < O.length
section
variable {D:List Int} {n:Nat} {J:Int→Prop} (hD:D.length=n * 256) (cD:∀ c∈D,c < n)
 (hJ:∀ o,J o→0≤o→o < n→∀ x,x < 256→0≤(Wa D o.toNat).getD x 0→J ((Wa D o.toNat).getD x 0))
include hD cD hJ
theorem yq.next {O:List Int} {l:List (List Oe)} (h:yq D n J O l) {o:Int} (ho:O[l.length]? =some o):
 yq D n J (dg D o O).1 (l++[Wf (dg D o O).2]):=by
 have hoO:=List.mem_of_getElem? ho
 have hb:=h.ord.2 o hoO
 have hlt:=(List.getElem?_eq_some_iff.1 ho).1
 have hrl:(Wa D o.toNat).length=256:=Yh hD (by omega)
 obtain⟨k1,k2⟩:=QR (eb:=Wa D o.toNat) h.ord.1 256 (by omega)
 obtain⟨t,ht,hts⟩:=k1.ext
 unfold dg
 have hm:=HG (row:=(Gd (Wa D o.toNat) (List.range 256) (O,Wa D o.toNat)).2) (g:=fun x=>((Gd (Wa D o.toNat) (List.range x) (O,Wa D o.toNat)).1.length:Int)) (fun x=>by omega) 256 (fun x hx=>(k2 x hx).1) (fun x hx=>(k2 x hx).2)
 generalize hr:Gd (Wa D o.toNat) (List.range 256) (O,Wa D o.toNat)=r at *
 obtain⟨m1,m2,m3⟩:=hm
 have hg0:((Gd (Wa D o.toNat) (List.range 0) (O,Wa D o.toNat)).1.length:Int)=O.length:=rfl
 simp only[hg0] at m1 m2
 have e1:ye r.2 (List.range 256) []=Wf r.2:=rfl
 rw[e1] at m1 m2 m3
 have hval:nK D r.1 o (Wf r.2):=⟨r.2,rfl,fun x hx=>k1.val x hx⟩
 have hm':=h.met
 have hget:∀ x,x < 256→(Wa D o.toNat).getD x 0 < n:=by
  intro x hx
  rw[List.getD_eq_getElem?_getD,List.getElem?_eq_getElem (by omega)]
  have:=List.getElem_mem (l:=Wa D o.toNat) (n:=x) (by omega)
  exact cD _ (by unfold Wa at this;exact List.mem_of_mem_drop (List.mem_of_mem_take this))
 refine⟨⟨k1.nodup,?_⟩,?_,?_,?_,?_,?_,?_,?_⟩
 ·intro o' ho'
  rw[ht] at ho'
  rcases List.mem_append.1 ho' with h1 | h1
  ·exact h.ord.2 o' h1
  ·obtain⟨h2,x,hx,rfl⟩:=hts o' h1;exact⟨h2,hget x hx⟩
 ·rw[ht,List.getElem?_append_left (by omega)];exact h.first
 ·rw[ht];simp;omega
 ·intro k o' e h1 h2
  rcases Nat.lt_or_ge k l.length with h3 | h3
  ·rw[List.getElem?_append_left h3] at h2
   rw[ht,List.getElem?_append_left (by omega)] at h1
   rw[ht];exact (h.rows k o' e h1 h2).mono t
  ·have h4:=(List.getElem?_eq_some_iff.1 h2).1
   have:k=l.length:=by simp at h4;omega
   subst this
   rw[List.getElem?_append_right (Nat.le_refl _)] at h2
   simp at h2;subst h2
   rw[ht,List.getElem?_append_left (by omega),ho] at h1
   injection h1 with h1;subst h1;exact hval
 ·rw[WO,hm',m1]
 ·exact uB h.mY (by rw[hm'];omega) (by rw[hm'];exact m2)
 ·intro o' ho'
  rw[ht] at ho'
  rcases List.mem_append.1 ho' with h1 | h1
  ·exact h.all o' h1
  ·obtain⟨h2,x,hx,rfl⟩:=hts o' h1;exact hJ o (h.all o hoO) hb.1 hb.2 x hx h2
 ·intro e he x hx
  rcases List.mem_append.1 he with h1 | h1
  ·have:=h.rY e h1 x hx;rw[ht,List.length_append];omega
  ·simp only[List.mem_singleton] at h1;subst h1;exact m3 x hx
theorem yq.go:∀ (f:Nat) (O:List Int) (l:List (List Oe)),yq D n J O l→n≤l.length+f→yq D n J (wj D f (O,l)).1 (wj D f (O,l)).2∧(wj D f (O,l)).1.length=(wj D f (O,l)).2.length
 |0,O,l,h,hf=>⟨h,by have:=h.ord.len;have:=h.le;show O.length=l.length;omega⟩
 |f+1,O,l,h,hf=>by
  cases ho:O[l.length]? with
  |none=>
   rw[Gq (r:=(O,l)) ho]
   have:=List.getElem?_eq_none_iff.1 ho
   exact⟨h,by have:=h.le;show O.length=l.length;omega⟩
  |some o=>
   rw[br (r:=(O,l)) ho]
   exact yq.go f _ _ (h.next hD cD hJ ho) (by simp;omega)
theorem JV (hn:n≤64) (h0:0 < n) (hJ0:J 0):∃ O,yq D n J O (rn D)∧O.length=(rn D).length:=by
 have h:yq D n J [0] []:=⟨⟨by simp,by simp;omega⟩,rfl,by simp,by simp,rfl,trivial,by simpa using hJ0,by simp⟩
 have:=yq.go hD cD hJ 64 [0] [] h (by simp;omega)
 exact⟨_,this.1,this.2⟩
end
end Go.AM.B1
namespace Go.AM.B1
open Go.AM Go.AM.So
structure rV (ss:List dc) (sets:List Al) (C:List (List Int)) (O:List Int) (l:List (List Oe)):Prop where
 ok:Hc ss
 pre:gh ss
 W:yl ss sets C
 hl:C.length=sets.length
 told:yq (Ie C.length C.flatten).C C.length (fun o=>∃ j,j < C.length∧o=co C j) O l
 len:O.length=l.length
 pos:0 < C.length
 le:C.length≤64
theorem kI (C:List (List Int)):co C 0=0:=by unfold co;rw[if_pos rfl]
section
variable {ss:List dc} {sets:List Al} {C:List (List Int)} (W:yl ss sets C) (hl:C.length=sets.length)
include W hl
theorem MN {j x:Nat} (hj:j < C.length) (hx:x < 256):aq C j x=if 0≤Dg C j x then co C (Dg C j x).toNat else Dg C j x:=by
 unfold aq
 split
 ·next h=>
  have:=W.TA hl hj hx h
  unfold co;rw[if_neg (by omega)]
 ·rfl
end
theorem mV {ss:List dc} {l:List (List Oe)} (Aa:Hc ss) (hpre:gh ss) (h:vh ss=some l):∃ sets C O,rV ss sets C O l:=by
 unfold vh at h
 rw[Option.map_eq_some_iff] at h
 obtain⟨⟨sets,C⟩,hw,rfl⟩:=h
 obtain⟨W,hl⟩:=qG Aa.len (fun s hs=>(Aa.As s hs).lo) hw
 have W:yl ss sets C:=W
 have hl:C.length=sets.length:=hl
 have hm:=W.gy hl
 have h0:0 < C.length:=by rw[hl];exact (List.getElem?_eq_some_iff.1 W.first).1
 have h64:C.length≤64:=by rw[hl];exact W.ok.1
 have hrow:∀ j x,j < C.length→x < 256→(Wa (Ie C.length C.flatten).C (co C j).toNat).getD x 0=aq C j x:=fun j x hj hx=>YH W hl hj hx
 obtain⟨O,h1,h2⟩:=JV (n:=C.length) (J:=fun o=>∃ j,j < C.length∧o=co C j) (D:=(Ie C.length C.flatten).C) hm.hC (by
  intro c hc
  obtain⟨p,hp,rfl⟩:=List.getElem_of_mem hc
  have hpl:p < C.length * 256:=by rw[← hm.hC];exact hp
  have e1:(Ie C.length C.flatten).C[p]=(Wa (Ie C.length C.flatten).C (p / 256)).getD (p % 256) 0:=by
   rw[List.getD_eq_getElem?_getD,Jt (Nat.mod_lt _ (by omega))]
   have:p / 256 * 256+p % 256=p:=by omega
   rw[this,List.getElem?_eq_getElem hp];rfl
  rw[e1,W.XP hl (by omega) (Nat.mod_lt _ (by omega))]
  have hb:=W.bound hl (k:=p / 256) (x:=p % 256) (by omega) (Nat.mod_lt _ (by omega))
  unfold aq
  split
  ·exact (hm.Oo (j:=(Dg C (p / 256) (p % 256)).toNat) (by omega)).2.1
  ·exact hb.2) (by
  rintro o ⟨j,hj,rfl⟩ _ _ x hx h3
  rw[hrow j x hj hx,MN W hl hj hx] at h3 ⊢
  have hb:=W.bound hl hj hx
  split at h3
  ·next h4=>rw[if_pos h4];exact⟨_,by omega,rfl⟩
  ·omega) h64 h0 ⟨0,h0,(kI C).symm⟩
 exact⟨sets,C,O,Aa,hpre,W,hl,h1,h2,h0,h64⟩
section
variable {ss:List dc} {sets:List Al} {C:List (List Int)} {O:List Int} {l:List (List Oe)}
theorem rV.first (h:rV ss sets C O l):O[0]? =some (co C 0):=by rw[kI];exact h.told.first
theorem rV.row (h:rV ss sets C O l) {k j:Nat} (hk:O[k]? =some (co C j)) (hj:j < C.length):∃ row,l[k]? =some (Wf row)∧
 ∀ x,x < 256→(Dg C j x < 0→row.getD x 0=Dg C j x)∧(0≤Dg C j x→∃ k':Nat,row.getD x 0=(k':Int)∧0 < k'∧O[k']? =some (co C (Dg C j x).toNat)):=by
 have hkl:=(List.getElem?_eq_some_iff.1 hk).1
 have hle:=h.len
 have he:l[k]? =some l[k]:=List.getElem?_eq_getElem (by omega)
 obtain⟨row,h1,h2⟩:=(h.told.rows k _ _ hk he).ex
 refine⟨row,by rw[he,h1],fun x hx=> ?_⟩
 have h3:=h2 x hx
 rw[YH h.W h.hl hj hx,MN h.W h.hl hj hx] at h3
 constructor
 ·intro h4
  rw[if_neg (by omega)] at h3
  exact h3.1 h4
 ·intro h4
  rw[if_pos h4] at h3
  have hd:=h.W.TA h.hl hj hx h4
  have hb:=h.W.bound h.hl hj hx
  have hc:0≤co C (Dg C j x).toNat:=by
   unfold co;split
   ·omega
   ·exact ((h.W.gy h.hl).Oo (by omega)).1
  obtain⟨k',e1,e2⟩:=h3.2 hc
  refine⟨k',e1,?_,e2⟩
  rcases Nat.eq_zero_or_pos k' with rfl | h5
  ·rw[h.first,kI] at e2
   injection e2 with e2
   unfold co at e2
   rw[if_neg (by omega)] at e2
   exact absurd e2.symm (qO h.ok h.pre h.W h.hl (by omega) (by omega))
  ·exact h5
end
end Go.AM.B1
namespace Go.AM.B1
open Go.AM Go.AM.So
section
variable {ss:List dc} {sets:List Al} {C:List (List Int)} {O:List Int} {l:List (List Oe)} (h:rV ss sets C O l)
include h
theorem rV.step {k j:Nat} (hk:O[k]? =some (co C j)) (hj:j < C.length) {x:Nat} (hx:x < 256):
 (Dg C j x= -2∧Yf l (k:Int) (x:Int)=(0,false))∨(Dg C j x= -1∧Yf l (k:Int) (x:Int)=(-1,true))∨
 (0≤Dg C j x∧Dg C j x < C.length∧∃ k':Nat,Yf l (k:Int) (x:Int)=((k':Int),true)∧0 < k'∧O[k']? =some (co C (Dg C j x).toNat)):=by
 obtain⟨row,h1,h2⟩:=h.row hk hj
 have h3:=(zA row).step x hx
 obtain⟨h4,h5⟩:=h2 x hx
 have hb:=h.W.bound h.hl hj hx
 have hs:Yf l (k:Int) (x:Int)=match Df (x:Int) (Wf row) with
  |some t=>(t,true)
  |none=>(0,false):=by
  unfold Yf
  rw[if_neg (by omega),Int.toNat_natCast,h1] <;> rfl
 rw[h3] at hs
 by_cases c0:0≤Dg C j x
 ·obtain⟨k',e1,e2,e3⟩:=h5 c0
  rw[e1,if_neg (by omega)] at hs
  exact .inr (.inr ⟨c0,hb.2,k',hs,e2,e3⟩)
 ·have h6:=h4 (by omega)
  rw[h6] at hs
  by_cases c1:Dg C j x= -2
  ·rw[if_pos c1] at hs;exact .inl ⟨c1,hs⟩
  ·have c2:Dg C j x= -1:=by omega
   rw[if_neg c1,c2] at hs;exact .inr (.inl ⟨c2,hs⟩)
theorem rV.match:∀ (bs:List Nat) (i k j:Nat),Bytes bs→O[k]? =some (co C j)→j < C.length→
 ∃ m:Nat,m≤bs.length∧((Ej l i (k:Int) (bs.map fun (n:Nat)=>(n:Int))=(((i+m:Nat):Int),1)∧0 < m∧runT C j (bs.take m)= -1)∨
  (Ej l i (k:Int) (bs.map fun (n:Nat)=>(n:Int))=(((i+m:Nat):Int),2)∧m=bs.length∧0≤runT C j bs)∨
  (Ej l i (k:Int) (bs.map fun (n:Nat)=>(n:Int))=(((i+m:Nat):Int),3)∧m < bs.length∧0≤runT C j (bs.take m)∧runT C j (bs.take (m+1))= -2))
 | [],i,k,j,_,hk,hj=>⟨0,by simp,.inr (.inl ⟨rfl,rfl,Int.natCast_nonneg j⟩)⟩
 |x::bs,i,k,j,hb,hk,hj=>by
  have hx:x < 256:=hb x (by simp)
  have hbs:Bytes bs:=fun y hy=>hb y (by simp[hy])
  have hj0:¬((j:Int) < 0):=by omega
  rw[List.map_cons,Ej]
  rcases h.step hk hj hx with⟨h1,h2⟩ | ⟨h1,h2⟩ | ⟨h1,h1',k',h2,h3,h4⟩
  ·rw[h2]
   refine⟨0,by simp,.inr (.inr ⟨rfl,by simp,Int.natCast_nonneg j,?_⟩)⟩
   show runT C j [x]= -2
   rw[runT,if_neg hj0,Int.toNat_natCast,h1];rfl
  ·rw[h2]
   refine⟨1,by simp,.inl ⟨rfl,by omega,?_⟩⟩
   show runT C j [x]= -1
   rw[runT,if_neg hj0,Int.toNat_natCast,h1];rfl
  ·rw[h2]
   simp only[Bool.true_eq_false,if_false]
   rw[if_neg (by omega)]
   obtain⟨m,hm,hc⟩:=rV.match bs (i+1) k' (Dg C j x).toNat hbs h4 (by omega)
   have hr:∀ w,runT C j (x::w)=runT C ((Dg C j x).toNat:Nat) w:=by
    intro w
    rw[runT,if_neg hj0,Int.toNat_natCast,Int.toNat_of_nonneg h1]
   have he:i+1+m=i+(m+1):=by omega
   rw[he] at hc
   refine⟨m+1,by simp;omega,?_⟩
   rcases hc with⟨c1,c2,c3⟩ | ⟨c1,c2,c3⟩ | ⟨c1,c2,c3,c4⟩
   ·exact .inl ⟨c1,by omega,by rw[List.take_succ_cons,hr];exact c3⟩
   ·exact .inr (.inl ⟨c1,by simp[c2],by rw[hr];exact c3⟩)
   ·exact .inr (.inr ⟨c1,by simp;omega,by rw[List.take_succ_cons,hr];exact c3,by rw[List.take_succ_cons,hr];exact c4⟩)
end
end Go.AM.B1
namespace Go.AM.B1
open Go.AM Go.AM.So
theorem kP {row:List Int} {e:Oe} (he:e∈Wf row):0≤e.lo∧e.lo≤e.hi∧e.hi < 256∧e.to≠ -2∧e.to=row.getD e.lo.toNat 0:=by
 have h:=zA row
 obtain⟨h1,h2,h3,h4⟩:=h.RB e he
 have hs:=h.step e.lo.toNat (by omega)
 rw[Int.toNat_of_nonneg h1,VC h.ord e he (Int.le_refl _) h2] at hs
 refine⟨h1,h2,h3,h4,?_⟩
 split at hs
 ·cases hs
 ·injection hs
theorem bF {ss:List dc} {l:List (List Oe)} (Aa:Hc ss) (hpre:gh ss) (h:vh ss=some l):∀ e∈l,Sn e:=by
 obtain⟨sets,C,O,L⟩:=mV Aa hpre h
 intro e he
 obtain⟨k,hk,rfl⟩:=List.getElem_of_mem he
 have hkO:k < O.length:=by rw[L.len];exact hk
 obtain⟨j,hj,ho⟩:=L.told.all O[k] (List.getElem_mem hkO)
 obtain⟨row,h1,h2⟩:=L.row (k:=k) (j:=j) (by rw[List.getElem?_eq_getElem hkO,ho]) hj
 rw[List.getElem?_eq_getElem hk] at h1
 injection h1 with h1
 have htos:=L.told.rY _ (List.getElem_mem hk)
 have h64:=(Ow h).1
 have hlen:=L.len
 rw[h1] at htos ⊢
 refine⟨fun x hx=> ?_,(zA row).ord⟩
 obtain⟨e1,e2,e3,e4,e5⟩:=kP hx
 have:=htos x hx
 refine⟨e1,e2,e3,?_,by omega⟩
 obtain⟨f1,f2⟩:=h2 x.lo.toNat (by omega)
 by_cases hc:Dg C j x.lo.toNat < 0
 ·have hb:=L.W.bound L.hl hj (x:=x.lo.toNat) (by omega)
  rw[f1 hc] at e5
  omega
 ·obtain⟨k',g1,_⟩:=f2 (by omega)
  rw[g1] at e5
  omega
def vF (r:List Int):PV:= .agg (r.map i64)
theorem HC {sz:Nat}:∀ {D:List (List PV)},(∀ r∈D,r.length=sz)→chunk sz true D.length D.flatten=D.map .agg
 | [],_=>rfl
 |r::D,h=>by
  have hr:=h r (by simp)
  rw[List.length_cons,chunk,if_pos rfl,List.flatten_cons,List.take_left' hr,List.drop_left' hr,HC fun x hx=>h x (by simp[hx])];rfl
theorem Uz:∀ {D:List (List Int)},(∀ r∈D,r.length=3)→Jh 3 D.length D.flatten=D
 | [],_=>rfl
 |r::D,h=>by
  have hr:=h r (by simp)
  rw[List.length_cons,Jh,List.flatten_cons,List.take_left' hr,List.drop_left' hr,Uz fun x hx=>h x (by simp[hx])]
def Oi (ss:List dc):List (List Int):=(Ao 3 0 (Li ss ss.length).toArray).toList
theorem gq (ss:List dc):(Oi ss).Perm (Li ss ss.length):=(yz 3 0 (Li ss ss.length).toArray).2.1
theorem vA {ss:List dc} {r:List Int} (h:r∈Oi ss):r.length=3:=Tw ((gq ss).mem_iff.1 h)
theorem XA (ss:List dc):(Oi ss).length=ss.length:=by rw[(gq ss).length_eq,Sp]
structure mv (T:PV) (ss:List dc) (l:List (List Oe)):Prop where
 ex:∃ S' NX DG RW,T= .rp [S',Ai l,NX,DG,RW,i64 (Og ss)] 0∧Di 2 S' (ss.map Le)∧Di 256 NX (l.map yn)∧Di 1 DG (ss.map fun s=>Vi s.parts)∧Di 3 RW ((Oi ss).map vF)
section
variable {S:PV} {ss:List dc} {es:List PV} (hS:Ab S ss es)
include hS
theorem NB {n:Int} {V:PV} (hV:(AV.pv V).one=true) (h0:n≠0) (h1:n≠130) (hb:Ec [.agg [S]]=some (.Zb [.agg [V],i64 n])):Eb [.agg [S]]=some (.Zb [.Mi,i64 n]):=by
 have hS1:(AV.pv S).one=true:=by rcases hS.is with⟨h,_⟩ | h <;> rw[h] <;> rfl
 have d0:(n==0)=false:=by simp[h0]
 have d1:(n==130)=false:=by simp[h1]
 have d2:(n != 0)=true:=by simp[h0]
 have st:Ra [.box [.pv .pa]] 1 (.ptr 0 0) (.pv (.agg [V]))=some [.box [.pv V]]:=by simp[Ra,AV.cells,PV.cells,hV,na]
 simp -implicitDefEqProofs only[Eb,XB.eq_1,SX,sevalprocAttr,Ei,hS1,Pf,hb,st,d0,d1,d2]
theorem mB {n:Int} {V:PV} {y:Bool} {a b:Int} (hV:(AV.pv V).one=true) (h0:n=0∨n=130) (hy:n=130∨y=false) (hb:Ec [.agg [S]]=some (.Zb [.agg [V],i64 n])) (hi:ch [.agg [S]]=some (.Zb [.agg [.bool y,i64 a,i64 b],i64 0])):
 Eb [.agg [S]]=some (.Zb [.Mi,i64 (if y then n else 111)]):=by
 have hS1:(AV.pv S).one=true:=by rcases hS.is with⟨h,_⟩ | h <;> rw[h] <;> rfl
 have st:Ra [.box [.pv .pa]] 1 (.ptr 0 0) (.pv (.agg [V]))=some [.box [.pv V]]:=by simp[Ra,AV.cells,PV.cells,hV,na]
 have st2:Ra [.box [.pv V],.box [.pv (.bool false),.pv (i64 0),.pv (i64 0)]] 3 (.ptr 1 0) (.pv (.agg [.bool y,i64 a,i64 b]))=some [.box [.pv V],.box [.pv (.bool y),.pv (i64 a),.pv (i64 b)]]:=rfl
 have p2:∀ a b c d,place [a,.box [b,c,d]] 0 (.ptr 1 0)=some (.ptr 1 0):=fun a b c d=>rfl
 have l2:∀ a b c d,ya [a,.box [b,c,d]] false 1 (.ptr 1 0)=some b:=fun a b c d=>rfl
 have z0:((0:Int)==0)=true:=rfl
 have z1:((130:Int)==0)=false:=rfl
 have z2:((130:Int)==130)=true:=rfl
 have z3:((130:Int) != 0)=true:=rfl
 have z4:((111:Int) != 0)=true:=rfl
 rcases h0 with rfl | rfl
 ·obtain rfl:y=false:=by rcases hy with h | h;cases h;exact h
  simp -implicitDefEqProofs only[Eb,XB.eq_1,SX,sevalprocAttr,Ei,hS1,Pf,hb,hi,st,st2,p2,l2,z0,z1,z2,z3,z4]
 ·cases y <;> simp -implicitDefEqProofs only[Eb,XB.eq_1,SX,sevalprocAttr,Ei,hS1,Pf,hb,hi,st,st2,p2,l2,z0,z1,z2,z3,z4]
end
end Go.AM.B1
namespace Go.AM.B1
open Go.AM Go.AM.So
theorem aE (l:List Int) (n:Nat):(Of l).all (AV.Be n deep)=true:=by
 rw[List.all_eq_true];intro x hx
 obtain⟨y,_,rfl⟩:=List.mem_map.1 hx
 rfl
theorem dS {V S':PV} {y:Bool} {a b:Int} (nl:Bool) (ds:List PV) (D:List (List Int)) (fl:Nat) (nr:Bool) (m:Int):
 Ng (Dx (.box [.pv V]) (.box [.pv (.bool y),.pv (i64 a),.pv (i64 b)]) (.tok 256 0 true) (.pv S') (.pv V) (.uq 3 true 256 []) nl ds D fl nr m):=by
 intro n hn o ho
 have hn:6≤n:=hn
 simp only[Dx,List.mem_cons,List.not_mem_nil,or_false] at ho
 rcases ho with rfl | rfl | rfl | rfl | rfl | rfl
 ·exact Fo n [V]
 ·exact Fo n [.bool y,i64 a,i64 b]
 ·simp only[ma,Qa,Ia,tE (show 3 < n by omega),tE (show 4 < n by omega),ZN (show 5 < n by omega),Option.bind_some,Option.map_some]
 ·rfl
 ·rfl
 ·simp only[ma,aE,if_true]
theorem nS {V S':PV} {y:Bool} {a b m:Int} {nl:Bool} {ds:List PV} {D:List (List Int)} {fl k:Nat} {nr:Bool} (nx:Bool) (es:List PV):
 Ng (Nv (.box [.pv V]) (.box [.pv (.bool y),.pv (i64 a),.pv (i64 b)]) (.tok 1 k nl) (.seq 3 true (Of D.flatten) fl nr) (.pv S') (.pv V) (.uq 4 nl 1 ds) (.own 5 k) (.pv (i64 m)) nx es):=by
 intro n hn o ho
 have hn:6≤n:=hn
 simp only[Nv,List.mem_cons,List.not_mem_nil,or_false] at ho
 rcases ho with rfl | rfl | rfl | rfl | rfl | rfl
 ·exact Fo n [V]
 ·exact Fo n [.bool y,i64 a,i64 b]
 ·simp only[ma,Qa,Ia,tE (show 3 < n by omega),tE (show 4 < n by omega),ZN (show 5 < n by omega),Option.bind_some,Option.map_some]
 ·rfl
 ·rfl
 ·simp only[ma,aE,if_true]
theorem TT {V S':PV} {o0 o1:ba} {m:Int} {nl nr nx:Bool} {ds es:List PV} {D:List (List Int)} {fl k:Nat} (hk:D.length=k) (hD:∀ r∈D,r.length=3) (h1:nl=true→ds=[]) (h2:nr=true→D=[]) (h3:nx=true→es=[]):
 ∃ NX DG RW,Ub (Nv o0 o1 (.tok 1 k nl) (.seq 3 true (Of D.flatten) fl nr) (.pv S') (.pv V) (.uq 4 nl 1 ds) (.own 5 k) (.pv (i64 m)) nx es) 5 (.ptr 2 0)=some (.rp [S',V,NX,DG,RW,i64 m] 0)∧
  Di 256 NX es∧Di 1 DG ds∧Di 3 RW (D.map vF):=by
 refine⟨if nx then .pa else .lit 256 es,if nl then .pa else .lit 1 ds,if nr then .pa else .lit 3 (D.map vF),?_,?_,?_,?_⟩
 ·have hc:k * 3=(Of D.flatten).length∧(true||(3:Nat)==1)=true:=⟨by rw[List.length_map,Sw hD,hk],rfl⟩
  have hm:Qa (Ub (Nv o0 o1 (.tok 1 k nl) (.seq 3 true (Of D.flatten) fl nr) (.pv S') (.pv V) (.uq 4 nl 1 ds) (.own 5 k) (.pv (i64 m)) nx es) 3) (Of D.flatten)=some (D.flatten.map i64):=by
   generalize Nv o0 o1 (.tok 1 k nl) (.seq 3 true (Of D.flatten) fl nr) (.pv S') (.pv V) (.uq 4 nl 1 ds) (.own 5 k) (.pv (i64 m)) nx es=H
   generalize D.flatten=F
   induction F with
   |nil=>rfl
   |cons x F ih=>
    show Qa (Ub H 3) (.pv (i64 x)::Of F)=_
    rw[Qa,ih];rfl
  have hch:chunk 3 true k (D.flatten.map i64)=D.map vF:=by
   have:=HC (sz:=3) (D:=D.map fun r=>r.map i64) (by
    intro r hr
    obtain⟨q,hq,rfl⟩:=List.mem_map.1 hr
    rw[List.length_map,hD q hq])
   rw[List.length_map,List.map_map,←List.map_flatten,hk] at this
   exact this
  have h5:(Nv o0 o1 (.tok 1 k nl) (.seq 3 true (Of D.flatten) fl nr) (.pv S') (.pv V) (.uq 4 nl 1 ds) (.own 5 k) (.pv (i64 m)) nx es)[5]? =some (.seq 3 true (Of D.flatten) fl nr):=rfl
  have hb:(Nv o0 o1 (.tok 1 k nl) (.seq 3 true (Of D.flatten) fl nr) (.pv S') (.pv V) (.uq 4 nl 1 ds) (.own 5 k) (.pv (i64 m)) nx es)[2]? =some (.box [.pv S',.pv V,.uq 3 nx 256 es,.uq 4 nl 1 ds,.own 5 k,.pv (i64 m)]):=rfl
  have ho:Ub (Nv o0 o1 (.tok 1 k nl) (.seq 3 true (Of D.flatten) fl nr) (.pv S') (.pv V) (.uq 4 nl 1 ds) (.own 5 k) (.pv (i64 m)) nx es) 4 (.own 5 k)=some (if nr then .pa else .lit 3 (D.map vF)):=by
   simp only[Ub,h5,if_pos hc,hm,Option.map_some,hch]
   cases nr <;> rfl
  generalize Nv o0 o1 (.tok 1 k nl) (.seq 3 true (Of D.flatten) fl nr) (.pv S') (.pv V) (.uq 4 nl 1 ds) (.own 5 k) (.pv (i64 m)) nx es=H at *
  show (match H[2]? with | some (.box cells)=>(Qa (Ub H 4) cells).map fun ps=>PV.rp ps 0 | _=>none)=_
  rw[hb]
  have hv:∀ p:PV,Ub H 4 (.pv p)=some p:=fun p=>rfl
  have hu:∀ id nl sz es,Ub H 4 (.uq id nl sz es)=some (if nl then .pa else .lit sz es):=fun _ _ _ _=>rfl
  simp only[Qa,hv,hu,ho,Option.bind_some,Option.map_some]
 ·cases nx with
  |false=>exact .inr rfl
  |true=>exact .inl ⟨rfl,h3 rfl⟩
 ·cases nl with
  |false=>exact .inr rfl
  |true=>exact .inl ⟨rfl,h1 rfl⟩
 ·cases nr with
  |false=>exact .inr rfl
  |true=>exact .inl ⟨rfl,by rw[h2 rfl];rfl⟩
theorem gT {ss:List dc} (h32:ss.length≤32) {H:List ba} {fl:Nat} {nr:Bool} (hH:H[5]? =some (.seq 3 true (Of (Li ss ss.length).flatten) fl nr)):
 Hh Vq (fun _=>none) 8 34 [.own 5 ss.length,.gl 36 []] H=some (.pv (.Zb []),H.set 5 (.seq 3 true (Of (Oi ss).flatten) (ss.length * 3) nr)):=by
 have e34:∀ (d:Nat) args H,Hh Vq (fun _=>none) (d+1) 34 args H=rz 3 0 36 args H:=fun d args H=>rfl
 rw[e34 7]
 have hl:(Of (Li ss ss.length).flatten).length=ss.length * 3:=by rw[List.length_map,Sw fun r hr=>Tw hr,Sp]
 simp only[rz,hH]
 rw[if_pos ⟨trivial,trivial,hl.symm,by omega⟩,ru,Option.map_some,hl]
 have:=Uz (D:=Li ss ss.length) fun r hr=>Tw hr
 rw[Sp] at this
 rw[this];rfl
theorem jE {S:PV} {ss:List dc} {es:List PV} (hS:Ab S ss es) (Aa:Hc ss) (hpre:gh ss) {l:List (List Oe)} (ha:vh ss=some l) {a b:Int} (hi:ch [.agg [S]]=some (.Zb [.agg [.bool true,i64 a,i64 b],i64 0])):
 ∃ T,Eb [.agg [S]]=some (.Zb [T,i64 0])∧mv T ss l:=by
 have hS1:(AV.pv S).one=true:=by rcases hS.is with⟨h,_⟩ | h <;> rw[h] <;> rfl
 have hb:=(Ci hS).2.2.2 Aa hpre l ha
 obtain⟨S',hcp,hS'⟩:=EC hS Aa
 have hS'1:(AV.pv S').one=true:=by rcases hS' with⟨h,_⟩ | h <;> rw[h] <;> rfl
 have lS:=hS.Wb
 obtain⟨k64,k256⟩:=Ow ha
 have hst:=Gy k64 k256
 have hV1:(AV.pv (Ai l)).one=true:=rfl
 have hVl:Di 1 (Ai l) (l.map ee):= .inr rfl
 have lV:=hVl.len
 rw[List.length_map] at lV
 have heo:=bF Aa hpre ha
 obtain⟨V,hVe⟩:∃ V,V=Ai l:=⟨_,rfl⟩
 rw[← hVe] at hb hst hV1 hVl lV
 have st:Ra [.box [.pv .pa]] 1 (.ptr 0 0) (.pv (.agg [V]))=some [.box [.pv V]]:=by simp[Ra,AV.cells,PV.cells,hV1,na]
 have st2:Ra [.box [.pv V],.box [.pv (.bool false),.pv (i64 0),.pv (i64 0)]] 3 (.ptr 1 0) (.pv (.agg [.bool true,i64 a,i64 b]))=some [.box [.pv V],.box [.pv (.bool true),.pv (i64 a),.pv (i64 b)]]:=rfl
 have p2:∀ a b c d,place [a,.box [b,c,d]] 0 (.ptr 1 0)=some (.ptr 1 0):=fun a b c d=>rfl
 have l2:∀ a b c d,ya [a,.box [b,c,d]] false 1 (.ptr 1 0)=some b:=fun a b c d=>rfl
 have l3:ya [.box [.pv V],.box [.pv (.bool true),.pv (i64 a),.pv (i64 b)]] true 1 (.ptr 0 0)=some (.pv (.agg [V])):=rfl
 have z0:((0:Int)==0)=true:=rfl
 have z1:((0:Int) != 0)=false:=rfl
 have m1:na [AV.pv PV.pa,.pv .pa,.pv .pa,.pv .pa,.pv .pa,.pv (.int .i64 0)] 0 [AV.pv S']=[.pv S',.pv .pa,.pv .pa,.pv .pa,.pv .pa,.pv (.int .i64 0)]:=rfl
 have m2:na [AV.pv S',.pv .pa,.pv .pa,.pv .pa,.pv .pa,.pv (.int .i64 0)] 1 [AV.pv V]=[.pv S',.pv V,.pv .pa,.pv .pa,.pv .pa,.pv (.int .i64 0)]:=rfl
 have m3:nf [AV.pv S',.pv V,.pv .pa,.pv .pa,.pv .pa,.pv (.int .i64 0)]=some [S',V,.pa,.pa,.pa,.int .i64 0]:=rfl
 have hz1:(0 < 256)=True:=by simp
 have hz2:(0 < 3)=True:=by simp
 have hz3:(0 < 1)=True:=by simp
 suffices key:Td (fun r=>∃ T,r= .Zb [T,i64 0]∧mv T ss l) (Eb [.agg [S]]) by
  obtain⟨r,h1,T,rfl,h2⟩:=Fc key
  exact⟨T,h1,h2⟩
 generalize hQ:(fun r=>∃ T,r=PV.Zb [T,i64 0]∧_)=Q
 simp -implicitDefEqProofs only[Eb,XB.eq_1,SX,sevalprocAttr,Ei,hS1,hV1,hS'1,Pf,Pa,Hb,hb,hi,st,st2,p2,l2,l3,z0,z1,hcp,m1,m2,m3,vN,Vf,hz1,hz2,hz3,lS]
 generalize hEE:(Tr.set _ 48 _:Tr)=E
 have q4:E.get 4= .ptr 0 0:=by rw[← hEE];simp[Tr.aa]
 have q8:E.get 8= .ptr 2 0:=by rw[← hEE];simp[Tr.aa]
 have q46:E.get 46= .pv S:=by rw[← hEE];simp[Tr.aa]
 have q47:E.get 47= .pv (i64 ss.length):=by rw[← hEE];simp[Tr.aa]
 have q48:E.get 48= .pv (i64 0):=by rw[← hEE];simp[Tr.aa]
 refine xa (LU (call:=Hh Vq (fun _=>none) 8) (dS (V:=V) (S':=S') (y:=true) (a:=a) (b:=b)) hS Aa q4 q8 q46 q47 q48) ?_
 rintro r ⟨_,E2,nl,nr,rfl,g4,g8,hnl,hnr⟩
 have hdl:(ss.map fun s=>Vi s.parts).length=ss.length:=by rw[List.length_map]
 have hrl:=Sp ss ss.length
 have hDl:=XA ss
 have p5:∀ d,place (Dx (.box [.pv V]) (.box [.pv (.bool true),.pv (i64 a),.pv (i64 b)]) (.tok 256 0 true) (.pv S') (.pv V) (.uq 3 true 256 []) nl (ss.map fun s=>Vi s.parts) (Li ss ss.length) 0 nr (Og ss)) d (.ptr 2 0)=some (.ptr 2 (0+d)):=fun d=>wg rfl d 0
 have l5:ya (Dx (.box [.pv V]) (.box [.pv (.bool true),.pv (i64 a),.pv (i64 b)]) (.tok 256 0 true) (.pv S') (.pv V) (.uq 3 true 256 []) nl (ss.map fun s=>Vi s.parts) (Li ss ss.length) 0 nr (Og ss)) false 1 (.ptr 2 4)=some (.own 5 ss.length):=by
  rw[← hrl,Sp]
  show some (AV.own 5 (Li ss ss.length).length)=_
  rw[hrl]
 have hsort:=gT Aa.len (H:=Dx (.box [.pv V]) (.box [.pv (.bool true),.pv (i64 a),.pv (i64 b)]) (.tok 256 0 true) (.pv S') (.pv V) (.uq 3 true 256 []) nl (ss.map fun s=>Vi s.parts) (Li ss ss.length) 0 nr (Og ss)) rfl
 have hHT:(Dx (.box [.pv V]) (.box [.pv (.bool true),.pv (i64 a),.pv (i64 b)]) (.tok 256 0 true) (.pv S') (.pv V) (.uq 3 true 256 []) nl (ss.map fun s=>Vi s.parts) (Li ss ss.length) 0 nr (Og ss)).set 5 (.seq 3 true (Of (Oi ss).flatten) (ss.length * 3) nr)=Nv (.box [.pv V]) (.box [.pv (.bool true),.pv (i64 a),.pv (i64 b)]) (.tok 1 ss.length nl) (.seq 3 true (Of (Oi ss).flatten) (ss.length * 3) nr) (.pv S') (.pv V) (.uq 4 nl 1 (ss.map fun s=>Vi s.parts)) (.own 5 ss.length) (.pv (i64 (Og ss))) true []:=by
  unfold Dx Nv
  rw[hdl,hrl];rfl
 rw[hHT] at hsort
 have p6:∀ d,place (Nv (.box [.pv V]) (.box [.pv (.bool true),.pv (i64 a),.pv (i64 b)]) (.tok 1 ss.length nl) (.seq 3 true (Of (Oi ss).flatten) (ss.length * 3) nr) (.pv S') (.pv V) (.uq 4 nl 1 (ss.map fun s=>Vi s.parts)) (.own 5 ss.length) (.pv (i64 (Og ss))) true []) d (.ptr 0 0)=some (.ptr 0 (0+d)):=fun d=>wg rfl d 0
 have l6:ya (Nv (.box [.pv V]) (.box [.pv (.bool true),.pv (i64 a),.pv (i64 b)]) (.tok 1 ss.length nl) (.seq 3 true (Of (Oi ss).flatten) (ss.length * 3) nr) (.pv S') (.pv V) (.uq 4 nl 1 (ss.map fun s=>Vi s.parts)) (.own 5 ss.length) (.pv (i64 (Og ss))) true []) false 1 (.ptr 0 0)=some (.pv V):=rfl
 have hnx:=fun (E3:Tr) (r8:E3.get 8= .ptr 2 0) (r101:E3.get 101= .pv V) (r102:E3.get 102= .pv (i64 l.length)) (r103:E3.get 103= .pv (i64 0))=>
  PU (call:=Hh Vq (fun _=>none) 8) (nS (V:=V) (S':=S') (y:=true) (a:=a) (b:=b) (m:=Og ss) (nl:=nl) (ds:=ss.map fun s=>Vi s.parts) (D:=Oi ss) (fl:=ss.length * 3) (k:=ss.length) (nr:=nr)) hVl k64 k256 heo r8 r101 r102 r103
 obtain⟨NX,hNX⟩:∃ x,x=fun nx=>Nv (.box [.pv V]) (.box [.pv (.bool true),.pv (i64 a),.pv (i64 b)]) (.tok 1 ss.length nl) (.seq 3 true (Of (Oi ss).flatten) (ss.length * 3) nr) (.pv S') (.pv V) (.uq 4 nl 1 (ss.map fun s=>Vi s.parts)) (.own 5 ss.length) (.pv (i64 (Og ss))) nx (l.map yn):=⟨_,rfl⟩
 have hnx':=hnx
 generalize Dx (.box [.pv V]) (.box [.pv (.bool true),.pv (i64 a),.pv (i64 b)]) (.tok 256 0 true) (.pv S') (.pv V) (.uq 3 true 256 []) nl (ss.map fun s=>Vi s.parts) (Li ss ss.length) 0 nr (Og ss)=HS at *
 simp -implicitDefEqProofs only[SX,sevalprocAttr,g4,g8,p5,l5,hsort,p6,l6,lV]
 generalize hEE3:(Tr.set _ 103 _:Tr)=E3
 refine xa (hnx E3 (by rw[← hEE3];simp[Tr.aa,g8]) (by rw[← hEE3];simp[Tr.aa]) (by rw[← hEE3];simp[Tr.aa]) (by rw[← hEE3];simp[Tr.aa])) ?_
 rintro r ⟨_,E4,nx,rfl,r8,hx⟩
 obtain⟨NX,DG,RW,t1,t2,t3,t4⟩:=TT (V:=V) (S':=S') (o0:= .box [.pv V]) (o1:= .box [.pv (.bool true),.pv (i64 a),.pv (i64 b)]) (m:=Og ss) (nl:=nl) (nr:=nr) (nx:=nx) (ds:=ss.map fun s=>Vi s.parts) (es:=l.map yn) (D:=Oi ss) (fl:=ss.length * 3) (k:=ss.length) hDl (fun r hr=>vA hr) (fun h=>by rw[hnl h];rfl) (fun h=>by have:=hDl;rw[hnr h] at this ⊢;exact List.eq_nil_of_length_eq_zero this) (fun h=>by rw[hx h];rfl)
 generalize Nv (.box [.pv V]) (.box [.pv (.bool true),.pv (i64 a),.pv (i64 b)]) (.tok 1 ss.length nl) (.seq 3 true (Of (Oi ss).flatten) (ss.length * 3) nr) (.pv S') (.pv V) (.uq 4 nl 1 (ss.map fun s=>Vi s.parts)) (.own 5 ss.length) (.pv (i64 (Og ss))) nx (l.map yn)=HT at *
 have hm1:JG [AV.ptr 2 0,.pv (.int .i64 0)]= .Zb [.ptr 2 0,.pv (.int .i64 0)]:=rfl
 have htp:Ub HT 6 (.Zb [.ptr 2 0,.pv (.int .i64 0)])=some (.Zb [.rp [S',V,NX,DG,RW,i64 (Og ss)] 0,i64 0]):=by
  show (Qa (Ub HT 5) [AV.ptr 2 0,.pv (.int .i64 0)]).map PV.Zb=_
  have hv:Ub HT 5 (.pv (.int .i64 0))=some (.int .i64 0):=rfl
  simp only[Qa,t1,hv,Option.bind_some,Option.map_some]
 simp -implicitDefEqProofs only[SX,sevalprocAttr,r8,iE,hm1,htp]
 subst hQ
 exact⟨_,rfl,⟨S',NX,DG,RW,by rw[hVe],hS',t2,t3,t4⟩⟩
theorem Qp {S:PV} {ss:List dc} {es:List PV} (hS:Ab S ss es):∃ T n,Eb [.agg [S]]=some (.Zb [T,i64 n])∧(n≠0→T= .Mi)∧
 (¬ Hc ss→n=84)∧(Hc ss→¬gh ss→n=110)∧(Hc ss→gh ss→¬Ql ss→n=111)∧(Hc ss→gh ss→Ql ss→vh ss=none→n=130)∧
 (∀ l,Hc ss→gh ss→Ql ss→vh ss=some l→n=0∧mv T ss l):=by
 have hb:=Ci hS
 by_cases h1:Hc ss
 ·by_cases h2:gh ss
  ·obtain⟨y,a,b,hi,hy⟩:=nM hS h1
   by_cases h3:Ql ss
   ·have:=hy.2 h3
    subst this
    cases h4:vh ss with
    |none=>
     have:=mB hS (n:=130) (V:= .pa) rfl (.inr rfl) (.inl rfl) (hb.2.2.1 h1 h2 h4) hi
     exact⟨.Mi,130,this,fun _=>rfl,fun h=>absurd h1 h,fun _ h=>absurd h2 h,fun _ _ h=>absurd h3 h,fun _ _ _ _=>rfl,fun l _ _ _ h=>(by cases h)⟩
    |some l=>
     obtain⟨T,t1,t2⟩:=jE hS h1 h2 h4 hi
     refine⟨T,0,t1,fun h=>absurd rfl h,fun h=>absurd h1 h,fun _ h=>absurd h2 h,fun _ _ h=>absurd h3 h,fun _ _ _ h=>(by cases h),fun l' _ _ _ h=> ?_⟩
     injection h with h
     exact⟨rfl,h ▸ t2⟩
   ·have hyf:y=false:=by cases y with | false=>rfl | true=>exact absurd (hy.1 rfl) h3
    subst hyf
    have key:∃ n V,(AV.pv V).one=true∧(n=0∨n=130)∧Ec [.agg [S]]=some (.Zb [.agg [V],i64 n]):=by
     cases h4:vh ss with
     |none=>exact⟨130,.pa,rfl,.inr rfl,hb.2.2.1 h1 h2 h4⟩
     |some l=>exact⟨0,Ai l,rfl,.inl rfl,hb.2.2.2 h1 h2 l h4⟩
    obtain⟨n,V,k1,k2,k3⟩:=key
    have:=mB hS k1 k2 (.inr rfl) k3 hi
    exact⟨.Mi,111,this,fun _=>rfl,fun h=>absurd h1 h,fun _ h=>absurd h2 h,fun _ _ _=>rfl,fun _ _ h=>absurd h h3,fun l _ _ h=>absurd h h3⟩
  ·have:=NB hS (n:=110) (V:= .pa) rfl (by decide) (by decide) (hb.2.1 h1 h2)
   exact⟨.Mi,110,this,fun _=>rfl,fun h=>absurd h1 h,fun _ _=>rfl,fun _ h=>absurd h h2,fun _ h=>absurd h h2,fun l _ h=>absurd h h2⟩
 ·have:=NB hS (n:=84) (V:= .pa) rfl (by decide) (by decide) (hb.1 h1)
  exact⟨.Mi,84,this,fun _=>rfl,fun _=>rfl,fun h=>absurd h h1,fun h=>absurd h h1,fun h=>absurd h h1,fun l h=>absurd h h1⟩
theorem DP {S:PV} {ss:List dc} {es:List PV} (hS:Ab S ss es):∃ T n,Eb [.agg [S]]=some (.Zb [T,i64 n])∧
 ((n≠0∧T= .Mi)∨(n=0∧Hc ss∧gh ss∧Ql ss∧∃ l,vh ss=some l∧mv T ss l∧∀ e∈l,Sn e)):=by
 obtain⟨T,n,hc,hn,h1,h2,h3,h4,h5⟩:=Qp hS
 refine⟨T,n,hc,?_⟩
 by_cases h0:n=0
 ·refine .inr ⟨h0,?_⟩
  by_cases k1:Hc ss
  ·by_cases k2:gh ss
   ·by_cases k3:Ql ss
    ·cases k4:vh ss with
     |none=>have:=h4 k1 k2 k3 k4;omega
     |some l=>exact⟨k1,k2,k3,l,rfl,(h5 l k1 k2 k3 k4).2,bF k1 k2 k4⟩
    ·have:=h3 k1 k2 k3;omega
   ·have:=h2 k1 k2;omega
  ·have:=h1 k1;omega
 ·exact .inl ⟨h0,hn h0⟩
end Go.AM.B1
namespace Go.AM.B1
open Go.AM Go.AM.So
def vI (ls:List (List (Int×Int))) (i:Nat):List PV:=(List.range 258).map fun k=>jH ls (i * 258+k)
theorem eF (H:List ba) (d o:Nat) (row:List PV):place H d (.pv (.rp row o))=some (.pv (.rp row (o+d))):=rfl
theorem tY (H:List ba) (o n:Nat) (row:List PV):place H (n * 1) (.pv (.rp row o))=some (.pv (.rp row (o+n))):=by rw[Nat.mul_one];rfl
theorem sG {ls:List (List (Int×Int))} {i:Nat} (hi:i < ls.length) (H:List ba):qa H 258 (.pv (.lit 258 ((List.range ls.length).map (yH ls)))) (i:Int)=some (.pv (.rp (vI ls i) 0)):=by
 simp only[qa]
 rw[if_pos ⟨trivial,by unfold Fa;simp;omega⟩,Int.toNat_natCast,List.getElem?_map,List.getElem?_range hi];rfl
theorem XD {ls:List (List (Int×Int))} {i k:Nat} (hk:k < 258) (H:List ba):ya H false 1 (.pv (.rp (vI ls i) k))=some (.pv (jH ls (i * 258+k))):=by
 have:(vI ls i)[k]? =some (jH ls (i * 258+k)):=by rw[vI,List.getElem?_map,List.getElem?_range hk];rfl
 simp only[ya,Tl,Bool.false_eq_true,if_false,this];rfl
theorem iX {ls:List (List (Int×Int))} {i:Nat} (H:List ba):ya H false 1 (.pv (.rp (vI ls i) 0))=some (.pv (Xo (ls.getD i []))):=by
 rw[XD (by omega),jH,if_pos (by omega),show (i * 258+0) / 258=i by omega]
theorem IT {ls:List (List (Int×Int))} {i:Nat} (H:List ba):ya H false 1 (.pv (.rp (vI ls i) 257))=some (.pv (i64 (Ca (ls.drop (i+1))))):=by
 rw[XD (by omega),jH,if_neg (by omega),if_pos (by omega),show (i * 258+257) / 258=i by omega]
theorem cX {ls:List (List (Int×Int))} {i y:Nat} (hy:y < 256) (H:List ba):ya H false 1 (.pv (.rp (vI ls i) (1+y)))=some (.pv (lu (ls.getD i []) y)):=by
 rw[XD (by omega),jH,if_neg (by omega),if_neg (by omega),show (i * 258+(1+y)) / 258=i by omega,show (i * 258+(1+y)) % 258 - 1=y by omega]
theorem VN {ls:List (List (Int×Int))} {i:Nat} (hi:i < ls.length):ls.getD i []=ls[i]:=by rw[List.getD_eq_getElem?_getD,List.getElem?_eq_getElem hi];rfl
abbrev eK (C B:PV) (n i k:Int):Tr:=((((Tr.lf.set 22 (.pv (i64 i))).set 21 (.pv (i64 n))).set 6 (.pv (i64 k))).set 1 (.pv B)).set 0 (.pv (.rp [C] 0))
theorem VH {s:dc} {B:PV} {bs:List Int} (hB:Vj B bs) (Aa:Nd s):
 (∀ k,Nf s bs=some k→ff [Vi s.parts,B]=some (.Zb [i64 k,.bool true]))∧(Nf s bs=none→ff [Vi s.parts,B]=some (.Zb [i64 0,.bool false])):=by
 have lB:=hB.Wb
 have h8:=Aa.hi
 have hpr:=Aa.prod.2
 have hia:=fun {i:Nat} (hi:i < s.parts.length)=>sG (ls:=s.parts) hi
 have hcl:((List.range s.parts.length).map (yH s.parts)).length=s.parts.length:=by simp
 have hdg:Vi s.parts= .rp [.lit 258 ((List.range s.parts.length).map (yH s.parts))] 0:=rfl
 rw[hdg]
 generalize (List.range s.parts.length).map (yH s.parts)=C at *
 by_cases hlen:bs.length=s.parts.length
 ·have hrk:Nf s bs=Ag s.parts bs 0:=by unfold Nf;rw[if_pos hlen]
  have hloop:Td (fun r=>∃ E,(r=(.ret,⟨E,[]⟩)∧E.get 4= .pv (i64 0)∧E.get 5= .pv (.bool false)∧Ag s.parts bs 0=none)∨(∃ k,r=(.exit 0,⟨E,[]⟩)∧E.get 6= .pv (i64 k)∧Ag s.parts bs 0=some k))
   (gb (fa (ta (Ga (fun _=>none) 8) Wd) (ga 0 [0,1,6,21,22])) oa ⟨eK (.lit 258 C) B s.parts.length 0 0,[]⟩):=by
   refine xa (Nb (g:=fa (ta (Ga (fun _=>none) 8) Wd) (ga 0 [0,1,6,21,22]))
    (fun i t=>∃ k,t=⟨eK (.lit 258 C) B s.parts.length i k,[]⟩∧0≤k∧k+Ca (s.parts.drop i)≤Ca s.parts∧Ag s.parts bs 0=Ag (s.parts.drop i) (bs.drop i) k)
    s.parts.length (by unfold oa;omega) _ ⟨0,rfl,by omega,by simp,rfl⟩ ?_ ?_) (fun r h=>h.2)
   ·rintro i t hi ⟨k,rfl,hk0,hk1,hs⟩
    have hpo:=Aa.parts s.parts[i] (List.getElem_mem hi)
    have hib:i < bs.length:=by omega
    have a3:=hB.pd hib
    have hbr:=hB.RB bs[i] (List.getElem_mem hib)
    have hd:s.parts.drop i=s.parts[i]::s.parts.drop (i+1):=List.drop_eq_getElem_cons hi
    have hdb:bs.drop i=bs[i]::bs.drop (i+1):=List.drop_eq_getElem_cons hib
    have hrb:=fm (x:=bs[i]) (n:=0) hpo.2
    rw[hd,Ca] at hk1
    rw[hd,hdb,Ag] at hs
    have hle:=zn Aa.parts (i+1)
    have hpos:=Cd (ls:=s.parts.drop (i+1)) fun x hx=>Aa.parts x (List.mem_of_mem_drop hx)
    have hsz:=qf hpo
    have a1:=hia hi
    have a4:=IT (ls:=s.parts) (i:=i)
    have a5:=cX (ls:=s.parts) (i:=i) (y:=(bs[i]).toNat) (by omega)
    rw[VN hi] at a5
    generalize vI s.parts i=R at *
    generalize s.parts[i]=l at *
    generalize bs[i]=x at *
    have hwp:lu l x.toNat= .int .u16 (if (Md x 0 l).2 then (Md x 0 l).1+1 else 0):=by unfold lu;rw[Int.toNat_of_nonneg hbr.1]
    rw[hwp] at a5
    have e1:decide ((i:Int) < (s.parts.length:Int))=true:=Da (by omega)
    have t2:=Ua hi (by unfold maxLen;omega)
    have hidx:(0≤x∧x < ((256:Nat):Int))=True:=eq_true (by omega)
    obtain⟨⟨d,is⟩,hrk2⟩:∃ r,r=Md x 0 l:=⟨_,rfl⟩
    rw[← hrk2] at hs hrb a5
    generalize hQ:LN _ _ i=Q
    cases is with
    |false=>
     simp only[Bool.false_eq_true,if_false] at hs a5
     have t3:IntKind.i64.wrap 0=0:=rfl
     have z1:((0:Int)==0)=true:=rfl
     simp -implicitDefEqProofs only[SX,sevalprocAttr,Wd,e1,a1,a3,a5,eF,tY,Pa,hidx,t3,z1,eK]
     subst hQ
     exact⟨_,.inl ⟨rfl,by simp[Tr.aa],by simp[Tr.aa],hs⟩⟩
    |true=>
     simp only[if_true] at hs a5
     have hb2:=hrb rfl
     simp only at hb2
     have hmul:d * Ca (s.parts.drop (i+1))+Ca (s.parts.drop (i+1))≤Ca (s.parts.drop (i+1)) * Sb 0 l:=by
      have h1:(d+1) * Ca (s.parts.drop (i+1))≤Sb 0 l * Ca (s.parts.drop (i+1)):=Int.mul_le_mul_of_nonneg_right (by omega) (by omega)
      rw[Int.add_mul,Int.one_mul,Int.mul_comm (Sb 0 l)] at h1
      exact h1
     have hm0:0≤d * Ca (s.parts.drop (i+1)):=Int.mul_nonneg (by omega) (by omega)
     have t3:IntKind.i64.wrap (d+1)=d+1:=Ba (by omega)
     have t6:IntKind.i64.wrap (d+1 - 1)=d:=by rw[show d+1 - 1=d by omega];exact Ba (by omega)
     have z1:((d+1:Int)==0)=false:=by simp;omega
     have t4:IntKind.i64.wrap (d * Ca (s.parts.drop (i+1)))=d * Ca (s.parts.drop (i+1)):=Ba (by omega)
     have t5:IntKind.i64.wrap (k+d * Ca (s.parts.drop (i+1)))=k+d * Ca (s.parts.drop (i+1)):=Ba (by omega)
     simp -implicitDefEqProofs only[SX,sevalprocAttr,Wd,e1,t2,t3,t4,t5,t6,z1,a1,a3,a4,a5,eF,tY,Pa,hidx,ga,za,AV.cut,wa,eK]
     subst hQ
     exact⟨_,rfl,by omega,by omega,hs⟩
   ·rintro t ⟨k,rfl,hk0,hk1,hs⟩
    rw[List.drop_length,Fq] at hs
    have e1:decide ((s.parts.length:Int) < (s.parts.length:Int))=false:=Ha (by omega)
    generalize hQ:(fun r:Ex×St=>r.1.stop=true∧_)=Q
    simp -implicitDefEqProofs only[SX,sevalprocAttr,Wd,e1,eK]
    subst hQ
    exact⟨rfl,_,.inr ⟨k,rfl,by simp[Tr.aa],hs⟩⟩
  obtain⟨r,h1,E,h2⟩:=Fc hloop
  have h1':gb (fa (ta (Ga (fun _=>none) 8) Wd) (ga 0 [0,1,6,21,22])) oa ⟨((((Tr.lf.set 22 (.pv (.int .i64 0))).set 21 (.pv (i64 s.parts.length))).set 6 (.pv (.int .i64 0))).set 1 (.pv B)).set 0 (.pv (.rp [.lit 258 C] 0)),[]⟩=some r:=h1
  have d1:((bs.length:Int) != (s.parts.length:Int))=false:=by rw[hlen];simp
  rw[hrk]
  rcases h2 with⟨rfl,h4,h5,hn⟩ | ⟨k,rfl,h6,hk⟩
  ·refine⟨fun k hk=>by (rw[hn] at hk;cases hk),fun _=> ?_⟩
   simp -implicitDefEqProofs only[ff,SX,sevalprocAttr,xh,xb,eF,Pa,lB,hcl,d1,ga,za,AV.cut,wa,h1',h4,h5]
  ·refine⟨fun k' hk'=> ?_,fun hn=>by (rw[hk] at hn;cases hn)⟩
   obtain rfl:k=k':=Option.some.inj (hk.symm.trans hk')
   simp -implicitDefEqProofs only[ff,SX,sevalprocAttr,xh,xb,eF,Pa,lB,hcl,d1,ga,za,AV.cut,wa,h1',h6]
 ·have d1:((bs.length:Int) != (s.parts.length:Int))=true:=by
   have:(bs.length:Int)≠(s.parts.length:Int):=by omega
   simp[this]
  have hrk:Nf s bs=none:=by unfold Nf;rw[if_neg hlen]
  refine⟨fun k hk=>by (rw[hrk] at hk;cases hk),fun _=> ?_⟩
  simp -implicitDefEqProofs only[ff,SX,sevalprocAttr,xh,eF,Pa,lB,hcl,d1]
theorem tV {l:List (Int×Int)} (h:zc l) {k x:Int} (h0:0≤k) (h1:k < Sb 0 l) (hx:eM k l=some x):(Jk l)[k.toNat]? =some x:=by
 obtain⟨y,q1,_,_,_,q5⟩:=Rp h.2 h0 h1
 rw[hx] at q1;injection q1 with q1;subst q1
 have hr:=q5 0
 obtain⟨m,e1,e2⟩:=Em (n:=0) h.2 (by rw[hr])
 rw[hr] at e2
 simp only at e2
 rw[show k.toNat=m by omega];exact e1
abbrev gO (C:PV) (n i k:Int) (es:List PV):Tr:=((((Tr.lf.set 19 (.pv (i64 i))).set 18 (.pv (i64 n))).set 5 (.uq 0 false 1 es)).set 1 (.pv (i64 k))).set 0 (.pv (.rp [C] 0))
theorem ZE {s:dc} (Aa:Nd s) {k:Int} (h0:0≤k) (h1:k < Ca s.parts):zi [Vi s.parts,i64 k]=some (.lit 1 ((we s.parts k).map (PV.int .u8))):=by
 have h8:=Aa.hi
 have hpr:=Aa.prod.2
 have hia:=fun {i:Nat} (hi:i < s.parts.length)=>sG (ls:=s.parts) hi
 have hcl:((List.range s.parts.length).map (yH s.parts)).length=s.parts.length:=by simp
 have hdg:Vi s.parts= .rp [.lit 258 ((List.range s.parts.length).map (yH s.parts))] 0:=rfl
 rw[hdg]
 generalize (List.range s.parts.length).map (yH s.parts)=C at *
 have hloop:Td (fun r=>∃ E H,r=(.exit 0,⟨E,H⟩)∧E.get 5= .uq 0 false 1 ((we s.parts k).map (PV.int .u8)))
  (gb (fa (ta (Ga (fun _=>none) 8) Ff) (ga 1 [0,1,5,18,19])) oa ⟨gO (.lit 258 C) s.parts.length 0 k [],[.tok 1 0 false]⟩):=by
  refine xa (Nb (fun i t=>∃ j es,t=⟨gO (.lit 258 C) s.parts.length i j (es.map (PV.int .u8)),[.tok 1 i false]⟩∧0≤j∧j < Ca (s.parts.drop i)∧es.length=i∧we s.parts k=es++we (s.parts.drop i) j)
   s.parts.length (by unfold oa;omega) _ ⟨k,[],rfl,h0,h1,rfl,rfl⟩ ?_ ?_) (fun r h=>h.2)
  ·rintro i t hi ⟨j,es,rfl,hj0,hj1,hel,hs⟩
   have hpo:=Aa.parts s.parts[i] (List.getElem_mem hi)
   have hd:s.parts.drop i=s.parts[i]::s.parts.drop (i+1):=List.drop_eq_getElem_cons hi
   rw[hd,Ca] at hj1
   rw[hd,we] at hs
   have hpos:=Cd (ls:=s.parts.drop (i+1)) fun x hx=>Aa.parts x (List.mem_of_mem_drop hx)
   have hle:=zn Aa.parts (i+1)
   have hdv:=JH hj0 hpos hj1
   obtain⟨x,q3,q4,q5,_⟩:=Rp hpo.2 hdv.1 hdv.2.1
   rw[q3,Option.getD_some] at hs
   have hm:=tV hpo hdv.1 hdv.2.1 q3
   have hml:=getElem?_lt hm
   have hle2:=zn Aa.parts i
   rw[hd,Ca] at hle2
   have t3:IntKind.i64.wrap (j.tdiv (Ca (s.parts.drop (i+1))))=j.tdiv (Ca (s.parts.drop (i+1))):=Ba (by
    have:=hdv.2.2.2.2
    have h5:j.tdiv (Ca (s.parts.drop (i+1))) * 1≤j.tdiv (Ca (s.parts.drop (i+1))) * Ca (s.parts.drop (i+1)):=Int.mul_le_mul_of_nonneg_left hpos hdv.1
    omega)
   have a1:=hia hi
   have a4:=IT (ls:=s.parts) (i:=i)
   have a5:=iX (ls:=s.parts) (i:=i)
   rw[VN hi] at a5
   generalize vI s.parts i=R at *
   generalize s.parts[i]=l at *
   have a6:∀ H,qa H 1 (.pv (Xo l)) (j.tdiv (Ca (s.parts.drop (i+1))))=some (.pv (.rp [.int .u8 x] 0)):=fun H=>by
    simp only[qa,Xo]
    rw[if_pos ⟨trivial,by unfold Fa;rw[List.length_map];omega⟩,List.getElem?_map,hm];rfl
   have e1:decide ((i:Int) < (s.parts.length:Int))=true:=Da (by omega)
   have t2:=Ua hi (by unfold maxLen;omega)
   have z0:(Ca (s.parts.drop (i+1))=0)=False:=by simp;omega
   have hap:=Wq (A:=[.tok 1 i false]) (id:=0) (n:=i) (h:= .uq) (nl:=false) (bytes:=1) (es:=es.map (PV.int .u8)) rfl (by simp[hel]) (by unfold pb;omega) (.int .u8 x)
   rw[List.set_cons_zero] at hap
   have hbm:(es++[x]).map (PV.int .u8)=es.map (PV.int .u8)++[.int .u8 x]:=by simp
   generalize hpq:Ca (s.parts.drop (i+1))=pr at *
   generalize hQ:LN _ _ i=QQ
   simp -implicitDefEqProofs only[SP,WP,na,sevalprocAttr,Ff,e1,t2,t3,z0,a1,a4,a5,a6,eF,Pa,hap,ga,za,AV.cut,ma,wa,gO]
   subst hQ
   exact⟨_,es++[x],by rw[hbm],hdv.2.2.1,by rw[hpq];exact hdv.2.2.2.1,by simp[hel],by rw[hs];simp⟩
  ·rintro t ⟨j,es,rfl,hj0,hj1,hel,hs⟩
   rw[List.drop_length,we,List.append_nil] at hs
   have e1:decide ((s.parts.length:Int) < (s.parts.length:Int))=false:=Ha (by omega)
   generalize hQ:(fun r:Ex×St=>r.1.stop=true∧_)=Q
   simp -implicitDefEqProofs only[SX,sevalprocAttr,Ff,e1,gO]
   subst hQ
   exact⟨rfl,_,_,rfl,by rw[hs];simp[Tr.aa]⟩
 obtain⟨r,g1,E,H,rfl,g6⟩:=Fc hloop
 have g1':gb (fa (ta (Ga (fun _=>none) 8) Ff) (ga 1 [0,1,5,18,19])) oa ⟨((((Tr.lf.set 19 (.pv (.int .i64 0))).set 18 (.pv (i64 s.parts.length))).set 5 (.uq 0 false 1 [])).set 1 (.pv (i64 k))).set 0 (.pv (.rp [.lit 258 C] 0)),[.tok 1 0 false]⟩=some (.exit 0,⟨E,H⟩):=g1
 have e4:pb s.parts.length 1:=by unfold pb;omega
 have e2:(0≤(s.parts.length:Int))=True:=by simp
 have e5:((0:Int)≤0)=True:=by simp
 simp -implicitDefEqProofs only[zi,SX,sevalprocAttr,bk,eF,Pa,hcl,eq_true e4,e2,e5,xb,ga,za,AV.cut,ma,wa,g1',g6,Lj,fresh,nf,chunk]
end Go.AM.B1
namespace Go.AM.B1
open Go.AM Go.AM.So
def xO (es:List Oe):List PV:=(List.range 256).map fun b=> .int .i8 (Ik es b)
theorem iP {es:List Oe} {b:Nat} (hb:b < 256) (H:List ba):ya H false 1 (.pv (.rp (xO es) b))=some (.pv (.int .i8 (Ik es b))):=by
 have:(xO es)[b]? =some (.int .i8 (Ik es b)):=by rw[xO,List.getElem?_map,List.getElem?_range hb];rfl
 simp only[ya,Tl,Bool.false_eq_true,if_false,this];rfl
theorem KR {NX:PV} {l:List (List Oe)} (h:Di 256 NX (l.map yn)) {i:Nat} (hi:i < l.length) (H:List ba):qa H 256 (.pv NX) (i:Int)=some (.pv (.rp (xO l[i]) 0)):=by
 rw[h.lit (i:=i) (by simpa using hi)]
 simp only[qa]
 rw[if_pos ⟨trivial,by unfold Fa;rw[List.length_map];omega⟩,Int.toNat_natCast,List.getElem?_map,List.getElem?_eq_getElem hi];rfl
theorem Bt (H:List ba) (a b c d e f:PV):ya H false 1 (.pv (.rp [a,b,c,d,e,f] 2))=some (.pv c)∧ya H false 1 (.pv (.rp [a,b,c,d,e,f] 3))=some (.pv d)∧ya H false 1 (.pv (.rp [a,b,c,d,e,f] 4))=some (.pv e)∧ya H false 1 (.pv (.rp [a,b,c,d,e,f] 5))=some (.pv f)∧ya H false 1 (.pv (.rp [a,b,c,d,e,f] 0))=some (.pv a)∧ya H false 1 (.pv (.rp [a,b,c,d,e,f] 1))=some (.pv b)∧ya H true 1 (.pv (.rp [a,b,c,d,e,f] 0))=some (.pv (.agg [a])):=⟨rfl,rfl,rfl,rfl,rfl,rfl,rfl⟩
section
variable {T:PV} {ss:List dc} {l:List (List Oe)} (hT:mv T ss l) (ho:∀ e∈l,Sn e)
include hT ho
theorem dG {st b:Int} (hb:0≤b∧b≤255):Mc [T,i64 st,u8 b]=some (.Zb [i64 (Yf l st b).1,.bool (Yf l st b).2]):=by
 obtain⟨S',NX,DG,RW,rfl,_,hNX,_,_⟩:=hT.ex
 have hrp:=Bt (a:=S') (b:=Ai l) (c:=NX) (d:=DG) (e:=RW) (f:=i64 (Og ss))
 have l2:=fun H=>(hrp H).1
 have ln:=hNX.len
 rw[List.length_map] at ln
 generalize ([S',Ai l,NX,DG,RW,i64 (Og ss)]:List PV)=R at *
 by_cases h0:st < 0
 ·have hs:Yf l st b=(0,false):=by unfold Yf;rw[if_pos h0]
  have d0:decide (st < 0)=true:=Da h0
  rw[hs]
  simp -implicitDefEqProofs only[Mc,SX,sevalprocAttr,Kg,Bs,d0]
 have d0:decide (st < 0)=false:=Ha h0
 obtain⟨i,rfl⟩:∃ i:Nat,st=(i:Int):=⟨st.toNat,by omega⟩
 by_cases h1:i < l.length
 ·have d1:decide ((i:Int)≥(l.length:Int))=false:=Ha (by omega)
  have a1:=KR hNX h1
  have hs:Yf l (i:Int) b=match Df b l[i] with
   |some t=>(t,true)
   |none=>(0,false):=by unfold Yf;rw[if_neg h0,Int.toNat_natCast,List.getElem?_eq_getElem h1] <;> rfl
  have heo:=(ho _ (List.getElem_mem h1)).RB
  rw[hs]
  generalize l[i]=es at *
  have hid:(0≤b∧b < ((256:Nat):Int))=True:=eq_true (by omega)
  have l3:=fun H=>iP (es:=es) (b:=b.toNat) (by omega) H
  have hg:Ik es b.toNat=(Df b es).getD (-2):=by unfold Ik;rw[Int.toNat_of_nonneg hb.1]
  rw[hg] at l3
  have rpA1:∀ H (row:List PV),place H b.toNat (.pv (.rp row 0))=some (.pv (.rp row b.toNat)):=fun H row=>by rw[eF,Nat.zero_add]
  cases hse:Df b es with
  |none=>
   rw[hse] at l3
   have z:((-2:Int)== -2)=true:=rfl
   have l3:∀ H,ya H false 1 (.pv (.rp (xO es) b.toNat))=some (.pv (.int .i8 (-2))):=l3
   simp -implicitDefEqProofs only[Mc,SX,sevalprocAttr,Kg,Bs,d0,d1,eF,rpA1,l2,ln,a1,hid,l3,z]
  |some t=>
   rw[hse] at l3
   have l3:∀ H,ya H false 1 (.pv (.rp (xO es) b.toNat))=some (.pv (.int .i8 t)):=l3
   obtain⟨x,hx,_,_,hxt⟩:=cw hse
   have hr:=heo x hx
   rw[hxt] at hr
   have z:(t== -2)=false:=by simp;omega
   have t1:IntKind.i64.wrap t=t:=Ba (by omega)
   simp -implicitDefEqProofs only[Mc,SX,sevalprocAttr,Kg,Bs,d0,d1,eF,rpA1,l2,ln,a1,hid,l3,z,t1]
 ·have d1:decide ((i:Int)≥(l.length:Int))=true:=Da (by omega)
  have hs:Yf l (i:Int) b=(0,false):=by unfold Yf;rw[if_neg h0,Int.toNat_natCast,List.getElem?_eq_none (by omega)]
  rw[hs]
  simp -implicitDefEqProofs only[Mc,SX,sevalprocAttr,Kg,Bs,d0,d1,eF,l2,ln]
end
theorem yM {T B:PV} {bs:List Int} {l:List (List Oe)} (hs:∀ st b,0≤b→b≤255→Mc [T,i64 st,u8 b]=some (.Zb [i64 (Yf l st b).1,.bool (Yf l st b).2])) (hB:Vj B bs) (hw:bs.length≤maxLen):
 th [T,B]=some (.Zb [i64 (Ej l 0 0 bs).1,i64 (Ej l 0 0 bs).2]):=by
 have lB:=hB.Wb
 obtain⟨R,hR⟩:∃ R,R=Ej l 0 0 bs:=⟨_,rfl⟩
 rw[← hR]
 have hloop:=fun (E:Tr) (h0:E.get 0= .pv T) (h1:E.get 1= .pv B) (h6:E.get 6= .pv (i64 0)) (h11:E.get 11= .pv B) (h12:E.get 12= .pv (i64 bs.length)) (h13:E.get 13= .pv (i64 0))=>
  Un (call:=Ga (fun _=>none) 8) (b:=Qe) (live:=[0,1,6,11,12,13]) (s:=⟨E,[]⟩) (Q:=fun r=>(∃ E',r=(.exit 0,⟨E',[]⟩)∧E'.get 1= .pv B∧R=((bs.length:Int),2))∨∃ E',r=(.ret,⟨E',[]⟩)∧E'.get 4= .pv (i64 R.1)∧E'.get 5= .pv (i64 R.2))
   (fun i t=>Zd [0,1,11,12] E t.env∧t.env.get 13= .pv (i64 i)∧t.H=[]∧∃ st,t.env.get 6= .pv (i64 st)∧R=Ej l i st (bs.drop i)) bs.length (by unfold oa;unfold maxLen at hw;omega)
   (Xg.all rfl (by simp) (Fit.cons h0 Ia (.cons h1 Ia (.cons h6 Ia (.cons h11 Ia (.cons h12 Ia (.cons h13 Ia (.nil _ _))))))) fun E' hE=>⟨Zd.sub hE rfl,by rw[hE 13 (by simp),h13];rfl,rfl,0,by rw[hE 6 (by simp),h6],hR⟩)
   (by
    rintro i ⟨E1,H1⟩ hi ⟨k1,k2,k3,st,k4,k5⟩
    simp only at k1 k2 k3 k4
    subst k3
    have g0:=(k1 0 (by simp)).trans h0
    have g11:=(k1 11 (by simp)).trans h11
    have g12:=(k1 12 (by simp)).trans h12
    have a1:=hB.pd hi
    have hbr:=hB.RB bs[i] (List.getElem_mem hi)
    have hst:=hs st bs[i] hbr.1 hbr.2
    have hd:bs.drop i=bs[i]::bs.drop (i+1):=List.drop_eq_getElem_cons hi
    rw[hd,Ej] at k5
    generalize bs[i]=b at *
    have e1:decide ((i:Int) < (bs.length:Int))=true:=Da (by omega)
    have t1:=Ua hi hw
    generalize Yf l st b=p at *
    obtain⟨to,is⟩:=p
    have hx:∀ (Q:Ex×St→Prop),Q=Q:=fun _=>rfl
    generalize hQ:RQ _ _ _ _=Q
    cases is with
    |false=>
     simp only[if_true] at k5
     simp -implicitDefEqProofs only[SX,sevalprocAttr,Qe,g0,g11,g12,k2,k4,e1,a1,Pa,hst]
     subst hQ
     exact .inr ⟨_,rfl,by rw[k5];simp[Tr.aa],by rw[k5];simp[Tr.aa]⟩
    |true=>
     simp only[Bool.true_eq_false,if_false] at k5
     by_cases hto:to= -1
     ·subst hto
      rw[if_pos rfl] at k5
      have z:((-1:Int)== -1)=true:=rfl
      simp -implicitDefEqProofs only[SX,sevalprocAttr,Qe,g0,g11,g12,k2,k4,e1,a1,Pa,hst,z,t1]
      subst hQ
      exact .inr ⟨_,rfl,by rw[k5];simp[Tr.aa],by rw[k5];simp[Tr.aa]⟩
     ·rw[if_neg hto] at k5
      have z:(to== -1)=false:=by simp[hto]
      simp -implicitDefEqProofs only[SX,sevalprocAttr,Qe,g0,g11,g12,k2,k4,e1,a1,Pa,hst,z,t1]
      subst hQ
      rw[Xl]
      generalize hEE:(Tr.set _ 13 _:Tr)=E2
      have kk:Zd [0,1,11,12] E E2:=by
       rw[← hEE]
       repeat refine Zd.set ?_ rfl
       exact k1
      have z13:E2.get 13= .pv (i64 (i+1:Nat)):=by rw[← hEE];simp[Tr.aa]
      have z6:E2.get 6= .pv (i64 to):=by rw[← hEE];simp[Tr.aa]
      exact Xg.all rfl (by simp) (Fit.sub (.cons z13 Ia (.cons z6 Ia (Fit.Be (l:=[0,1,11,12]) (.cons h0 Ia (.cons h1 Ia (.cons h11 Ia (.cons h12 Ia (.nil _ _))))) kk))) rfl) fun E' hE=>⟨kk.trans (Zd.sub hE rfl),by rw[hE 13 (by simp),z13],rfl,to,by rw[hE 6 (by simp),z6],k5⟩)
   (by
    rintro⟨E1,H1⟩ ⟨k1,k2,k3,st,k4,k5⟩
    simp only at k1 k2 k3 k4
    subst k3
    have g12:=(k1 12 (by simp)).trans h12
    rw[List.drop_length,Ej] at k5
    have e1:decide ((bs.length:Int) < (bs.length:Int))=false:=Ha (by omega)
    generalize hQ:(fun r:Ex×St=>r.1.stop=true∧_)=Q
    simp -implicitDefEqProofs only[SX,sevalprocAttr,Qe,g12,k2,e1]
    subst hQ
    exact⟨rfl,.inl ⟨_,rfl,by rw[Tr.aa,if_neg (by decide)];exact (k1 1 (by simp)).trans h1,k5⟩⟩)
 refine Lk ?_
 generalize hQ:(fun x:PV=>x=_)=Q
 simp -implicitDefEqProofs only[th,SX,sevalprocAttr,Kl,lB]
 generalize hEE:(Tr.set _ 13 _:Tr)=E
 refine xa (hloop E (by rw[← hEE];simp[Tr.aa]) (by rw[← hEE];simp[Tr.aa]) (by rw[← hEE];simp[Tr.aa]) (by rw[← hEE];simp[Tr.aa]) (by rw[← hEE];simp[Tr.aa]) (by rw[← hEE];simp[Tr.aa])) ?_
 rintro r ⟨_,⟨E',rfl,z1,z2⟩ | ⟨E',rfl,z4,z5⟩⟩
 ·simp -implicitDefEqProofs only[SX,sevalprocAttr,z1,lB]
  subst hQ
  rw[z2]
 ·simp -implicitDefEqProofs only[SX,sevalprocAttr,z4,z5]
  subst hQ;rfl
theorem oM {T B:PV} {ss:List dc} {bs:List Int} {l:List (List Oe)} (hT:mv T ss l) (ho:∀ e∈l,Sn e) (hB:Vj B bs) (hw:bs.length≤maxLen):
 th [T,B]=some (.Zb [i64 (Ej l 0 0 bs).1,i64 (Ej l 0 0 bs).2]):=yM (fun st b h0 h1=>dG hT ho ⟨h0,h1⟩) hB hw
end Go.AM.B1
