/- What functions of the program compute. -/
import Derived.Test.YtdglpnpkgngcdaaGreatP11
import Derived.Test.YtdglpnpkgngcdaaGreatP3
import Derived.Test.YtdglpnpkgngcdaaGreatP6
import Derived.Test.YtdglpnpkgngcdaaGreatP9
import Derived.Test.YtdglpnpkgngcdaaGreatP10
set_option linter.unusedVariables false
set_option linter.unusedSimpArgs false
namespace Go.AM.B1
open Go.AM Go.AM.So
theorem Fm {e:Tr} {t:Nat}:∀ {l:List Nat},t∈l→(Jc e l).get t=e.get t
 |a::l,h=>by
  rw[Jc,Tr.aa]
  by_cases ht:t=a
  ·rw[if_pos ht,ht]
  ·rw[if_neg ht]
   rcases List.mem_cons.1 h with h | h
   ·exact absurd h ht
   ·exact Fm h
theorem GW {E0:Tr} {H0:List ba} {s:qc} {P:PV} {ps:List PV} {sb oid:Nat} {g0:Nat→AV} (hp:Df P s.parts ps) (Ba:Ie s)
 (h1:E0.get 1= .pv (.rp [P,i64 s.first] 0)) (h3:E0.get 3= .ptr sb 0) (h4:E0.get 4= .pv (i64 1)) (h5:E0.get 5= .pv (i64 ((s.parts.length:Int) - 1))) (hs:H0[sb]? =some (.box [.own oid s.parts.length]))
 (ho:H0[oid]? =some (.seq 258 true (cellsOf (s.parts.length * 258) g0) 0 false)) (hz:∀ j,j < s.parts.length→UH g0 j):
 Pd (fun r=>∃ E H,r=(.exit 0,⟨E,H⟩)∧E.get 3= .ptr sb 0∧H[sb]? =some (.box [.own oid s.parts.length])∧∃ fl g,H[oid]? =some (.seq 258 true (cellsOf (s.parts.length * 258) g) fl false)∧∀ j,j < s.parts.length→oI s.parts g j)
  (qa (Ca eh 8) (.qp [1,2,3,4,5] Mk) ⟨E0,H0⟩):=by
 rw[Fp]
 have h8:=Ba.hi
 have hpr:=Ba.prod.2
 refine ya (Mb (fun r t=>t.env.get 1= .pv (.rp [P,i64 s.first] 0)∧t.env.get 3= .ptr sb 0∧t.env.get 4= .pv (i64 (La (s.parts.drop (s.parts.length - r))))∧t.env.get 5= .pv (i64 ((s.parts.length:Int) - 1 - r))∧t.H[sb]? =some (.box [.own oid s.parts.length])∧
  ∃ fl g,fl≤s.parts.length * 258∧t.H[oid]? =some (.seq 258 true (cellsOf (s.parts.length * 258) g) fl false)∧(∀ j,s.parts.length - r≤j→j < s.parts.length→oI s.parts g j)∧∀ j,j < s.parts.length - r→UH g j)
  s.parts.length (by unfold pa;omega) _ ?_ ?_ ?_) (fun r h=>h.2)
 ·refine⟨?_,?_,?_,?_,hs,0,g0,by omega,ho,fun j a b=>by omega,fun j hj=>hz j (by omega)⟩
  ·simp only[tidy];rw[Fm (by simp),h1]
  ·simp only[tidy];rw[Fm (by simp),h3]
  ·simp only[tidy];rw[Fm (by simp),h4,Nat.sub_zero,List.drop_length];rfl
  ·simp only[tidy];rw[Fm (by simp),h5];simp
 ·rintro r ⟨E,H⟩ hr ⟨g1,g3,g4,g5,gs,fl,g,hfl,go,hd,hz⟩
  obtain⟨i,hi⟩:∃ i,i=s.parts.length - 1 - r:=⟨_,rfl⟩
  have hil:i < s.parts.length:=by omega
  have hpo:=Ba.parts s.parts[i] (List.getElem_mem hil)
  have hdr:s.parts.drop i=s.parts[i]::s.parts.drop (i+1):=List.drop_eq_getElem_cons hil
  have hpd:La (s.parts.drop i)=La (s.parts.drop (i+1)) * oc 0 s.parts[i]:=by rw[hdr,La]
  have hle:=Xp Ba.parts i
  have hpos:=Vf (ls:=s.parts.drop i) fun x hx=>Ba.parts x (List.mem_of_mem_drop hx)
  have hsz:=dz 0 hpo.2
  rw[Int.zero_add] at hsz
  rw[show s.parts.length - r=i+1 by omega] at g4 hd hz
  have hcol:=gP (e:=E) (H:=H) hp hil hpo g1 g3 g4 (by rw[g5];congr 2;omega) gs go (hz i (by omega)).1 (by rw[← hsz,←hpd];exact Aa (by omega)) (PM hpo) (uT hpo) (bA hpo) (qN hpo) hfl (by omega)
  rw[ma,gz]
  refine ya hcol ?_
  rintro⟨ex,E',H'⟩ ⟨rfl,q1,q3,q4,q5,qs,fl',g',qfl,qo,qB,qg,qw⟩
  have hgd:s.parts.getD i []=s.parts[i]:=by rw[List.getD_eq_getElem?_getD,List.getElem?_eq_getElem hil];rfl
  have hother:∀ j k,j≠i→k < 258→g' (j * 258+k)=g (j * 258+k):=by
   intro j k hj hk
   rw[qg _ (by omega) (fun x hx=>by have:=bA hpo x hx;omega),jv _ _ (by omega)]
  refine⟨?_,?_,?_,?_,qs,fl',g',qfl,qo,?_,?_⟩
  ·simp only[tidy];rw[Fm (by simp)];exact q1
  ·simp only[tidy];rw[Fm (by simp)];exact q3
  ·simp only[tidy];rw[Fm (by simp),q4,show s.parts.length - (r+1)=i by omega,hpd,hsz]
  ·simp only[tidy];rw[Fm (by simp),q5];congr 2;omega
  ·intro j hj1 hj2
   by_cases hji:j=i
   ·subst hji
    refine⟨?_,fun y hy=> ?_,?_⟩
    ·rcases qB with⟨h,_⟩ | ⟨tk,_,h,_⟩
     ·simp at h;exact absurd h (qN hpo)
     ·exact⟨tk,by rw[hgd];exact h⟩
    ·rw[hgd]
     by_cases hm:(y:Int)∈Bk s.parts[j]
     ·obtain⟨k,hk⟩:=List.mem_iff_getElem?.1 hm
      have:=qw k y hk
      rw[Int.toNat_natCast] at this
      rw[this,←gN hpo hk,Int.toNat_natCast]
     ·rw[AL hpo hm,qg _ (by omega) (fun x hx=>by
       intro e
       have:=bA hpo x hx
       have:x=(y:Int):=by omega
       exact hm (this ▸ hx)),jv _ _ (by omega)]
      exact (hz j (by omega)).2 y hy
    ·rw[qg _ (by omega) (fun x hx=>by have:=bA hpo x hx;omega),Bt]
   ·obtain⟨⟨tk,a1⟩,a2,a3⟩:=hd j (by omega) hj2
    refine⟨⟨tk,?_⟩,fun y hy=> ?_,?_⟩
    ·have:=hother j 0 hji (by omega);rw[Nat.add_zero] at this;rw[this];exact a1
    ·have:=hother j (1+y) hji (by omega);rw[← Nat.add_assoc] at this;rw[this];exact a2 y hy
    ·rw[hother j 257 hji (by omega)];exact a3
  ·intro j hj
   have hji:j≠i:=by omega
   obtain⟨a1,a2⟩:=hz j (by omega)
   refine⟨?_,fun y hy=> ?_⟩
   ·have:=hother j 0 hji (by omega);rw[Nat.add_zero] at this;rw[this];exact a1
   ·have:=hother j (1+y) hji (by omega);rw[← Nat.add_assoc] at this;rw[this];exact a2 y hy
 ·rintro⟨E,H⟩ ⟨g1,g3,g4,g5,gs,fl,g,hfl,go,hd,hz⟩
  have e1:decide ((s.parts.length:Int) - 1 - s.parts.length≥0)=false:=Ha (by omega)
  generalize hQ:(fun r:Ex×St=>r.1.stop=true∧_)=Q
  simp -implicitDefEqProofs only[SX,sevalprocAttr,-List.reduceReplicate,Mk,g5,e1]
  subst hQ
  exact⟨rfl,_,_,rfl,by simp[Tr.aa,g3],gs,fl,g,go,fun j hj=>hd j (by omega) hj⟩
theorem TF {e:PV} {s:qc} {P:PV} {ps:List PV} (h:zf e s P ps) (Ba:Ie s):Ar [e]=some (Zj s.parts):=by
 obtain⟨hP1,hP2⟩:=h.cw
 have heq:=h.eq
 subst heq
 have hP:=h.parts
 have lP:=hP.Tb
 have h8:=Ba.hi
 generalize hzr:([PV.fa]++List.replicate 256 (PV.int .u16 0)++[PV.int .i64 0])=zr
 have wS:zr.length=258:=by rw[← hzr];simp[-List.reduceReplicate]
 have hzg:∀ i k v,i < s.parts.length→zr[k]? =some v→(tj zr s.parts.length).getD (i * 258+k) .undef= .pv v:=by
  intro i k v hi hk
  rw[List.getD_eq_getElem?_getD,←wS,rO hi hk];rfl
 have hcz:∀ j,j < s.parts.length→UH (fun c=>(tj zr s.parts.length).getD c .undef) j:=by
  intro j hj
  refine⟨by have:=hzg j 0 .fa hj (by rw[← hzr];rfl);rw[Nat.add_zero] at this;exact this,fun y hy=> ?_⟩
  show (tj zr s.parts.length).getD (j * 258+1+y) .undef=_
  rw[Nat.add_assoc]
  refine hzg j (1+y) _ hj ?_
  rw[← hzr,List.getElem?_append_left (by simp[-List.reduceReplicate];omega),List.getElem?_append_right (by simp[-List.reduceReplicate]),List.getElem?_replicate]
  rw[if_pos (by simp[-List.reduceReplicate];omega)]
 have hcell:tj zr s.parts.length=cellsOf (s.parts.length * 258) (fun c=>(tj zr s.parts.length).getD c .undef):=by
  have:=CH (tj zr s.parts.length)
  rw[SV,wS] at this
  exact this
 generalize (fun c=>(tj zr s.parts.length).getD c AV.undef)=g0 at *
 have r0:∀ H (x y:PV),ta H false 1 (.pv (.rp [x,y] 0))=some (.pv x):=fun H x y=>rfl
 have q0:∀ H (x y:PV),place H 0 (.pv (.rp [x,y] 0))=some (.pv (.rp [x,y] 0)):=fun H x y=>rfl
 have e2:(0≤(s.parts.length:Int))=True:=by simp
 have e3:((s.parts.length:Int)≤(s.parts.length:Int))=True:=by simp
 have e4:ab s.parts.length 544:=by unfold ab;omega
 have t1:IntKind.i64.wrap ((s.parts.length:Int) - 1)=(s.parts.length:Int) - 1:=Aa (by omega)
 have m1:Ql ([PV.fa].map .pv) [(0,1,AV.own 0 s.parts.length)]=some [AV.own 0 s.parts.length]:=rfl
 have m2:ir [AV.own 0 s.parts.length]= .agg [AV.own 0 s.parts.length]:=rfl
 have m3:(([AV.own 0 s.parts.length]:List AV).length=1∧([AV.own 0 s.parts.length]:List AV).all AV.one=true)=True:=by simp[AV.one]
 have hlp:=fun (E:Tr) (a1:E.get 1= .pv (.rp [P,i64 s.first] 0)) (a3:E.get 3= .ptr 1 0) (a4:E.get 4= .pv (i64 1)) (a5:E.get 5= .pv (i64 ((s.parts.length:Int) - 1)))=>
  GW (E0:=E) (H0:=[.seq 258 true (cellsOf (s.parts.length * 258) g0) 0 false,.box [.own 0 s.parts.length]]) hP Ba a1 a3 a4 a5 (sb:=1) (oid:=0) rfl rfl hcz
 have p1:∀ A B,place [A,.box B] 0 (.ptr 1 0)=some (.ptr 1 0):=fun A B=>rfl
 have l1:∀ A b,ta [A,.box [b]] false 1 (.ptr 1 0)=some b:=fun A b=>rfl
 have hw:jh 258 s.parts.length 0 (cellsOf (s.parts.length * 258) g0).length:=⟨Nat.zero_le _,by rw[Ag];exact Nat.le_refl _⟩
 have ln:Tb [.seq 258 true (cellsOf (s.parts.length * 258) g0) 0 false,.box [.own 0 s.parts.length]] 0 (.own 0 s.parts.length)=some s.parts.length:=by
  simp only[Tb,List.getElem?_cons_zero,if_pos hw]
 have hfin:∀ (H:List ba) (fl:Nat) (g:Nat→AV),H[1]? =some (.box [.own 0 s.parts.length])→H[0]? =some (.seq 258 true (cellsOf (s.parts.length * 258) g) fl false)→(∀ j,j < s.parts.length→oI s.parts g j)→Rb H 6 (.ptr 1 0)=some (Zj s.parts):=by
  intro H fl g h1 h0 hd
  have hm:Pa (Rb H 4) (cellsOf (s.parts.length * 258) g)=some ((List.range (s.parts.length * 258)).map (ZJ s.parts)):=by
   refine SL fun c hc=> ?_
   obtain⟨⟨tk,a1⟩,a2,a3⟩:=hd (c / 258) (by omega)
   unfold ZJ
   by_cases k0:c % 258=0
   ·rw[if_pos k0,show c=c / 258 * 258 by omega,a1,show c / 258 * 258 / 258=c / 258 by omega];rfl
   ·rw[if_neg k0]
    by_cases k1:c % 258=257
    ·rw[if_pos k1]
     have e:g c=g (c / 258 * 258+257):=by congr 1;omega
     rw[e,a3];rfl
    ·rw[if_neg k1]
     have e:g c=g (c / 258 * 258+1+(c % 258 - 1)):=by congr 1;omega
     rw[e,a2 _ (by omega)];rfl
  have hc2:s.parts.length * 258=(cellsOf (s.parts.length * 258) g).length∧(true||(258:Nat)==1)=true:=⟨(Ag _ _).symm,rfl⟩
  have h5:Rb H 5 (.own 0 s.parts.length)=some (.lit 258 ((List.range s.parts.length).map (HP s.parts))):=by
   simp only[Rb,h0,if_pos hc2,Bool.false_eq_true,if_false,hm,Option.map_some,List.range_eq_range' (n:=s.parts.length * 258),TB,Nat.zero_add]
   rfl
  show (match H[1]? with | some (.box cells)=>(Pa (Rb H 5) cells).map fun ps=>PV.rp ps 0 | _=>none)=_
  rw[h1]
  simp only[Pa,h5,Option.bind_some,Option.map_some]
  rfl
 have hzr':PV.fa::(List.replicate 256 (PV.int .u16 0)++[PV.int .i64 0])=zr:=hzr
 have m4:ga [AV.pv PV.fa] 0 [AV.own 0 s.parts.length]=[AV.own 0 s.parts.length]:=rfl
 have m5:Dd [AV.own 0 s.parts.length]=none:=rfl
 have m6:[AV.own 0 s.parts.length].all AV.one=true:=rfl
 simp -implicitDefEqProofs only[Ar,SX,sevalprocAttr,-List.reduceReplicate,tr,hP1,r0,q0,lP,e2,e3,eq_true e4,hzr',hcell,m4,m5,m6,p1,l1,ln,t1]
 generalize hEE:(Tr.set _ 5 _:Tr)=E
 have a1:E.get 1= .pv (.rp [P,i64 s.first] 0):=by rw[← hEE];simp[Tr.aa]
 have a3:E.get 3= .ptr 1 0:=by rw[← hEE];simp[Tr.aa]
 have a4:E.get 4= .pv (i64 1):=by rw[← hEE];simp[Tr.aa]
 have a5:E.get 5= .pv (i64 ((s.parts.length:Int) - 1)):=by rw[← hEE];simp[Tr.aa]
 obtain⟨r,h1,E',H',rfl,q3,q1,fl,g,q4,q5⟩:=pc (hlp E a1 a3 a4 a5)
 rw[h1]
 have h9:=hfin H' fl g q1 q4 q5
 simp -implicitDefEqProofs only[SX,sevalprocAttr,-List.reduceReplicate,q3,h9]
end Go.AM.B1
namespace Go.AM.B1
open Go.AM Go.AM.So
section
variable {call:Ta} {o0 o1 o4 o5:ba} {c0 c1 c3 c4 c5:AV}
 (hg:∀ nl es,He (Sv o0 o1 o4 o5 c0 c1 c3 c4 c5 nl es))
include hg
theorem cW {E:Tr} {V:PV} {l:List (List Af)} (hV:Vh 1 V (l.map je)) (hl:l.length≤64) (hle:∀ e∈l,e.length≤256) (Ba:∀ e∈l,Rn e)
 (h8:E.get 8= .ptr 2 0) (h101:E.get 101= .pv V) (h102:E.get 102= .pv (i64 l.length)) (h103:E.get 103= .pv (i64 0)):
 Pd (fun r=>r.1.stop=true∧∃ E' nl,r=(.exit 2,⟨E',Sv o0 o1 o4 o5 c0 c1 c3 c4 c5 nl (l.map Fo)⟩)∧E'.get 8= .ptr 2 0∧(nl=true→l=[]))
  (qa call (.loop [8,101,102,103] ni) ⟨E,Sv o0 o1 o4 o5 c0 c1 c3 c4 c5 true []⟩):=by
 have hgl:∀ nl es,(Sv o0 o1 o4 o5 c0 c1 c3 c4 c5 nl es).length=6:=fun _ _=>rfl
 have hgd:∀ nl es,∀ o∈Sv o0 o1 o4 o5 c0 c1 c3 c4 c5 nl es,oa 6 o=some o:=fun nl es o ho=>hg nl es 6 (by rw[hgl];exact Nat.le_refl _) o ho
 have hcut:Fit 6 [8,101,102] E:= .cons h8 (Er (by omega)) (.cons h101 Qa (.cons h102 Qa (.nil _ _)))
 refine yp (fun i t=>ee [8,101,102] E t.env∧t.env.get 103= .pv (i64 i)∧∃ nl,t.H=Sv o0 o1 o4 o5 c0 c1 c3 c4 c5 nl ((l.take i).map Fo)∧(nl=true→i=0)) l.length (by unfold pa;omega) ?_ ?_ ?_
 ·rw[hgl]
  exact ah.all rfl (hgd _ _) (Fit.sub (.cons h103 Qa hcut) rfl) fun E' hE=>⟨ee.sub hE rfl,by rw[hE 103 (by simp),h103];rfl,true,rfl,fun _=>rfl⟩
 ·rintro i ⟨E1,H1⟩ hi ⟨k1,k2,nl,k3,k4⟩
  simp only at k1 k2 k3
  subst k3
  refine ya (eS (call:=call) hg hV hl hle Ba hi (by simp;omega) ((k1 8 (by simp)).trans h8) ((k1 101 (by simp)).trans h101) ((k1 102 (by simp)).trans h102) k2) ?_
  rintro r ⟨E2,rfl,k5,k6⟩
  rw[ml,hgl]
  have hnx:(l.take (i+1)).map Fo=(l.take i).map Fo++[Fo l[i]]:=by rw[List.take_succ_eq_append_getElem hi,List.map_append];rfl
  exact ah.front (hgl _ _).symm (hgd _ _) (Fit.sub (.cons k6 Qa (hcut.ue (k1.trans k5))) rfl) fun E' hE=>⟨(k1.trans k5).trans (ee.sub hE rfl),by rw[hE 103 (by simp),k6],false,by rw[hnx],fun h=>by cases h⟩
 ·rintro⟨E1,H1⟩ ⟨k1,k2,nl,k3,k4⟩
  simp only at k1 k2 k3
  subst k3
  have g102:=(k1 102 (by simp)).trans h102
  have e1:decide ((l.length:Int) < (l.length:Int))=false:=Ha (by omega)
  rw[List.take_length]
  generalize hQ:(fun r:Ex×St=>r.1.stop=true∧_)=Q
  simp -implicitDefEqProofs only[SX,sevalprocAttr,-List.reduceReplicate,ni,k2,g102,e1]
  subst hQ
  exact⟨rfl,_,nl,rfl,by rw[Tr.aa,if_neg (by decide)];exact (k1 8 (by simp)).trans h8,fun h=>List.eq_nil_of_length_eq_zero (k4 h)⟩
end
def Ev (s:qc) (i:Nat):List Int:=[s.first,s.first+La s.parts - 1,(i:Int)]
def Si (ss:List qc) (n:Nat):List (List Int):=(List.range n).map fun j=>Ev (ss.getD j ⟨[],0⟩) j
theorem jM (ss:List qc) {n:Nat} (h:n < ss.length):Si ss (n+1)=Si ss n++[Ev ss[n] n]:=by
 unfold Si
 rw[List.range_succ,List.map_append,List.map_cons,List.map_nil,List.getD_eq_getElem?_getD,List.getElem?_eq_getElem h];rfl
theorem Qp (ss:List qc) (n:Nat):(Si ss n).length=n:=by simp[Si]
theorem Dx {ss:List qc} {n:Nat} {r:List Int} (h:r∈Si ss n):r.length=3:=by
 unfold Si at h
 obtain⟨j,_,rfl⟩:=List.mem_map.1 h
 rfl
theorem Uw:∀ {D:List (List Int)},(∀ r∈D,r.length=3)→D.flatten.length=D.length * 3
 | [],_=>rfl
 |r::D,h=>by rw[List.flatten_cons,List.length_append,h r (by simp),Uw fun x hx=>h x (by simp[hx]),List.length_cons];omega
def Hj (ss:List qc):Nat:=ss.foldl (fun m s=>if s.parts.length > m then s.parts.length else m) 0
def Ix (o0 o1 o3:ba) (c0 c1 c2:AV) (nl:Bool) (ds:List PV) (D:List (List Int)) (fl:Nat) (nr:Bool) (m:Int):List ba:=
 [o0,o1,.box [c0,c1,c2,.uq 4 nl 1 ds,.own 5 D.length,.pv (i64 m)],o3,.tok 1 ds.length nl,.seq 3 true (Sf D.flatten) fl nr]
section
variable {call:Ta} {o0 o1 o3:ba} {c0 c1 c2:AV}
theorem iU {E:Tr} {S:PV} {ss:List qc} {es:List PV} {i:Nat} {nl nr:Bool} {fl:Nat} {ds:List PV} {D:List (List Int)} {m:Nat} (hS:Za S ss es) (Ba:Fc ss) (hi:i < ss.length) (hds:ds.length=i) (hD:D.length=i) (hDr:∀ r∈D,r.length=3) (hm:m≤8)
 (h4:E.get 4= .ptr 0 0) (h8:E.get 8= .ptr 2 0) (h46:E.get 46= .pv S) (h47:E.get 47= .pv (i64 ss.length)) (h48:E.get 48= .pv (i64 i)):
 Pd (fun r=>∃ E' T,r=(.norm,⟨E',Ix o0 o1 o3 c0 c1 c2 false (ds++[Zj ss[i].parts]) (D++[Ev ss[i] i]) fl false (if ss[i].parts.length > m then ss[i].parts.length else m:Nat)++T⟩)∧ee [4,8,46,47] E E'∧E'.get 48= .pv (i64 (i+1:Nat)))
  (qa call Yh ⟨E,Ix o0 o1 o3 c0 c1 c2 nl ds D fl nr m⟩):=by
 obtain⟨P,ps,hsh,a1⟩:=hS.Sd hi
 have hs:=Ba.gu _ (List.getElem_mem hi)
 have h32:=Ba.len
 have hcn:=xC hsh hs
 have hdg:=TF hsh hs
 have hpo:=Vf hs.parts
 have hpr:=hs.prod.2
 have hlt:=hs.ai
 have hl1:=hs.last
 have hf0:=hs.f0
 have hf1:=hs.f1
 have h88:=hs.hi
 have lP:=hsh.parts.Tb
 have hP1:=hsh.cw.1
 have hDl:=Uw hDr
 generalize ss[i]=s at *
 have e1:decide ((i:Int) < (ss.length:Int))=true:=Fa (by omega)
 have t1:IntKind.i64.wrap ((i:Int)+1)=((i+1:Nat):Int):=fj (by omega)
 have t2:IntKind.i64.wrap (s.first+La s.parts)=s.first+La s.parts:=Aa (by omega)
 have t3:IntKind.i64.wrap (s.first+La s.parts - 1)=s.first+La s.parts - 1:=Aa (by omega)
 have r2:∀ H (x y:PV),ta H true 2 (.pv (.rp [x,y] 0))=some (.pv (.agg [x,y])):=fun H x y=>rfl
 obtain⟨b10,hb10⟩:∃ b,b=ba.box [.pv P,.pv (i64 s.first)]:=⟨_,rfl⟩
 have hH0:(Ix o0 o1 o3 c0 c1 c2 nl ds D fl nr m).length=6:=rfl
 have s1:Ea (Ix o0 o1 o3 c0 c1 c2 nl ds D fl nr m++[.box [.pv .fa,.pv (i64 0)]]) 2 (.ptr 6 0) (.pv (.agg [P,i64 s.first]))=some (Ix o0 o1 o3 c0 c1 c2 nl ds D fl nr m++[b10]):=by
  rw[hb10]
  exact rn (.pv .fa) (.pv (i64 0)) (.pv P) (.pv (i64 s.first)) hP1 rfl (Ix o0 o1 o3 c0 c1 c2 nl ds D fl nr m) _ rfl
 have p1:∀ d,place (Ix o0 o1 o3 c0 c1 c2 nl ds D fl nr m++[b10]) d (.ptr 2 0)=some (.ptr 2 (0+d)):=fun d=>gd rfl d 0
 have q1:∀ d,place (Ix o0 o1 o3 c0 c1 c2 nl ds D fl nr m++[b10]) d (.ptr 6 0)=some (.ptr 6 (0+d)):=fun d=>gd (by rw[hb10];rfl) d 0
 have l1:ta (Ix o0 o1 o3 c0 c1 c2 nl ds D fl nr m++[b10]) false 1 (.ptr 2 4)=some (.own 5 D.length):=rfl
 have l2:ta (Ix o0 o1 o3 c0 c1 c2 nl ds D fl nr m++[b10]) false 1 (.ptr 6 1)=some (.pv (i64 s.first)):=by rw[hb10];rfl
 have l3:ta (Ix o0 o1 o3 c0 c1 c2 nl ds D fl nr m++[b10]) true 2 (.ptr 6 0)=some (.pv (.agg [P,i64 s.first])):=by rw[hb10];rfl
 obtain⟨H2,hH2⟩:∃ H,H=[o0,o1,.box [c0,c1,c2,.uq 4 nl 1 ds,.own 5 D.length,.pv (i64 m)],o3,.tok 1 ds.length nl,.seq 3 true (Sf (D++[Ev s i]).flatten) fl false,b10]:=⟨_,rfl⟩
 have ap1:Gb (Ix o0 o1 o3 c0 c1 c2 nl ds D fl nr m++[b10]) true .own 3 true 24 (.own 5 D.length) (.pv (.lit 3 [.agg [i64 s.first,i64 (s.first+La s.parts - 1),i64 i]]))=some (.own 5 (D.length+1),H2):=by
  rw[hH2]
  have hc:Sf D.flatten++[AV.pv (i64 s.first),.pv (i64 (s.first+La s.parts - 1)),.pv (i64 i)]=Sf (D++[Ev s i]).flatten:=by
   rw[List.flatten_append];simp[Sf,Ev]
  simp only[Gb,Ix,List.cons_append,List.nil_append,List.getElem?_cons_succ,List.getElem?_cons_zero,if_true,Fj,xf,Option.map_some,Option.bind_some,flat,PV.cells,List.append_nil,List.map_cons,List.map_nil,List.length_cons,List.length_nil]
  rw[if_pos ⟨trivial,by rw[List.length_map];omega,by unfold ab;omega,rfl⟩,hc]
  simp
 have p2:∀ d,place H2 d (.ptr 2 0)=some (.ptr 2 (0+d)):=fun d=>gd (by rw[hH2];rfl) d 0
 obtain⟨H3,hH3⟩:∃ H,H=[o0,o1,.box [c0,c1,c2,.uq 4 nl 1 ds,.own 5 (D.length+1),.pv (i64 m)],o3,.tok 1 ds.length nl,.seq 3 true (Sf (D++[Ev s i]).flatten) fl false,b10]:=⟨_,rfl⟩
 have s2:Ea H2 1 (.ptr 2 4) (.own 5 (D.length+1))=some H3:=by rw[hH2,hH3];rfl
 have p3:∀ d,place H3 d (.ptr 2 0)=some (.ptr 2 (0+d)):=fun d=>gd (by rw[hH3];rfl) d 0
 have q3:∀ d,place H3 d (.ptr 6 0)=some (.ptr 6 (0+d)):=fun d=>gd (by rw[hH3,hb10];rfl) d 0
 have l4:ta H3 false 1 (.ptr 2 5)=some (.pv (i64 m)):=by rw[hH3];rfl
 have l5:ta H3 false 1 (.ptr 6 0)=some (.pv P):=by rw[hH3,hb10];rfl
 obtain⟨mm,hmm⟩:∃ x:Nat,x=if s.parts.length > m then s.parts.length else m:=⟨_,rfl⟩
 have hmx:(if (s.parts.length:Int) > (m:Int) then (s.parts.length:Int) else (m:Int))=(mm:Int):=by rw[hmm];split <;> split <;> omega
 obtain⟨H4,hH4⟩:∃ H,H=[o0,o1,.box [c0,c1,c2,.uq 4 nl 1 ds,.own 5 (D.length+1),.pv (i64 mm)],o3,.tok 1 ds.length nl,.seq 3 true (Sf (D++[Ev s i]).flatten) fl false,b10]:=⟨_,rfl⟩
 have s3:Ea H3 1 (.ptr 2 5) (.pv (.int .i64 mm))=some H4:=by rw[hH3,hH4];rfl
 have p4:∀ d,place H4 d (.ptr 2 0)=some (.ptr 2 (0+d)):=fun d=>gd (by rw[hH4];rfl) d 0
 have l6:ta H4 false 1 (.ptr 2 3)=some (.uq 4 nl 1 ds):=by rw[hH4];rfl
 have l7:ta H4 true 2 (.ptr 6 0)=some (.pv (.agg [P,i64 s.first])):=by rw[hH4,hb10];rfl
 obtain⟨H5,hH5⟩:∃ H,H=[o0,o1,.box [c0,c1,c2,.uq 4 nl 1 ds,.own 5 (D.length+1),.pv (i64 mm)],o3,.tok 1 (ds.length+1) false,.seq 3 true (Sf (D++[Ev s i]).flatten) fl false,b10]:=⟨_,rfl⟩
 have ap2:Gb H4 false .uq 1 false 8 (.uq 4 nl 1 ds) (.pv (.lit 1 [Zj s.parts]))=some (.uq 4 false 1 (ds++[Zj s.parts]),H5):=by
  rw[hH5]
  rw[Lg (A:=H4) (id:=4) (n:=ds.length) (nl:=nl) (by rw[hH4];rfl) rfl (by unfold ab;omega) (Zj s.parts)]
  rw[hH4];rfl
 have p5:∀ d,place H5 d (.ptr 2 0)=some (.ptr 2 (0+d)):=fun d=>gd (by rw[hH5];rfl) d 0
 have s5:Ea H5 1 (.ptr 2 3) (.uq 4 false 1 (ds++[Zj s.parts]))=some (Ix o0 o1 o3 c0 c1 c2 false (ds++[Zj s.parts]) (D++[Ev s i]) fl false mm++[b10]):=by
  rw[hH5]
  have e1:(ds++[Zj s.parts]).length=ds.length+1:=by simp
  have e2:(D++[Ev s i]).length=D.length+1:=by simp
  unfold Ix
  rw[e1,e2];rfl
 rw[← hmm]
 have m1:Ql (List.map AV.pv [PV.int .i64 0,.int .i64 0,.int .i64 0]) [(0,1,.pv (i64 s.first)),(1,1,.pv (i64 (s.first+La s.parts - 1))),(2,1,.pv (i64 i))]=some [.pv (i64 s.first),.pv (i64 (s.first+La s.parts - 1)),.pv (i64 i)]:=rfl
 have hdc:(AV.pv (Zj s.parts)).one=true:=rfl
 have hdp:(Zj s.parts).cells=[Zj s.parts]:=rfl
 have hfin:Ix o0 o1 o3 c0 c1 c2 false (ds++[Zj s.parts]) (D++[Ev s i]) fl false mm++[b10]=Ix o0 o1 o3 c0 c1 c2 false (ds++[Zj s.parts]) (D++[Ev s i]) fl false mm++[b10]:=rfl
 clear hH2 hH3 hH4 hH5 hb10
 generalize hG1:Ix o0 o1 o3 c0 c1 c2 nl ds D fl nr m++[b10]=G1 at *
 generalize hG0:Ix o0 o1 o3 c0 c1 c2 nl ds D fl nr m=G0 at *
 generalize Zj s.parts=dd at *
 generalize hQ:(fun r:Ex×St=>∃ E' T,r=_∧_)=Q
 simp -implicitDefEqProofs only[SP,WP,ga,sevalprocAttr,-List.reduceReplicate,Yh,h8,h46,h47,h48,e1,a1,r2,hH0,s1,p1,q1,l1,l2,l3,hcn,t1,t2,t3,ap1,p2,s2,p3,q3,l4,l5,lP,hmx,Br,Fe,s3,p4,l6,l7,hdg,hdc,hdp,ap2,p5,s5]
 subst hQ
 refine⟨_,[b10],rfl,?_,by rw[Tr.aa,if_pos rfl]⟩
 repeat refine ee.set ?_ rfl
 exact ee.refl _ _
theorem HL {ss:List qc} {i:Nat} (hi:i < ss.length):Hj (ss.take (i+1))=if ss[i].parts.length > Hj (ss.take i) then ss[i].parts.length else Hj (ss.take i):=by
 unfold Hj
 rw[List.take_succ_eq_append_getElem hi,List.foldl_append];rfl
theorem ZS {ss:List qc} (h:∀ s∈ss,s.parts.length≤8):Hj ss≤8:=by
 have key:∀ (ss:List qc) (m:Nat),m≤8→(∀ s∈ss,s.parts.length≤8)→ss.foldl (fun m s=>if s.parts.length > m then s.parts.length else m) m≤8:=by
  intro ss
  induction ss with
  |nil=>intro m h _;exact h
  |cons s ss ih=>
   intro m hm h
   rw[List.foldl_cons]
   refine ih _ ?_ fun x hx=>h x (by simp[hx])
   have:=h s (by simp)
   split <;> omega
 exact key ss 0 (by omega) h
theorem KV (hg:∀ nl ds D fl nr m,He (Ix o0 o1 o3 c0 c1 c2 nl ds D fl nr m)) {E:Tr} {S:PV} {ss:List qc} {es:List PV} (hS:Za S ss es) (Ba:Fc ss)
 (h4:E.get 4= .ptr 0 0) (h8:E.get 8= .ptr 2 0) (h46:E.get 46= .pv S) (h47:E.get 47= .pv (i64 ss.length)) (h48:E.get 48= .pv (i64 0)):
 Pd (fun r=>r.1.stop=true∧∃ E' nl nr,r=(.exit 0,⟨E',Ix o0 o1 o3 c0 c1 c2 nl (ss.map fun s=>Zj s.parts) (Si ss ss.length) 0 nr (Hj ss)⟩)∧E'.get 4= .ptr 0 0∧E'.get 8= .ptr 2 0∧(nl=true→ss=[])∧(nr=true→ss=[]))
  (qa call (.loop [4,8,46,47,48] Yh) ⟨E,Ix o0 o1 o3 c0 c1 c2 true [] [] 0 true 0⟩):=by
 have hgl:∀ nl ds D fl nr m,(Ix o0 o1 o3 c0 c1 c2 nl ds D fl nr m).length=6:=fun _ _ _ _ _ _=>rfl
 have hgd:∀ nl ds D fl nr m,∀ o∈Ix o0 o1 o3 c0 c1 c2 nl ds D fl nr m,oa 6 o=some o:=fun nl ds D fl nr m o ho=>hg nl ds D fl nr m 6 (by rw[hgl];exact Nat.le_refl _) o ho
 have hcut:Fit 6 [4,8,46,47] E:= .cons h4 (Er (by omega)) (.cons h8 (Er (by omega)) (.cons h46 Qa (.cons h47 Qa (.nil _ _))))
 have h32:=Ba.len
 refine yp (fun i t=>ee [4,8,46,47] E t.env∧t.env.get 48= .pv (i64 i)∧∃ nl nr,t.H=Ix o0 o1 o3 c0 c1 c2 nl ((ss.take i).map fun s=>Zj s.parts) (Si ss i) 0 nr (Hj (ss.take i))∧(nl=true→i=0)∧(nr=true→i=0)) ss.length (by unfold pa;omega) ?_ ?_ ?_
 ·rw[hgl]
  exact ah.all rfl (hgd _ _ _ _ _ _) (Fit.sub (.cons h48 Qa hcut) rfl) fun E' hE=>⟨ee.sub hE rfl,by rw[hE 48 (by simp),h48];rfl,true,true,rfl,fun _=>rfl,fun _=>rfl⟩
 ·rintro i ⟨E1,H1⟩ hi ⟨k1,k2,nl,nr,k3,k4,k5⟩
  simp only at k1 k2 k3
  subst k3
  refine ya (iU (call:=call) hS Ba hi (by simp;omega) (Qp _ _) (fun r hr=>Dx hr) (ZS fun s hs=>(Ba.gu s (List.mem_of_mem_take hs)).hi) ((k1 4 (by simp)).trans h4) ((k1 8 (by simp)).trans h8) ((k1 46 (by simp)).trans h46) ((k1 47 (by simp)).trans h47) k2) ?_
  rintro r ⟨E2,T,rfl,k6,k7⟩
  rw[ml,hgl,←jM ss hi,←HL hi]
  have hnx:(ss.take (i+1)).map (fun s=>Zj s.parts)=(ss.take i).map (fun s=>Zj s.parts)++[Zj ss[i].parts]:=by rw[List.take_succ_eq_append_getElem hi,List.map_append];rfl
  exact ah.front (hgl _ _ _ _ _ _).symm (hgd _ _ _ _ _ _) (Fit.sub (.cons k7 Qa (hcut.ue (k1.trans k6))) rfl) fun E' hE=>⟨(k1.trans k6).trans (ee.sub hE rfl),by rw[hE 48 (by simp),k7],false,false,by rw[hnx],fun h=>(by cases h),fun h=>(by cases h)⟩
 ·rintro⟨E1,H1⟩ ⟨k1,k2,nl,nr,k3,k4,k5⟩
  simp only at k1 k2 k3
  subst k3
  have g47:=(k1 47 (by simp)).trans h47
  have e1:decide ((ss.length:Int) < (ss.length:Int))=false:=Ha (by omega)
  rw[List.take_length]
  generalize hQ:(fun r:Ex×St=>r.1.stop=true∧_)=Q
  simp -implicitDefEqProofs only[SX,sevalprocAttr,-List.reduceReplicate,Yh,k2,g47,e1]
  subst hQ
  exact⟨rfl,_,nl,nr,rfl,by rw[Tr.aa,if_neg (by decide)];exact (k1 4 (by simp)).trans h4,by rw[Tr.aa,if_neg (by decide)];exact (k1 8 (by simp)).trans h8,fun h=>List.eq_nil_of_length_eq_zero (k4 h),fun h=>List.eq_nil_of_length_eq_zero (k5 h)⟩
end
end Go.AM.B1
namespace Go.AM.B1
open Go.AM Go.AM.So
def Xm (ss:List qc):Prop:=∀ i j,(hi:i < ss.length)→(hj:j < ss.length)→i < j→ss[i].parts.length=ss[j].parts.length→cf ss[i] ss[j]=false
theorem OJ (call:Ta) {S:PV} {ss:List qc} {es:List PV} (hS:Za S ss es) (i j:Nat) (H:List ba) (hi:i < ss.length) (hj:j < ss.length) (hH:H[0]? =some (.box [.pv S])):
 xe call Mg [.pv (i64 i),.pv (i64 j),.ptr 0 0] H=some (.pv (.bool (decide (i < j∧ss[i].parts.length=ss[j].parts.length))),H):=by
 obtain⟨P,ps,hPs,a1⟩:=hS.Sd hi
 obtain⟨Q,qs,hQs,a2⟩:=hS.Sd hj
 have lP:=hPs.parts.Tb
 have lQ:=hQs.parts.Tb
 have p0:place H 0 (.ptr 0 0)=some (.ptr 0 0):=by simp[place,hH]
 have l0:ta H false 1 (.ptr 0 0)=some (.pv S):=by simp[ta,hH,Og]
 have r0:∀ H (x y:PV),ta H false 1 (.pv (.rp [x,y] 0))=some (.pv x):=fun H x y=>rfl
 have q0:∀ H (x y:PV),place H 0 (.pv (.rp [x,y] 0))=some (.pv (.rp [x,y] 0)):=fun H x y=>rfl
 by_cases hlt:i < j
 ·have e0:decide ((i:Int) < (j:Int))=true:=decide_eq_true (by omega)
  have e:((ss[i].parts.length:Int)==(ss[j].parts.length:Int))=decide (i < j∧ss[i].parts.length=ss[j].parts.length):=by
   rw[Bool.eq_iff_iff];simp only[beq_iff_eq,decide_eq_true_eq];omega
  generalize decide (i < j∧ss[i].parts.length=ss[j].parts.length)=z at e ⊢
  generalize ss[i]=p at *
  generalize ss[j]=q at *
  by_cases hij:P=Q
  ·subst hij
   have:p.parts.length=q.parts.length:=by have h1:=lP [];have h2:=lQ [];rw[h1] at h2;exact Option.some.inj h2
   rw[this] at lP e
   obtain rfl:z=true:=by rw[← e];simp
   simp -implicitDefEqProofs only[SP,WP,ga,sevalprocAttr,Mg,p0,l0,a1,a2,r0,q0,lP,e0,e]
  ·simp -implicitDefEqProofs only[SP,WP,ga,sevalprocAttr,Mg,p0,l0,a1,a2,r0,q0,lP,lQ,e0,e]
 ·have e0:decide ((i:Int) < (j:Int))=false:=decide_eq_false (by omega)
  have e:decide (i < j∧ss[i].parts.length=ss[j].parts.length)=false:=decide_eq_false (by omega)
  rw[e]
  simp -implicitDefEqProofs only[SP,WP,ga,sevalprocAttr,Mg,e0]
theorem vL {S:PV} {ss:List qc} {es:List PV} (hS:Za S ss es) (Ba:Fc ss):
 ∃ y a b,fh [.agg [S]]=some (.ic [.agg [.bool y,i64 a,i64 b],i64 0])∧(y=true↔Xm ss):=by
 have hSone:(AV.pv S).one=true:=by rcases hS.is with⟨h,_⟩ | h <;> rw[h] <;> rfl
 have c25:gj 25=some lg:=rfl
 have s0:ta [.box [.pv S],Vb false 0 0] true 1 (.ptr 0 0)=some (.pv (.agg [S])):=rfl
 have hA:vX (Ca gj 7) 37 S ss.length (fun i j=>if h:i < ss.length∧j < ss.length then decide (i < j∧ss[i].parts.length=ss[j].parts.length) else false):=by
  refine⟨fun i j H hi hj hH=> ?_⟩
  rw[Wz gj 6 37 _ H (f:=Mg) rfl,OJ _ hS i j H hi hj hH,dif_pos ⟨hi,hj⟩]
 obtain⟨y,a,b,T,h1,h2⟩:=UD hS Ba hA (fun i j hi hj h=>by rw[dif_pos ⟨hi,hj⟩] at h;have:=of_decide_eq_true h;omega) (Vb false 0 0) (fun n=>by simp[oa,Pa,Qa])
 refine⟨y,a,b,?_,?_⟩
 ·have s2:Ea ([.box [.pv S],Vb false 0 0]++T) 3 (.ptr 1 0) (.pv (.agg [.bool y,i64 a,i64 b]))=some ([.box [.pv S],Vb y a b]++T):=rfl
  have l3:ta ([.box [.pv S],Vb y a b]++T) true 3 (.ptr 1 0)=some (.pv (.agg [.bool y,i64 a,i64 b])):=rfl
  generalize hA1:[.box [.pv S],Vb false 0 0]++T=A1 at *
  generalize hA2:[.box [.pv S],Vb y a b]++T=A2 at *
  simp -implicitDefEqProofs only[fh,SP,WP,ga,sevalprocAttr,Gq,c25,hSone,s0,h1,s2,l3]
 ·rw[h2]
  unfold Xm
  constructor
  ·intro h i j hi hj hlt he
   exact h i j hi hj (by rw[dif_pos ⟨hi,hj⟩];exact decide_eq_true ⟨hlt,he⟩)
  ·intro h i j hi hj hlt
   rw[dif_pos ⟨hi,hj⟩] at hlt
   obtain⟨h1,h2⟩:=of_decide_eq_true hlt
   exact h i j hi hj h1 h2
end Go.AM.B1
namespace Go.AM.B1
open Go.AM
theorem rD (gb:List Int):∀ (xs ys:List Nat) (r:List Int×List Int),Md gb (xs++ys) r=Md gb ys (Md gb xs r)
 | [],ys,r=>rfl
 |x::xs,ys,r=>by rw[List.cons_append,Md,Md,rD gb xs]
theorem SG {a:Int}:∀ {l:List Int} {k i:Nat},Tt a l k=some i→k≤i∧l[i - k]? =some a
 | [],_,_,h=>by cases h
 |b::l,k,i,h=>by
  simp only[Tt] at h
  split at h
  ·next he=>injection h with h;subst h he;simp
  ·obtain⟨h1,h2⟩:=SG h
   refine⟨by omega,?_⟩
   have:i - k=(i - (k+1))+1:=by omega
   rw[this,List.getElem?_cons_succ];exact h2
structure zY (gb O:List Int) (n:Nat) (r:List Int×List Int):Prop where
 len:r.2.length=gb.length
 hi:∀ x,n≤x→r.2.getD x 0=gb.getD x 0
 ext:∃ t,r.1=O++t∧∀ o∈t,0≤o∧∃ x,x < n∧gb.getD x 0=o
 nodup:r.1.Nodup
 val:∀ x,x < n→(gb.getD x 0 < 0→r.2.getD x 0=gb.getD x 0)∧(0≤gb.getD x 0→∃ k:Nat,r.2.getD x 0=(k:Int)∧r.1[k]? =some (gb.getD x 0))
theorem Pj {l:List Int} {x y:Nat} {v:Int} (hx:x < l.length):(l.set x v).getD y 0=if y=x then v else l.getD y 0:=by
 rw[List.getD_eq_getElem?_getD,List.getD_eq_getElem?_getD]
 by_cases h:y=x
 ·subst h;rw[List.getElem?_set_self hx,if_pos rfl];rfl
 ·rw[List.getElem?_set_ne (Ne.symm h),if_neg h]
theorem zY.next {gb O:List Int} {n:Nat} {r:List Int×List Int} (h:zY gb O n r) (hn:n < gb.length):
 zY gb O (n+1) (Hi n (gb.getD n 0) r)∧(Hi n (gb.getD n 0) r).2.getD n 0≤r.1.length∧
 (((Hi n (gb.getD n 0) r).1.length:Int)=if (Hi n (gb.getD n 0) r).2.getD n 0=r.1.length then (r.1.length:Int)+1 else r.1.length)∧
 (∀ x,x < n→(Hi n (gb.getD n 0) r).2.getD x 0=r.2.getD x 0):=by
 obtain⟨t,ht,hts⟩:=h.ext
 have hl:n < r.2.length:=by rw[h.len];exact hn
 have hne:∀ x,x < n→x≠n:=fun x hx=>by omega
 unfold Hi
 by_cases h0:gb.getD n 0 < 0
 ·rw[if_pos h0]
  have hv:=h.hi n (Nat.le_refl _)
  refine⟨⟨h.len,fun x hx=>h.hi x (by omega),⟨t,ht,fun o ho=>⟨(hts o ho).1,by obtain⟨x,hx,e⟩:=(hts o ho).2;exact⟨x,by omega,e⟩⟩⟩,h.nodup,?_⟩,by rw[hv];omega,by rw[hv,if_neg (by omega)],fun x hx=>rfl⟩
  intro x hx
  rcases Nat.lt_or_ge x n with h1 | h1
  ·exact h.val x h1
  ·have:x=n:=by omega
   subst this;exact⟨fun _=>hv,fun h2=>by omega⟩
 ·rw[if_neg h0]
  cases hi:Tt (gb.getD n 0) r.1 0 with
  |some k=>
   have hk:=(SG hi).2
   rw[Nat.sub_zero] at hk
   have hkl:=(List.getElem?_eq_some_iff.1 hk).1
   simp only
   refine⟨⟨by rw[List.length_set,h.len],?_,⟨t,ht,fun o ho=>⟨(hts o ho).1,by obtain⟨x,hx,e⟩:=(hts o ho).2;exact⟨x,by omega,e⟩⟩⟩,h.nodup,?_⟩,?_,?_,?_⟩
   ·intro x hx;rw[Pj hl,if_neg (by omega)];exact h.hi x (by omega)
   ·intro x hx
    rcases Nat.lt_or_ge x n with h1 | h1
    ·rw[Pj hl,if_neg (by omega)];exact h.val x h1
    ·have:x=n:=by omega
     subst this
     rw[Pj hl,if_pos rfl]
     exact⟨fun h2=>absurd h2 h0,fun _=>⟨k,rfl,hk⟩⟩
   ·rw[Pj hl,if_pos rfl];omega
   ·rw[Pj hl,if_pos rfl,if_neg (by omega)]
   ·intro x hx;rw[Pj hl,if_neg (by omega)]
  |none=>
   have hnm:=FA hi
   simp only
   refine⟨⟨by rw[List.length_set,h.len],?_,⟨t++[gb.getD n 0],by rw[ht,List.append_assoc],?_⟩,?_,?_⟩,?_,?_,?_⟩
   ·intro x hx;rw[Pj hl,if_neg (by omega)];exact h.hi x (by omega)
   ·intro o ho
    rcases List.mem_append.1 ho with h1 | h1
    ·exact⟨(hts o h1).1,by obtain⟨x,hx,e⟩:=(hts o h1).2;exact⟨x,by omega,e⟩⟩
    ·simp only[List.mem_singleton] at h1;subst h1;exact⟨by omega,n,by omega,rfl⟩
   ·rw[List.nodup_append]
    refine⟨h.nodup,by simp,fun a ha b hb=> ?_⟩
    simp only[List.mem_singleton] at hb;subst hb;intro e;subst e;exact hnm ha
   ·intro x hx
    rcases Nat.lt_or_ge x n with h1 | h1
    ·rw[Pj hl,if_neg (by omega)]
     refine⟨(h.val x h1).1,fun h2=> ?_⟩
     obtain⟨k,e1,e2⟩:=(h.val x h1).2 h2
     exact⟨k,e1,by rw[List.getElem?_append_left (List.getElem?_eq_some_iff.1 e2).1];exact e2⟩
    ·have:x=n:=by omega
     subst this
     rw[Pj hl,if_pos rfl]
     exact⟨fun h2=>absurd h2 h0,fun _=>⟨_,rfl,by simp⟩⟩
   ·rw[Pj hl,if_pos rfl];omega
   ·rw[Pj hl,if_pos rfl,if_pos rfl,List.length_append];simp
   ·intro x hx;rw[Pj hl,if_neg (by omega)]
theorem kS {gb O:List Int} (hO:O.Nodup):∀ n:Nat,n≤gb.length→zY gb O n (Md gb (List.range n) (O,gb))∧
 (∀ x,x < n→(Md gb (List.range n) (O,gb)).2.getD x 0≤((Md gb (List.range x) (O,gb)).1.length:Int)∧
  ((Md gb (List.range (x+1)) (O,gb)).1.length:Int)=if (Md gb (List.range n) (O,gb)).2.getD x 0=((Md gb (List.range x) (O,gb)).1.length:Int) then ((Md gb (List.range x) (O,gb)).1.length:Int)+1 else ((Md gb (List.range x) (O,gb)).1.length:Int))
 |0,_=>⟨⟨rfl,fun x _=>rfl,⟨[],by simp[Md]⟩,hO,by omega⟩,by omega⟩
 |n+1,hn=>by
  obtain⟨h1,h2⟩:=kS (gb:=gb) hO n (by omega)
  obtain⟨k1,k2,k3,k4⟩:=h1.next (by omega)
  have e:Md gb (List.range (n+1)) (O,gb)=Hi n (gb.getD n 0) (Md gb (List.range n) (O,gb)):=by rw[List.range_succ,rD];rfl
  refine⟨by rw[e];exact k1,fun x hx=> ?_⟩
  rcases Nat.lt_or_ge x n with h3 | h3
  ·rw[e,k4 x h3];exact h2 x h3
  ·have:x=n:=by omega
   subst this
   rw[e]
   exact⟨k2,k3⟩
structure tJ (D:List Int) (O:List Int) (o:Int) (e:List Af):Prop where
 ex:∃ row,e=Xf row∧∀ x,x < 256→((Va D o.toNat).getD x 0 < 0→row.getD x 0=(Va D o.toNat).getD x 0)∧
  (0≤(Va D o.toNat).getD x 0→∃ k:Nat,row.getD x 0=(k:Int)∧O[k]? =some ((Va D o.toNat).getD x 0))
theorem tJ.mono {D O:List Int} {o:Int} {e:List Af} (h:tJ D O o e) (t:List Int):tJ D (O++t) o e:=by
 obtain⟨row,h1,h2⟩:=h.ex
 refine⟨row,h1,fun x hx=>⟨(h2 x hx).1,fun h0=> ?_⟩⟩
 obtain⟨k,h3,h4⟩:=(h2 x hx).2 h0
 exact⟨k,h3,by rw[List.getElem?_append_left (List.getElem?_eq_some_iff.1 h4).1];exact h4⟩
def lI:Int→Int→List (List Af)→Prop
 |_,_,[]=>True
 |m,i,e::l=>i < m∧Xx m e∧lI (VA m e) (i+1) l
def HI (m:Int) (l:List (List Af)):Int:=l.foldl VA m
theorem gC:∀ {m i:Int} {l:List (List Af)} {e:List Af},lI m i l→i+l.length < HI m l→Xx (HI m l) e→lI m i (l++[e])
 |m,i,[],e,_,h1,h2=>⟨by simpa[HI] using h1,h2,trivial⟩
 |m,i,a::l,e,h,h1,h2=>⟨h.1,h.2.1,gC h.2.2 (by simp only[List.length_cons] at h1;simp only[HI,List.foldl_cons] at h1;simp only[HI];omega) h2⟩
theorem tP (m:Int) (l:List (List Af)) (e:List Af):HI m (l++[e])=VA (HI m l) e:=by
 unfold HI;rw[List.foldl_append];rfl
structure Bq (D:List Int) (n:Nat) (J:Int→Prop) (O:List Int) (l:List (List Af)):Prop where
 ord:Av n O
 first:O[0]? =some 0
 le:l.length≤O.length
 rows:∀ (k:Nat) o e,O[k]? =some o→l[k]? =some e→tJ D O o e
 met:HI 1 l=O.length
 MY:lI 1 0 l
 all:∀ o∈O,J o
 SY:∀ e∈l,∀ x∈e,x.to < O.length
section
variable {D:List Int} {n:Nat} {J:Int→Prop} (hD:D.length=n * 256) (cD:∀ c∈D,c < n)
 (hJ:∀ o,J o→0≤o→o < n→∀ x,x < 256→0≤(Va D o.toNat).getD x 0→J ((Va D o.toNat).getD x 0))
include hD cD hJ
theorem Bq.next {O:List Int} {l:List (List Af)} (h:Bq D n J O l) {o:Int} (ho:O[l.length]? =some o):
 Bq D n J (bg D o O).1 (l++[Xf (bg D o O).2]):=by
 have hoO:=List.mem_of_getElem? ho
 have hb:=h.ord.2 o hoO
 have hlt:=(List.getElem?_eq_some_iff.1 ho).1
 have hrl:(Va D o.toNat).length=256:=Lh hD (by omega)
 obtain⟨k1,k2⟩:=kS (gb:=Va D o.toNat) h.ord.1 256 (by omega)
 obtain⟨t,ht,hts⟩:=k1.ext
 unfold bg
 have hm:=pG (row:=(Md (Va D o.toNat) (List.range 256) (O,Va D o.toNat)).2) (g:=fun x=>((Md (Va D o.toNat) (List.range x) (O,Va D o.toNat)).1.length:Int)) (fun x=>by omega) 256 (fun x hx=>(k2 x hx).1) (fun x hx=>(k2 x hx).2)
 generalize hr:Md (Va D o.toNat) (List.range 256) (O,Va D o.toNat)=r at *
 obtain⟨m1,m2,m3⟩:=hm
 have hg0:((Md (Va D o.toNat) (List.range 0) (O,Va D o.toNat)).1.length:Int)=O.length:=rfl
 simp only[hg0] at m1 m2
 have e1:Be r.2 (List.range 256) []=Xf r.2:=rfl
 rw[e1] at m1 m2 m3
 have hval:tJ D r.1 o (Xf r.2):=⟨r.2,rfl,fun x hx=>k1.val x hx⟩
 have hm':=h.met
 have hget:∀ x,x < 256→(Va D o.toNat).getD x 0 < n:=by
  intro x hx
  rw[List.getD_eq_getElem?_getD,List.getElem?_eq_getElem (by omega)]
  have:=List.getElem_mem (l:=Va D o.toNat) (n:=x) (by omega)
  exact cD _ (by unfold Va at this;exact List.mem_of_mem_drop (List.mem_of_mem_take this))
 refine⟨⟨k1.nodup,?_⟩,?_,?_,?_,?_,?_,?_,?_⟩
 ·intro o' ho'
  rw[ht] at ho'
  rcases List.mem_append.1 ho' with h1 | h1
  ·exact h.ord.2 o' h1
  ·obtain⟨h2,x,hx,rfl⟩:=hts o' h1;exact⟨h2,hget x hx⟩
 ·rw[ht,List.getElem?_append_left (by omega)];exact h.first
 ·rw[ht];simp;omega
 ·intro k o' e h1 h2
  rcases Nat.lt_or_ge k l.length with h3 | h3
  ·rw[List.getElem?_append_left h3] at h2
   rw[ht,List.getElem?_append_left (by omega)] at h1
   rw[ht];exact (h.rows k o' e h1 h2).mono t
  ·have h4:=(List.getElem?_eq_some_iff.1 h2).1
   have:k=l.length:=by simp at h4;omega
   subst this
   rw[List.getElem?_append_right (Nat.le_refl _)] at h2
   simp at h2;subst h2
   rw[ht,List.getElem?_append_left (by omega),ho] at h1
   injection h1 with h1;subst h1;exact hval
 ·rw[tP,hm',m1]
 ·exact gC h.MY (by rw[hm'];omega) (by rw[hm'];exact m2)
 ·intro o' ho'
  rw[ht] at ho'
  rcases List.mem_append.1 ho' with h1 | h1
  ·exact h.all o' h1
  ·obtain⟨h2,x,hx,rfl⟩:=hts o' h1;exact hJ o (h.all o hoO) hb.1 hb.2 x hx h2
 ·intro e he x hx
  rcases List.mem_append.1 he with h1 | h1
  ·have:=h.SY e h1 x hx;rw[ht,List.length_append];omega
  ·simp only[List.mem_singleton] at h1;subst h1;exact m3 x hx
theorem Bq.go:∀ (f:Nat) (O:List Int) (l:List (List Af)),Bq D n J O l→n≤l.length+f→Bq D n J (ej D f (O,l)).1 (ej D f (O,l)).2∧(ej D f (O,l)).1.length=(ej D f (O,l)).2.length
 |0,O,l,h,hf=>⟨h,by have:=h.ord.len;have:=h.le;show O.length=l.length;omega⟩
 |f+1,O,l,h,hf=>by
  cases ho:O[l.length]? with
  |none=>
   rw[aq (r:=(O,l)) ho]
   have:=List.getElem?_eq_none_iff.1 ho
   exact⟨h,by have:=h.le;show O.length=l.length;omega⟩
  |some o=>
   rw[Vq (r:=(O,l)) ho]
   exact Bq.go f _ _ (h.next hD cD hJ ho) (by simp;omega)
theorem OV (hn:n≤64) (h0:0 < n) (hJ0:J 0):∃ O,Bq D n J O (cn D)∧O.length=(cn D).length:=by
 have h:Bq D n J [0] []:=⟨⟨by simp,by simp;omega⟩,rfl,by simp,by simp,rfl,trivial,by simpa using hJ0,by simp⟩
 have:=Bq.go hD cD hJ 64 [0] [] h (by simp;omega)
 exact⟨_,this.1,this.2⟩
end
end Go.AM.B1
namespace Go.AM.B1
open Go.AM Go.AM.So
structure QU (ss:List qc) (sets:List Al) (C:List (List Int)) (O:List Int) (l:List (List Af)):Prop where
 ok:Fc ss
 pre:bh ss
 W:Tk ss sets C
 hl:C.length=sets.length
 told:Bq (Te C.length C.flatten).C C.length (fun o=>∃ j,j < C.length∧o=co C j) O l
 len:O.length=l.length
 pos:0 < C.length
 le:C.length≤64
theorem FH (C:List (List Int)):co C 0=0:=by unfold co;rw[if_pos rfl]
section
variable {ss:List qc} {sets:List Al} {C:List (List Int)} (W:Tk ss sets C) (hl:C.length=sets.length)
include W hl
theorem pN {j x:Nat} (hj:j < C.length) (hx:x < 256):Wp C j x=if 0≤Dg C j x then co C (Dg C j x).toNat else Dg C j x:=by
 unfold Wp
 split
 ·next h=>
  have:=W.OA hl hj hx h
  unfold co;rw[if_neg (by omega)]
 ·rfl
end
theorem mW {ss:List qc} {l:List (List Af)} (Ba:Fc ss) (hpre:bh ss) (h:oh ss=some l):∃ sets C O,QU ss sets C O l:=by
 unfold oh at h
 rw[Option.map_eq_some_iff] at h
 obtain⟨⟨sets,C⟩,hw,rfl⟩:=h
 obtain⟨W,hl⟩:=oH Ba.len (fun s hs=>(Ba.gu s hs).lo) hw
 have W:Tk ss sets C:=W
 have hl:C.length=sets.length:=hl
 have hm:=W.fy hl
 have h0:0 < C.length:=by rw[hl];exact (List.getElem?_eq_some_iff.1 W.first).1
 have h64:C.length≤64:=by rw[hl];exact W.ok.1
 have hrow:∀ j x,j < C.length→x < 256→(Va (Te C.length C.flatten).C (co C j).toNat).getD x 0=Wp C j x:=fun j x hj hx=>sI W hl hj hx
 obtain⟨O,h1,h2⟩:=OV (n:=C.length) (J:=fun o=>∃ j,j < C.length∧o=co C j) (D:=(Te C.length C.flatten).C) hm.hC (by
  intro c hc
  obtain⟨p,hp,rfl⟩:=List.getElem_of_mem hc
  have hpl:p < C.length * 256:=by rw[← hm.hC];exact hp
  have e1:(Te C.length C.flatten).C[p]=(Va (Te C.length C.flatten).C (p / 256)).getD (p % 256) 0:=by
   rw[List.getD_eq_getElem?_getD,zt (Nat.mod_lt _ (by omega))]
   have:p / 256 * 256+p % 256=p:=by omega
   rw[this,List.getElem?_eq_getElem hp];rfl
  rw[e1,W.AP hl (by omega) (Nat.mod_lt _ (by omega))]
  have hb:=W.bound hl (k:=p / 256) (x:=p % 256) (by omega) (Nat.mod_lt _ (by omega))
  unfold Wp
  split
  ·exact (hm.uo (j:=(Dg C (p / 256) (p % 256)).toNat) (by omega)).2.1
  ·exact hb.2) (by
  rintro o ⟨j,hj,rfl⟩ _ _ x hx h3
  rw[hrow j x hj hx,pN W hl hj hx] at h3 ⊢
  have hb:=W.bound hl hj hx
  split at h3
  ·next h4=>rw[if_pos h4];exact⟨_,by omega,rfl⟩
  ·omega) h64 h0 ⟨0,h0,(FH C).symm⟩
 exact⟨sets,C,O,Ba,hpre,W,hl,h1,h2,h0,h64⟩
section
variable {ss:List qc} {sets:List Al} {C:List (List Int)} {O:List Int} {l:List (List Af)}
theorem QU.first (h:QU ss sets C O l):O[0]? =some (co C 0):=by rw[FH];exact h.told.first
theorem QU.row (h:QU ss sets C O l) {k j:Nat} (hk:O[k]? =some (co C j)) (hj:j < C.length):∃ row,l[k]? =some (Xf row)∧
 ∀ x,x < 256→(Dg C j x < 0→row.getD x 0=Dg C j x)∧(0≤Dg C j x→∃ k':Nat,row.getD x 0=(k':Int)∧0 < k'∧O[k']? =some (co C (Dg C j x).toNat)):=by
 have hkl:=(List.getElem?_eq_some_iff.1 hk).1
 have hle:=h.len
 have he:l[k]? =some l[k]:=List.getElem?_eq_getElem (by omega)
 obtain⟨row,h1,h2⟩:=(h.told.rows k _ _ hk he).ex
 refine⟨row,by rw[he,h1],fun x hx=> ?_⟩
 have h3:=h2 x hx
 rw[sI h.W h.hl hj hx,pN h.W h.hl hj hx] at h3
 constructor
 ·intro h4
  rw[if_neg (by omega)] at h3
  exact h3.1 h4
 ·intro h4
  rw[if_pos h4] at h3
  have hd:=h.W.OA h.hl hj hx h4
  have hb:=h.W.bound h.hl hj hx
  have hc:0≤co C (Dg C j x).toNat:=by
   unfold co;split
   ·omega
   ·exact ((h.W.fy h.hl).uo (by omega)).1
  obtain⟨k',e1,e2⟩:=h3.2 hc
  refine⟨k',e1,?_,e2⟩
  rcases Nat.eq_zero_or_pos k' with rfl | h5
  ·rw[h.first,FH] at e2
   injection e2 with e2
   unfold co at e2
   rw[if_neg (by omega)] at e2
   exact absurd e2.symm (WN h.ok h.pre h.W h.hl (by omega) (by omega))
  ·exact h5
end
end Go.AM.B1
namespace Go.AM.B1
open Go.AM Go.AM.So
section
variable {ss:List qc} {sets:List Al} {C:List (List Int)} {O:List Int} {l:List (List Af)} (h:QU ss sets C O l)
include h
theorem QU.step {k j:Nat} (hk:O[k]? =some (co C j)) (hj:j < C.length) {x:Nat} (hx:x < 256):
 (Dg C j x= -2∧EB l (k:Int) (x:Int)=(0,false))∨(Dg C j x= -1∧EB l (k:Int) (x:Int)=(-1,true))∨
 (0≤Dg C j x∧Dg C j x < C.length∧∃ k':Nat,EB l (k:Int) (x:Int)=((k':Int),true)∧0 < k'∧O[k']? =some (co C (Dg C j x).toNat)):=by
 obtain⟨row,h1,h2⟩:=h.row hk hj
 have h3:=(xA row).step x hx
 obtain⟨h4,h5⟩:=h2 x hx
 have hb:=h.W.bound h.hl hj hx
 have hs:EB l (k:Int) (x:Int)=match rh (x:Int) (Xf row) with
  |some t=>(t,true)
  |none=>(0,false):=by
  unfold EB
  rw[if_neg (by omega),Int.toNat_natCast,h1] <;> rfl
 rw[h3] at hs
 by_cases c0:0≤Dg C j x
 ·obtain⟨k',e1,e2,e3⟩:=h5 c0
  rw[e1,if_neg (by omega)] at hs
  exact .inr (.inr ⟨c0,hb.2,k',hs,e2,e3⟩)
 ·have h6:=h4 (by omega)
  rw[h6] at hs
  by_cases c1:Dg C j x= -2
  ·rw[if_pos c1] at hs;exact .inl ⟨c1,hs⟩
  ·have c2:Dg C j x= -1:=by omega
   rw[if_neg c1,c2] at hs;exact .inr (.inl ⟨c2,hs⟩)
theorem QU.match:∀ (bs:List Nat) (i k j:Nat),Bytes bs→O[k]? =some (co C j)→j < C.length→
 ∃ m:Nat,m≤bs.length∧((SD l i (k:Int) (bs.map fun (n:Nat)=>(n:Int))=(((i+m:Nat):Int),1)∧0 < m∧runT C j (bs.take m)= -1)∨
  (SD l i (k:Int) (bs.map fun (n:Nat)=>(n:Int))=(((i+m:Nat):Int),2)∧m=bs.length∧0≤runT C j bs)∨
  (SD l i (k:Int) (bs.map fun (n:Nat)=>(n:Int))=(((i+m:Nat):Int),3)∧m < bs.length∧0≤runT C j (bs.take m)∧runT C j (bs.take (m+1))= -2))
 | [],i,k,j,_,hk,hj=>⟨0,by simp,.inr (.inl ⟨rfl,rfl,Int.natCast_nonneg j⟩)⟩
 |x::bs,i,k,j,hb,hk,hj=>by
  have hx:x < 256:=hb x (by simp)
  have hbs:Bytes bs:=fun y hy=>hb y (by simp[hy])
  have hj0:¬((j:Int) < 0):=by omega
  rw[List.map_cons,SD]
  rcases h.step hk hj hx with⟨h1,h2⟩ | ⟨h1,h2⟩ | ⟨h1,h1',k',h2,h3,h4⟩
  ·rw[h2]
   refine⟨0,by simp,.inr (.inr ⟨rfl,by simp,Int.natCast_nonneg j,?_⟩)⟩
   show runT C j [x]= -2
   rw[runT,if_neg hj0,Int.toNat_natCast,h1];rfl
  ·rw[h2]
   refine⟨1,by simp,.inl ⟨rfl,by omega,?_⟩⟩
   show runT C j [x]= -1
   rw[runT,if_neg hj0,Int.toNat_natCast,h1];rfl
  ·rw[h2]
   simp only[Bool.true_eq_false,if_false]
   rw[if_neg (by omega)]
   obtain⟨m,hm,hc⟩:=QU.match bs (i+1) k' (Dg C j x).toNat hbs h4 (by omega)
   have hr:∀ w,runT C j (x::w)=runT C ((Dg C j x).toNat:Nat) w:=by
    intro w
    rw[runT,if_neg hj0,Int.toNat_natCast,Int.toNat_of_nonneg h1]
   have he:i+1+m=i+(m+1):=by omega
   rw[he] at hc
   refine⟨m+1,by simp;omega,?_⟩
   rcases hc with⟨c1,c2,c3⟩ | ⟨c1,c2,c3⟩ | ⟨c1,c2,c3,c4⟩
   ·exact .inl ⟨c1,by omega,by rw[List.take_succ_cons,hr];exact c3⟩
   ·exact .inr (.inl ⟨c1,by simp[c2],by rw[hr];exact c3⟩)
   ·exact .inr (.inr ⟨c1,by simp;omega,by rw[List.take_succ_cons,hr];exact c3,by rw[List.take_succ_cons,hr];exact c4⟩)
end
end Go.AM.B1
namespace Go.AM.B1
open Go.AM Go.AM.So
theorem MO {row:List Int} {e:Af} (he:e∈Xf row):0≤e.lo∧e.lo≤e.hi∧e.hi < 256∧e.to≠ -2∧e.to=row.getD e.lo.toNat 0:=by
 have h:=xA row
 obtain⟨h1,h2,h3,h4⟩:=h.JI e he
 have hs:=h.step e.lo.toNat (by omega)
 rw[Int.toNat_of_nonneg h1,UC h.ord e he (Int.le_refl _) h2] at hs
 refine⟨h1,h2,h3,h4,?_⟩
 split at hs
 ·cases hs
 ·injection hs
theorem JD {ss:List qc} {l:List (List Af)} (Ba:Fc ss) (hpre:bh ss) (h:oh ss=some l):∀ e∈l,Rn e:=by
 obtain⟨sets,C,O,L⟩:=mW Ba hpre h
 intro e he
 obtain⟨k,hk,rfl⟩:=List.getElem_of_mem he
 have hkO:k < O.length:=by rw[L.len];exact hk
 obtain⟨j,hj,ho⟩:=L.told.all O[k] (List.getElem_mem hkO)
 obtain⟨row,h1,h2⟩:=L.row (k:=k) (j:=j) (by rw[List.getElem?_eq_getElem hkO,ho]) hj
 rw[List.getElem?_eq_getElem hk] at h1
 injection h1 with h1
 have htos:=L.told.SY _ (List.getElem_mem hk)
 have h64:=(ZA h).1
 have hlen:=L.len
 rw[h1] at htos ⊢
 refine⟨fun x hx=> ?_,(xA row).ord⟩
 obtain⟨e1,e2,e3,e4,e5⟩:=MO hx
 have:=htos x hx
 refine⟨e1,e2,e3,?_,by omega⟩
 obtain⟨f1,f2⟩:=h2 x.lo.toNat (by omega)
 by_cases hc:Dg C j x.lo.toNat < 0
 ·have hb:=L.W.bound L.hl hj (x:=x.lo.toNat) (by omega)
  rw[f1 hc] at e5
  omega
 ·obtain⟨k',g1,_⟩:=f2 (by omega)
  rw[g1] at e5
  omega
def yI (r:List Int):PV:= .agg (r.map i64)
theorem bD {sz:Nat}:∀ {D:List (List PV)},(∀ r∈D,r.length=sz)→chunk sz true D.length D.flatten=D.map .agg
 | [],_=>rfl
 |r::D,h=>by
  have hr:=h r (by simp)
  rw[List.length_cons,chunk,if_pos rfl,List.flatten_cons,List.take_left' hr,List.drop_left' hr,bD fun x hx=>h x (by simp[hx])];rfl
theorem Az:∀ {D:List (List Int)},(∀ r∈D,r.length=3)→Eh 3 D.length D.flatten=D
 | [],_=>rfl
 |r::D,h=>by
  have hr:=h r (by simp)
  rw[List.length_cons,Eh,List.flatten_cons,List.take_left' hr,List.drop_left' hr,Az fun x hx=>h x (by simp[hx])]
def ij (ss:List qc):List (List Int):=(Eo 3 0 (Si ss ss.length).toArray).toList
theorem Dq (ss:List qc):(ij ss).Perm (Si ss ss.length):=(Mz 3 0 (Si ss ss.length).toArray).2.1
theorem zA {ss:List qc} {r:List Int} (h:r∈ij ss):r.length=3:=Dx ((Dq ss).mem_iff.1 h)
theorem cH (ss:List qc):(ij ss).length=ss.length:=by rw[(Dq ss).length_eq,Qp]
structure uv (T:PV) (ss:List qc) (l:List (List Af)):Prop where
 ex:∃ S' NX DG RW,T= .rp [S',El l,NX,DG,RW,i64 (Hj ss)] 0∧Vh 2 S' (ss.map We)∧Vh 256 NX (l.map Fo)∧Vh 1 DG (ss.map fun s=>Zj s.parts)∧Vh 3 RW ((ij ss).map yI)
section
variable {S:PV} {ss:List qc} {es:List PV} (hS:Za S ss es)
include hS
theorem eC {n:Int} {V:PV} (hV:(AV.pv V).one=true) (h0:n≠0) (h1:n≠130) (hb:Ic [.agg [S]]=some (.ic [.agg [V],i64 n])):Eb [.agg [S]]=some (.ic [.Ye,i64 n]):=by
 have hS1:(AV.pv S).one=true:=by rcases hS.is with⟨h,_⟩ | h <;> rw[h] <;> rfl
 have d0:(n==0)=false:=by simp[h0]
 have d1:(n==130)=false:=by simp[h1]
 have d2:(n != 0)=true:=by simp[h0]
 have st:Ea [.box [.pv .fa]] 1 (.ptr 0 0) (.pv (.agg [V]))=some [.box [.pv V]]:=by simp[Ea,AV.cells,PV.cells,hV,ga]
 simp -implicitDefEqProofs only[Eb,FB.eq_1,SX,sevalprocAttr,Ci,hS1,Od,hb,st,d0,d1,d2]
theorem iC {n:Int} {V:PV} {y:Bool} {a b:Int} (hV:(AV.pv V).one=true) (h0:n=0∨n=130) (hy:n=130∨y=false) (hb:Ic [.agg [S]]=some (.ic [.agg [V],i64 n])) (hi:fh [.agg [S]]=some (.ic [.agg [.bool y,i64 a,i64 b],i64 0])):
 Eb [.agg [S]]=some (.ic [.Ye,i64 (if y then n else 111)]):=by
 have hS1:(AV.pv S).one=true:=by rcases hS.is with⟨h,_⟩ | h <;> rw[h] <;> rfl
 have st:Ea [.box [.pv .fa]] 1 (.ptr 0 0) (.pv (.agg [V]))=some [.box [.pv V]]:=by simp[Ea,AV.cells,PV.cells,hV,ga]
 have st2:Ea [.box [.pv V],.box [.pv (.bool false),.pv (i64 0),.pv (i64 0)]] 3 (.ptr 1 0) (.pv (.agg [.bool y,i64 a,i64 b]))=some [.box [.pv V],.box [.pv (.bool y),.pv (i64 a),.pv (i64 b)]]:=rfl
 have p2:∀ a b c d,place [a,.box [b,c,d]] 0 (.ptr 1 0)=some (.ptr 1 0):=fun a b c d=>rfl
 have l2:∀ a b c d,ta [a,.box [b,c,d]] false 1 (.ptr 1 0)=some b:=fun a b c d=>rfl
 have z0:((0:Int)==0)=true:=rfl
 have z1:((130:Int)==0)=false:=rfl
 have z2:((130:Int)==130)=true:=rfl
 have z3:((130:Int) != 0)=true:=rfl
 have z4:((111:Int) != 0)=true:=rfl
 rcases h0 with rfl | rfl
 ·obtain rfl:y=false:=by rcases hy with h | h;cases h;exact h
  simp -implicitDefEqProofs only[Eb,FB.eq_1,SX,sevalprocAttr,Ci,hS1,Od,hb,hi,st,st2,p2,l2,z0,z1,z2,z3,z4]
 ·cases y <;> simp -implicitDefEqProofs only[Eb,FB.eq_1,SX,sevalprocAttr,Ci,hS1,Od,hb,hi,st,st2,p2,l2,z0,z1,z2,z3,z4]
end
end Go.AM.B1
namespace Go.AM.B1
open Go.AM Go.AM.So
theorem ZC (l:List Int) (n:Nat):(Sf l).all (AV.ue n deep)=true:=by
 rw[List.all_eq_true];intro x hx
 obtain⟨y,_,rfl⟩:=List.mem_map.1 hx
 rfl
theorem pU {V S':PV} {y:Bool} {a b:Int} (nl:Bool) (ds:List PV) (D:List (List Int)) (fl:Nat) (nr:Bool) (m:Int):
 He (Ix (.box [.pv V]) (.box [.pv (.bool y),.pv (i64 a),.pv (i64 b)]) (.tok 256 0 true) (.pv S') (.pv V) (.uq 3 true 256 []) nl ds D fl nr m):=by
 intro n hn o ho
 have hn:6≤n:=hn
 simp only[Ix,List.mem_cons,List.not_mem_nil,or_false] at ho
 rcases ho with rfl | rfl | rfl | rfl | rfl | rfl
 ·exact Xh n [V]
 ·exact Xh n [.bool y,i64 a,i64 b]
 ·simp only[oa,Pa,Qa,vn (show 3 < n by omega),vn (show 4 < n by omega),wO (show 5 < n by omega),Option.bind_some,Option.map_some]
 ·rfl
 ·rfl
 ·simp only[oa,ZC,if_true]
theorem ET {V S':PV} {y:Bool} {a b m:Int} {nl:Bool} {ds:List PV} {D:List (List Int)} {fl k:Nat} {nr:Bool} (nx:Bool) (es:List PV):
 He (Sv (.box [.pv V]) (.box [.pv (.bool y),.pv (i64 a),.pv (i64 b)]) (.tok 1 k nl) (.seq 3 true (Sf D.flatten) fl nr) (.pv S') (.pv V) (.uq 4 nl 1 ds) (.own 5 k) (.pv (i64 m)) nx es):=by
 intro n hn o ho
 have hn:6≤n:=hn
 simp only[Sv,List.mem_cons,List.not_mem_nil,or_false] at ho
 rcases ho with rfl | rfl | rfl | rfl | rfl | rfl
 ·exact Xh n [V]
 ·exact Xh n [.bool y,i64 a,i64 b]
 ·simp only[oa,Pa,Qa,vn (show 3 < n by omega),vn (show 4 < n by omega),wO (show 5 < n by omega),Option.bind_some,Option.map_some]
 ·rfl
 ·rfl
 ·simp only[oa,ZC,if_true]
theorem OR {V S':PV} {o0 o1:ba} {m:Int} {nl nr nx:Bool} {ds es:List PV} {D:List (List Int)} {fl k:Nat} (hk:D.length=k) (hD:∀ r∈D,r.length=3) (h1:nl=true→ds=[]) (h2:nr=true→D=[]) (h3:nx=true→es=[]):
 ∃ NX DG RW,Rb (Sv o0 o1 (.tok 1 k nl) (.seq 3 true (Sf D.flatten) fl nr) (.pv S') (.pv V) (.uq 4 nl 1 ds) (.own 5 k) (.pv (i64 m)) nx es) 5 (.ptr 2 0)=some (.rp [S',V,NX,DG,RW,i64 m] 0)∧
  Vh 256 NX es∧Vh 1 DG ds∧Vh 3 RW (D.map yI):=by
 refine⟨if nx then .fa else .lit 256 es,if nl then .fa else .lit 1 ds,if nr then .fa else .lit 3 (D.map yI),?_,?_,?_,?_⟩
 ·have hc:k * 3=(Sf D.flatten).length∧(true||(3:Nat)==1)=true:=⟨by rw[List.length_map,Uw hD,hk],rfl⟩
  have hm:Pa (Rb (Sv o0 o1 (.tok 1 k nl) (.seq 3 true (Sf D.flatten) fl nr) (.pv S') (.pv V) (.uq 4 nl 1 ds) (.own 5 k) (.pv (i64 m)) nx es) 3) (Sf D.flatten)=some (D.flatten.map i64):=by
   generalize Sv o0 o1 (.tok 1 k nl) (.seq 3 true (Sf D.flatten) fl nr) (.pv S') (.pv V) (.uq 4 nl 1 ds) (.own 5 k) (.pv (i64 m)) nx es=H
   generalize D.flatten=F
   induction F with
   |nil=>rfl
   |cons x F ih=>
    show Pa (Rb H 3) (.pv (i64 x)::Sf F)=_
    rw[Pa,ih];rfl
  have hch:chunk 3 true k (D.flatten.map i64)=D.map yI:=by
   have:=bD (sz:=3) (D:=D.map fun r=>r.map i64) (by
    intro r hr
    obtain⟨q,hq,rfl⟩:=List.mem_map.1 hr
    rw[List.length_map,hD q hq])
   rw[List.length_map,List.map_map,←List.map_flatten,hk] at this
   exact this
  have h5:(Sv o0 o1 (.tok 1 k nl) (.seq 3 true (Sf D.flatten) fl nr) (.pv S') (.pv V) (.uq 4 nl 1 ds) (.own 5 k) (.pv (i64 m)) nx es)[5]? =some (.seq 3 true (Sf D.flatten) fl nr):=rfl
  have hb:(Sv o0 o1 (.tok 1 k nl) (.seq 3 true (Sf D.flatten) fl nr) (.pv S') (.pv V) (.uq 4 nl 1 ds) (.own 5 k) (.pv (i64 m)) nx es)[2]? =some (.box [.pv S',.pv V,.uq 3 nx 256 es,.uq 4 nl 1 ds,.own 5 k,.pv (i64 m)]):=rfl
  have ho:Rb (Sv o0 o1 (.tok 1 k nl) (.seq 3 true (Sf D.flatten) fl nr) (.pv S') (.pv V) (.uq 4 nl 1 ds) (.own 5 k) (.pv (i64 m)) nx es) 4 (.own 5 k)=some (if nr then .fa else .lit 3 (D.map yI)):=by
   simp only[Rb,h5,if_pos hc,hm,Option.map_some,hch]
   cases nr <;> rfl
  generalize Sv o0 o1 (.tok 1 k nl) (.seq 3 true (Sf D.flatten) fl nr) (.pv S') (.pv V) (.uq 4 nl 1 ds) (.own 5 k) (.pv (i64 m)) nx es=H at *
  show (match H[2]? with | some (.box cells)=>(Pa (Rb H 4) cells).map fun ps=>PV.rp ps 0 | _=>none)=_
  rw[hb]
  have hv:∀ p:PV,Rb H 4 (.pv p)=some p:=fun p=>rfl
  have hu:∀ id nl sz es,Rb H 4 (.uq id nl sz es)=some (if nl then .fa else .lit sz es):=fun _ _ _ _=>rfl
  simp only[Pa,hv,hu,ho,Option.bind_some,Option.map_some]
 ·cases nx with
  |false=>exact .inr rfl
  |true=>exact .inl ⟨rfl,h3 rfl⟩
 ·cases nl with
  |false=>exact .inr rfl
  |true=>exact .inl ⟨rfl,h1 rfl⟩
 ·cases nr with
  |false=>exact .inr rfl
  |true=>exact .inl ⟨rfl,by rw[h2 rfl];rfl⟩
theorem vT {ss:List qc} (h32:ss.length≤32) {H:List ba} {fl:Nat} {nr:Bool} (hH:H[5]? =some (.seq 3 true (Sf (Si ss ss.length).flatten) fl nr)):
 zh Zq (fun _=>none) 8 34 [.own 5 ss.length,.Sk 36 []] H=some (.pv (.ic []),H.set 5 (.seq 3 true (Sf (ij ss).flatten) (ss.length * 3) nr)):=by
 have e34:∀ (d:Nat) args H,zh Zq (fun _=>none) (d+1) 34 args H=mz 3 0 36 args H:=fun d args H=>rfl
 rw[e34 7]
 have hl:(Sf (Si ss ss.length).flatten).length=ss.length * 3:=by rw[List.length_map,Uw fun r hr=>Dx hr,Qp]
 simp only[mz,hH]
 rw[if_pos ⟨trivial,trivial,hl.symm,by omega⟩,gv,Option.map_some,hl]
 have:=Az (D:=Si ss ss.length) fun r hr=>Dx hr
 rw[Qp] at this
 rw[this];rfl
theorem WC {S:PV} {ss:List qc} {es:List PV} (hS:Za S ss es) (Ba:Fc ss) (hpre:bh ss) {l:List (List Af)} (ha:oh ss=some l) {a b:Int} (hi:fh [.agg [S]]=some (.ic [.agg [.bool true,i64 a,i64 b],i64 0])):
 ∃ T,Eb [.agg [S]]=some (.ic [T,i64 0])∧uv T ss l:=by
 have hS1:(AV.pv S).one=true:=by rcases hS.is with⟨h,_⟩ | h <;> rw[h] <;> rfl
 have hb:=(Ei hS).2.2.2 Ba hpre l ha
 obtain⟨S',hcp,hS'⟩:=KE hS Ba
 have hS'1:(AV.pv S').one=true:=by rcases hS' with⟨h,_⟩ | h <;> rw[h] <;> rfl
 have lS:=hS.Tb
 obtain⟨k64,k256⟩:=ZA ha
 have hst:=gE k64 k256
 have hV1:(AV.pv (El l)).one=true:=rfl
 have hVl:Vh 1 (El l) (l.map je):= .inr rfl
 have lV:=hVl.len
 rw[List.length_map] at lV
 have heo:=JD Ba hpre ha
 obtain⟨V,hVe⟩:∃ V,V=El l:=⟨_,rfl⟩
 rw[← hVe] at hb hst hV1 hVl lV
 have st:Ea [.box [.pv .fa]] 1 (.ptr 0 0) (.pv (.agg [V]))=some [.box [.pv V]]:=by simp[Ea,AV.cells,PV.cells,hV1,ga]
 have st2:Ea [.box [.pv V],.box [.pv (.bool false),.pv (i64 0),.pv (i64 0)]] 3 (.ptr 1 0) (.pv (.agg [.bool true,i64 a,i64 b]))=some [.box [.pv V],.box [.pv (.bool true),.pv (i64 a),.pv (i64 b)]]:=rfl
 have p2:∀ a b c d,place [a,.box [b,c,d]] 0 (.ptr 1 0)=some (.ptr 1 0):=fun a b c d=>rfl
 have l2:∀ a b c d,ta [a,.box [b,c,d]] false 1 (.ptr 1 0)=some b:=fun a b c d=>rfl
 have l3:ta [.box [.pv V],.box [.pv (.bool true),.pv (i64 a),.pv (i64 b)]] true 1 (.ptr 0 0)=some (.pv (.agg [V])):=rfl
 have z0:((0:Int)==0)=true:=rfl
 have z1:((0:Int) != 0)=false:=rfl
 have m1:ga [AV.pv PV.fa,.pv .fa,.pv .fa,.pv .fa,.pv .fa,.pv (.int .i64 0)] 0 [AV.pv S']=[.pv S',.pv .fa,.pv .fa,.pv .fa,.pv .fa,.pv (.int .i64 0)]:=rfl
 have m2:ga [AV.pv S',.pv .fa,.pv .fa,.pv .fa,.pv .fa,.pv (.int .i64 0)] 1 [AV.pv V]=[.pv S',.pv V,.pv .fa,.pv .fa,.pv .fa,.pv (.int .i64 0)]:=rfl
 have m3:Dd [AV.pv S',.pv V,.pv .fa,.pv .fa,.pv .fa,.pv (.int .i64 0)]=some [S',V,.fa,.fa,.fa,.int .i64 0]:=rfl
 have hz1:(0 < 256)=True:=by simp
 have hz2:(0 < 3)=True:=by simp
 have hz3:(0 < 1)=True:=by simp
 suffices key:Pd (fun r=>∃ T,r= .ic [T,i64 0]∧uv T ss l) (Eb [.agg [S]]) by
  obtain⟨r,h1,T,rfl,h2⟩:=pc key
  exact⟨T,h1,h2⟩
 generalize hQ:(fun r=>∃ T,r=PV.ic [T,i64 0]∧_)=Q
 simp -implicitDefEqProofs only[Eb,FB.eq_1,SX,sevalprocAttr,Ci,hS1,hV1,hS'1,Od,Sa,Kb,hb,hi,st,st2,p2,l2,l3,z0,z1,hcp,m1,m2,m3,PC,ff,hz1,hz2,hz3,lS]
 generalize hEE:(Tr.set _ 48 _:Tr)=E
 have q4:E.get 4= .ptr 0 0:=by rw[← hEE];simp[Tr.aa]
 have q8:E.get 8= .ptr 2 0:=by rw[← hEE];simp[Tr.aa]
 have q46:E.get 46= .pv S:=by rw[← hEE];simp[Tr.aa]
 have q47:E.get 47= .pv (i64 ss.length):=by rw[← hEE];simp[Tr.aa]
 have q48:E.get 48= .pv (i64 0):=by rw[← hEE];simp[Tr.aa]
 refine ya (KV (call:=zh Zq (fun _=>none) 8) (pU (V:=V) (S':=S') (y:=true) (a:=a) (b:=b)) hS Ba q4 q8 q46 q47 q48) ?_
 rintro r ⟨_,E2,nl,nr,rfl,g4,g8,hnl,hnr⟩
 have hdl:(ss.map fun s=>Zj s.parts).length=ss.length:=by rw[List.length_map]
 have hrl:=Qp ss ss.length
 have hDl:=cH ss
 have p5:∀ d,place (Ix (.box [.pv V]) (.box [.pv (.bool true),.pv (i64 a),.pv (i64 b)]) (.tok 256 0 true) (.pv S') (.pv V) (.uq 3 true 256 []) nl (ss.map fun s=>Zj s.parts) (Si ss ss.length) 0 nr (Hj ss)) d (.ptr 2 0)=some (.ptr 2 (0+d)):=fun d=>gd rfl d 0
 have l5:ta (Ix (.box [.pv V]) (.box [.pv (.bool true),.pv (i64 a),.pv (i64 b)]) (.tok 256 0 true) (.pv S') (.pv V) (.uq 3 true 256 []) nl (ss.map fun s=>Zj s.parts) (Si ss ss.length) 0 nr (Hj ss)) false 1 (.ptr 2 4)=some (.own 5 ss.length):=by
  rw[← hrl,Qp]
  show some (AV.own 5 (Si ss ss.length).length)=_
  rw[hrl]
 have hsort:=vT Ba.len (H:=Ix (.box [.pv V]) (.box [.pv (.bool true),.pv (i64 a),.pv (i64 b)]) (.tok 256 0 true) (.pv S') (.pv V) (.uq 3 true 256 []) nl (ss.map fun s=>Zj s.parts) (Si ss ss.length) 0 nr (Hj ss)) rfl
 have hHT:(Ix (.box [.pv V]) (.box [.pv (.bool true),.pv (i64 a),.pv (i64 b)]) (.tok 256 0 true) (.pv S') (.pv V) (.uq 3 true 256 []) nl (ss.map fun s=>Zj s.parts) (Si ss ss.length) 0 nr (Hj ss)).set 5 (.seq 3 true (Sf (ij ss).flatten) (ss.length * 3) nr)=Sv (.box [.pv V]) (.box [.pv (.bool true),.pv (i64 a),.pv (i64 b)]) (.tok 1 ss.length nl) (.seq 3 true (Sf (ij ss).flatten) (ss.length * 3) nr) (.pv S') (.pv V) (.uq 4 nl 1 (ss.map fun s=>Zj s.parts)) (.own 5 ss.length) (.pv (i64 (Hj ss))) true []:=by
  unfold Ix Sv
  rw[hdl,hrl];rfl
 rw[hHT] at hsort
 have p6:∀ d,place (Sv (.box [.pv V]) (.box [.pv (.bool true),.pv (i64 a),.pv (i64 b)]) (.tok 1 ss.length nl) (.seq 3 true (Sf (ij ss).flatten) (ss.length * 3) nr) (.pv S') (.pv V) (.uq 4 nl 1 (ss.map fun s=>Zj s.parts)) (.own 5 ss.length) (.pv (i64 (Hj ss))) true []) d (.ptr 0 0)=some (.ptr 0 (0+d)):=fun d=>gd rfl d 0
 have l6:ta (Sv (.box [.pv V]) (.box [.pv (.bool true),.pv (i64 a),.pv (i64 b)]) (.tok 1 ss.length nl) (.seq 3 true (Sf (ij ss).flatten) (ss.length * 3) nr) (.pv S') (.pv V) (.uq 4 nl 1 (ss.map fun s=>Zj s.parts)) (.own 5 ss.length) (.pv (i64 (Hj ss))) true []) false 1 (.ptr 0 0)=some (.pv V):=rfl
 have hnx:=fun (E3:Tr) (r8:E3.get 8= .ptr 2 0) (r101:E3.get 101= .pv V) (r102:E3.get 102= .pv (i64 l.length)) (r103:E3.get 103= .pv (i64 0))=>
  cW (call:=zh Zq (fun _=>none) 8) (ET (V:=V) (S':=S') (y:=true) (a:=a) (b:=b) (m:=Hj ss) (nl:=nl) (ds:=ss.map fun s=>Zj s.parts) (D:=ij ss) (fl:=ss.length * 3) (k:=ss.length) (nr:=nr)) hVl k64 k256 heo r8 r101 r102 r103
 obtain⟨NX,hNX⟩:∃ x,x=fun nx=>Sv (.box [.pv V]) (.box [.pv (.bool true),.pv (i64 a),.pv (i64 b)]) (.tok 1 ss.length nl) (.seq 3 true (Sf (ij ss).flatten) (ss.length * 3) nr) (.pv S') (.pv V) (.uq 4 nl 1 (ss.map fun s=>Zj s.parts)) (.own 5 ss.length) (.pv (i64 (Hj ss))) nx (l.map Fo):=⟨_,rfl⟩
 have hnx':=hnx
 generalize Ix (.box [.pv V]) (.box [.pv (.bool true),.pv (i64 a),.pv (i64 b)]) (.tok 256 0 true) (.pv S') (.pv V) (.uq 3 true 256 []) nl (ss.map fun s=>Zj s.parts) (Si ss ss.length) 0 nr (Hj ss)=HS at *
 simp -implicitDefEqProofs only[SX,sevalprocAttr,g4,g8,p5,l5,hsort,p6,l6,lV]
 generalize hEE3:(Tr.set _ 103 _:Tr)=E3
 refine ya (hnx E3 (by rw[← hEE3];simp[Tr.aa,g8]) (by rw[← hEE3];simp[Tr.aa]) (by rw[← hEE3];simp[Tr.aa]) (by rw[← hEE3];simp[Tr.aa])) ?_
 rintro r ⟨_,E4,nx,rfl,r8,hx⟩
 obtain⟨NX,DG,RW,t1,t2,t3,t4⟩:=OR (V:=V) (S':=S') (o0:= .box [.pv V]) (o1:= .box [.pv (.bool true),.pv (i64 a),.pv (i64 b)]) (m:=Hj ss) (nl:=nl) (nr:=nr) (nx:=nx) (ds:=ss.map fun s=>Zj s.parts) (es:=l.map Fo) (D:=ij ss) (fl:=ss.length * 3) (k:=ss.length) hDl (fun r hr=>zA hr) (fun h=>by rw[hnl h];rfl) (fun h=>by have:=hDl;rw[hnr h] at this ⊢;exact List.eq_nil_of_length_eq_zero this) (fun h=>by rw[hx h];rfl)
 generalize Sv (.box [.pv V]) (.box [.pv (.bool true),.pv (i64 a),.pv (i64 b)]) (.tok 1 ss.length nl) (.seq 3 true (Sf (ij ss).flatten) (ss.length * 3) nr) (.pv S') (.pv V) (.uq 4 nl 1 (ss.map fun s=>Zj s.parts)) (.own 5 ss.length) (.pv (i64 (Hj ss))) nx (l.map Fo)=HT at *
 have hm1:Ut [AV.ptr 2 0,.pv (.int .i64 0)]= .ic [.ptr 2 0,.pv (.int .i64 0)]:=rfl
 have htp:Rb HT 6 (.ic [.ptr 2 0,.pv (.int .i64 0)])=some (.ic [.rp [S',V,NX,DG,RW,i64 (Hj ss)] 0,i64 0]):=by
  show (Pa (Rb HT 5) [AV.ptr 2 0,.pv (.int .i64 0)]).map PV.ic=_
  have hv:Rb HT 5 (.pv (.int .i64 0))=some (.int .i64 0):=rfl
  simp only[Pa,t1,hv,Option.bind_some,Option.map_some]
 simp -implicitDefEqProofs only[SX,sevalprocAttr,r8,YE,hm1,htp]
 subst hQ
 exact⟨_,rfl,⟨S',NX,DG,RW,by rw[hVe],hS',t2,t3,t4⟩⟩
theorem Pp {S:PV} {ss:List qc} {es:List PV} (hS:Za S ss es):∃ T n,Eb [.agg [S]]=some (.ic [T,i64 n])∧(n≠0→T= .Ye)∧
 (¬ Fc ss→n=84)∧(Fc ss→¬bh ss→n=110)∧(Fc ss→bh ss→¬Xm ss→n=111)∧(Fc ss→bh ss→Xm ss→oh ss=none→n=130)∧
 (∀ l,Fc ss→bh ss→Xm ss→oh ss=some l→n=0∧uv T ss l):=by
 have hb:=Ei hS
 by_cases h1:Fc ss
 ·by_cases h2:bh ss
  ·obtain⟨y,a,b,hi,hy⟩:=vL hS h1
   by_cases h3:Xm ss
   ·have:=hy.2 h3
    subst this
    cases h4:oh ss with
    |none=>
     have:=iC hS (n:=130) (V:= .fa) rfl (.inr rfl) (.inl rfl) (hb.2.2.1 h1 h2 h4) hi
     exact⟨.Ye,130,this,fun _=>rfl,fun h=>absurd h1 h,fun _ h=>absurd h2 h,fun _ _ h=>absurd h3 h,fun _ _ _ _=>rfl,fun l _ _ _ h=>(by cases h)⟩
    |some l=>
     obtain⟨T,t1,t2⟩:=WC hS h1 h2 h4 hi
     refine⟨T,0,t1,fun h=>absurd rfl h,fun h=>absurd h1 h,fun _ h=>absurd h2 h,fun _ _ h=>absurd h3 h,fun _ _ _ h=>(by cases h),fun l' _ _ _ h=> ?_⟩
     injection h with h
     exact⟨rfl,h ▸ t2⟩
   ·have hyf:y=false:=by cases y with | false=>rfl | true=>exact absurd (hy.1 rfl) h3
    subst hyf
    have key:∃ n V,(AV.pv V).one=true∧(n=0∨n=130)∧Ic [.agg [S]]=some (.ic [.agg [V],i64 n]):=by
     cases h4:oh ss with
     |none=>exact⟨130,.fa,rfl,.inr rfl,hb.2.2.1 h1 h2 h4⟩
     |some l=>exact⟨0,El l,rfl,.inl rfl,hb.2.2.2 h1 h2 l h4⟩
    obtain⟨n,V,k1,k2,k3⟩:=key
    have:=iC hS k1 k2 (.inr rfl) k3 hi
    exact⟨.Ye,111,this,fun _=>rfl,fun h=>absurd h1 h,fun _ h=>absurd h2 h,fun _ _ _=>rfl,fun _ _ h=>absurd h h3,fun l _ _ h=>absurd h h3⟩
  ·have:=eC hS (n:=110) (V:= .fa) rfl (by decide) (by decide) (hb.2.1 h1 h2)
   exact⟨.Ye,110,this,fun _=>rfl,fun h=>absurd h1 h,fun _ _=>rfl,fun _ h=>absurd h h2,fun _ h=>absurd h h2,fun l _ h=>absurd h h2⟩
 ·have:=eC hS (n:=84) (V:= .fa) rfl (by decide) (by decide) (hb.1 h1)
  exact⟨.Ye,84,this,fun _=>rfl,fun _=>rfl,fun h=>absurd h h1,fun h=>absurd h h1,fun h=>absurd h h1,fun l h=>absurd h h1⟩
theorem GO {S:PV} {ss:List qc} {es:List PV} (hS:Za S ss es):∃ T n,Eb [.agg [S]]=some (.ic [T,i64 n])∧
 ((n≠0∧T= .Ye)∨(n=0∧Fc ss∧bh ss∧Xm ss∧∃ l,oh ss=some l∧uv T ss l∧∀ e∈l,Rn e)):=by
 obtain⟨T,n,hc,hn,h1,h2,h3,h4,h5⟩:=Pp hS
 refine⟨T,n,hc,?_⟩
 by_cases h0:n=0
 ·refine .inr ⟨h0,?_⟩
  by_cases k1:Fc ss
  ·by_cases k2:bh ss
   ·by_cases k3:Xm ss
    ·cases k4:oh ss with
     |none=>have:=h4 k1 k2 k3 k4;omega
     |some l=>exact⟨k1,k2,k3,l,rfl,(h5 l k1 k2 k3 k4).2,JD k1 k2 k4⟩
    ·have:=h3 k1 k2 k3;omega
   ·have:=h2 k1 k2;omega
  ·have:=h1 k1;omega
 ·exact .inl ⟨h0,hn h0⟩
end Go.AM.B1
namespace Go.AM.B1
open Go.AM Go.AM.So
def aN (ls:List (List (Int×Int))) (i:Nat):List PV:=(List.range 258).map fun k=>ZJ ls (i * 258+k)
theorem UW (H:List ba) (d o:Nat) (row:List PV):place H d (.pv (.rp row o))=some (.pv (.rp row (o+d))):=rfl
theorem UP {ls:List (List (Int×Int))} {i:Nat} (hi:i < ls.length) (H:List ba):wa H 258 (.pv (.lit 258 ((List.range ls.length).map (HP ls)))) (i:Int)=some (.pv (.rp (aN ls i) 0)):=by
 simp only[wa]
 rw[if_pos ⟨trivial,by unfold Ga;simp;omega⟩,Int.toNat_natCast,List.getElem?_map,List.getElem?_range hi];rfl
theorem VK {ls:List (List (Int×Int))} {i k:Nat} (hk:k < 258) (H:List ba):ta H false 1 (.pv (.rp (aN ls i) k))=some (.pv (ZJ ls (i * 258+k))):=by
 have:(aN ls i)[k]? =some (ZJ ls (i * 258+k)):=by rw[aN,List.getElem?_map,List.getElem?_range hk];rfl
 simp only[ta,im,Bool.false_eq_true,if_false,this];rfl
theorem BX {ls:List (List (Int×Int))} {i:Nat} (H:List ba):ta H false 1 (.pv (.rp (aN ls i) 0))=some (.pv (Xo (ls.getD i []))):=by
 rw[VK (by omega),ZJ,if_pos (by omega),show (i * 258+0) / 258=i by omega]
theorem MX {ls:List (List (Int×Int))} {i:Nat} (H:List ba):ta H false 1 (.pv (.rp (aN ls i) 257))=some (.pv (i64 (La (ls.drop (i+1))))):=by
 rw[VK (by omega),ZJ,if_neg (by omega),if_pos (by omega),show (i * 258+257) / 258=i by omega]
theorem kV {ls:List (List (Int×Int))} {i:Nat} (hi:i < ls.length):ls.getD i []=ls[i]:=by rw[List.getD_eq_getElem?_getD,List.getElem?_eq_getElem hi];rfl
theorem fW {l:List (Int×Int)} (h:Bd l) {k x:Int} (h0:0≤k) (h1:k < oc 0 l) (hx:UL k l=some x):(Bk l)[k.toNat]? =some x:=by
 obtain⟨y,q1,_,_,_,q5⟩:=Ts h.2 h0 h1
 rw[hx] at q1;injection q1 with q1;subst q1
 have hr:=q5 0
 obtain⟨m,e1,e2⟩:=Bu (n:=0) h.2 (by rw[hr])
 rw[hr] at e2
 simp only at e2
 rw[show k.toNat=m by omega];exact e1
abbrev MN (C:PV) (n i k:Int) (es:List PV):Tr:=((((Tr.lf.set 19 (.pv (i64 i))).set 18 (.pv (i64 n))).set 5 (.uq 0 false 1 es)).set 1 (.pv (i64 k))).set 0 (.pv (.rp [C] 0))
theorem lE {s:qc} (Ba:Ie s) {k:Int} (h0:0≤k) (h1:k < La s.parts):ui [Zj s.parts,i64 k]=some (.lit 1 ((Of s.parts k).map (PV.int .u8))):=by
 have h8:=Ba.hi
 have hpr:=Ba.prod.2
 have hia:=fun {i:Nat} (hi:i < s.parts.length)=>UP (ls:=s.parts) hi
 have hcl:((List.range s.parts.length).map (HP s.parts)).length=s.parts.length:=by simp
 have hdg:Zj s.parts= .rp [.lit 258 ((List.range s.parts.length).map (HP s.parts))] 0:=rfl
 rw[hdg]
 generalize (List.range s.parts.length).map (HP s.parts)=C at *
 have hloop:Pd (fun r=>∃ E H,r=(.exit 0,⟨E,H⟩)∧E.get 5= .uq 0 false 1 ((Of s.parts k).map (PV.int .u8)))
  (pb (ma (qa (Ca (fun _=>none) 8) Kf) (na 1 [0,1,5,18,19])) pa ⟨MN (.lit 258 C) s.parts.length 0 k [],[.tok 1 0 false]⟩):=by
  refine ya (Mb (fun i t=>∃ j es,t=⟨MN (.lit 258 C) s.parts.length i j (es.map (PV.int .u8)),[.tok 1 i false]⟩∧0≤j∧j < La (s.parts.drop i)∧es.length=i∧Of s.parts k=es++Of (s.parts.drop i) j)
   s.parts.length (by unfold pa;omega) _ ⟨k,[],rfl,h0,h1,rfl,rfl⟩ ?_ ?_) (fun r h=>h.2)
  ·rintro i t hi ⟨j,es,rfl,hj0,hj1,hel,hs⟩
   have hpo:=Ba.parts s.parts[i] (List.getElem_mem hi)
   have hd:s.parts.drop i=s.parts[i]::s.parts.drop (i+1):=List.drop_eq_getElem_cons hi
   rw[hd,La] at hj1
   rw[hd,Of] at hs
   have hpos:=Vf (ls:=s.parts.drop (i+1)) fun x hx=>Ba.parts x (List.mem_of_mem_drop hx)
   have hle:=Xp Ba.parts (i+1)
   have hdv:=vH hj0 hpos hj1
   obtain⟨x,q3,q4,q5,_⟩:=Ts hpo.2 hdv.1 hdv.2.1
   rw[q3,Option.getD_some] at hs
   have hm:=fW hpo hdv.1 hdv.2.1 q3
   have hml:=getElem?_lt hm
   have hle2:=Xp Ba.parts i
   rw[hd,La] at hle2
   have t3:IntKind.i64.wrap (j.tdiv (La (s.parts.drop (i+1))))=j.tdiv (La (s.parts.drop (i+1))):=Aa (by
    have:=hdv.2.2.2.2
    have h5:j.tdiv (La (s.parts.drop (i+1))) * 1≤j.tdiv (La (s.parts.drop (i+1))) * La (s.parts.drop (i+1)):=Int.mul_le_mul_of_nonneg_left hpos hdv.1
    omega)
   have a1:=hia hi
   have a4:=MX (ls:=s.parts) (i:=i)
   have a5:=BX (ls:=s.parts) (i:=i)
   rw[kV hi] at a5
   generalize aN s.parts i=R at *
   generalize s.parts[i]=l at *
   have a6:∀ H,wa H 1 (.pv (Xo l)) (j.tdiv (La (s.parts.drop (i+1))))=some (.pv (.rp [.int .u8 x] 0)):=fun H=>by
    simp only[wa,Xo]
    rw[if_pos ⟨trivial,by unfold Ga;rw[List.length_map];omega⟩,List.getElem?_map,hm];rfl
   have e1:decide ((i:Int) < (s.parts.length:Int))=true:=Fa (by omega)
   have t2:=eb hi (by unfold maxLen;omega)
   have z0:(La (s.parts.drop (i+1))=0)=False:=by simp;omega
   have hap:=Yq (A:=[.tok 1 i false]) (id:=0) (n:=i) (h:= .uq) (nl:=false) (bytes:=1) (es:=es.map (PV.int .u8)) rfl (by simp[hel]) (by unfold ab;omega) (.int .u8 x)
   rw[List.set_cons_zero] at hap
   have hbm:(es++[x]).map (PV.int .u8)=es.map (PV.int .u8)++[.int .u8 x]:=by simp
   generalize hpq:La (s.parts.drop (i+1))=pr at *
   generalize hQ:LN _ _ i=QQ
   simp -implicitDefEqProofs only[SP,WP,ga,sevalprocAttr,Kf,e1,t2,t3,z0,a1,a4,a5,a6,UW,Sa,hap,na,za,AV.cut,oa,ua,MN]
   subst hQ
   exact⟨_,es++[x],by rw[hbm],hdv.2.2.1,by rw[hpq];exact hdv.2.2.2.1,by simp[hel],by rw[hs];simp⟩
  ·rintro t ⟨j,es,rfl,hj0,hj1,hel,hs⟩
   rw[List.drop_length,Of,List.append_nil] at hs
   have e1:decide ((s.parts.length:Int) < (s.parts.length:Int))=false:=Ha (by omega)
   generalize hQ:(fun r:Ex×St=>r.1.stop=true∧_)=Q
   simp -implicitDefEqProofs only[SX,sevalprocAttr,Kf,e1,MN]
   subst hQ
   exact⟨rfl,_,_,rfl,by rw[hs];simp[Tr.aa]⟩
 obtain⟨r,g1,E,H,rfl,g6⟩:=pc hloop
 have g1':pb (ma (qa (Ca (fun _=>none) 8) Kf) (na 1 [0,1,5,18,19])) pa ⟨((((Tr.lf.set 19 (.pv (.int .i64 0))).set 18 (.pv (i64 s.parts.length))).set 5 (.uq 0 false 1 [])).set 1 (.pv (i64 k))).set 0 (.pv (.rp [.lit 258 C] 0)),[.tok 1 0 false]⟩=some (.exit 0,⟨E,H⟩):=g1
 have e4:ab s.parts.length 1:=by unfold ab;omega
 have e2:(0≤(s.parts.length:Int))=True:=by simp
 have e5:((0:Int)≤0)=True:=by simp
 simp -implicitDefEqProofs only[ui,SX,sevalprocAttr,Yj,UW,Sa,hcl,eq_true e4,e2,e5,Fb,na,za,AV.cut,oa,ua,g1',g6,tj,fresh,Dd,chunk]
end Go.AM.B1
namespace Go.AM.B1
open Go.AM Go.AM.So
theorem VI (H:List ba) (a b c d e f:PV):ta H false 1 (.pv (.rp [a,b,c,d,e,f] 2))=some (.pv c)∧ta H false 1 (.pv (.rp [a,b,c,d,e,f] 3))=some (.pv d)∧ta H false 1 (.pv (.rp [a,b,c,d,e,f] 4))=some (.pv e)∧ta H false 1 (.pv (.rp [a,b,c,d,e,f] 5))=some (.pv f)∧ta H false 1 (.pv (.rp [a,b,c,d,e,f] 0))=some (.pv a)∧ta H false 1 (.pv (.rp [a,b,c,d,e,f] 1))=some (.pv b)∧ta H true 1 (.pv (.rp [a,b,c,d,e,f] 0))=some (.pv (.agg [a])):=⟨rfl,rfl,rfl,rfl,rfl,rfl,rfl⟩
section
variable {T:PV} {ss:List qc} {l:List (List Af)} (hT:uv T ss l) (ho:∀ e∈l,Rn e)
include hT ho
end
end Go.AM.B1
