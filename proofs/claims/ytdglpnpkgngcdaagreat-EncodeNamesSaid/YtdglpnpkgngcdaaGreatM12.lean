/- What functions of the program compute. -/
import Derived.Test.YtdglpnpkgngcdaaGreatM11
import Derived.Test.YtdglpnpkgngcdaaGreatM7
import Derived.Test.YtdglpnpkgngcdaaGreatM3
import Derived.Test.YtdglpnpkgngcdaaGreatM10
import Derived.Test.YtdglpnpkgngcdaaGreatM4
set_option linter.unusedVariables false
set_option linter.unusedSimpArgs false
namespace Go.AM.B1
open Go.AM Go.AM.So
theorem pairs_prs:∀ (l:List (Int×Int)),mapO pairV (prs l)=some l
 | []=>rfl
 |p::l=>by
  show (pairV (pr p)).bind _=_
  have:pairV (pr p)=some p:=rfl
  rw[this,Option.bind_some]
  show ((mapO pairV (prs l)).bind fun bs=>some (p::bs))=_
  rw[pairs_prs l];rfl
theorem pairsL_is {v:PV} {l:List (Int×Int)} (h:IsL 2 v (prs l)):pairsL v=some l:=by
 rcases h with⟨rfl,h⟩ | rfl
 ·cases l with
  |nil=>rfl
  |cons p l=>cases h
 ·exact pairs_prs l
theorem I_sets_All_run {v:PV} {l:List (Int×Int)} (h:IsL 2 v (prs l)) (hv:validR 255 (-2) l=true) (hlen:l.length≤4611686018427387904):
 I_sets_All [.rp [v] 0,.rp [i64 0] 0]=some ((memP l).map fun x=>[i64 x]):=by
 have hsm:l.all smallP=true:=by
  have:∀ (l:List (Int×Int)) (last:Int),validR 255 last l=true→l.all smallP=true:=by
   intro l
   induction l with
   |nil=>intro _ _;rfl
   |cons p l ih=>
    intro last h
    obtain⟨h1,h2,h3,h4,h5⟩:=validR_cons h
    rw[List.all_cons,ih _ h5,Bool.and_true]
    exact decide_eq_true (by omega)
  exact this l _ hv
 simp only[I_sets_All,pairsL_is h,Option.bind_some,hsm,Bool.true_and]
 rw[if_pos (decide_eq_true (by omega)),memP_eq]
theorem spans_all_run {v:PV} {l:List (Int×Int)} (hv:HeldPart v l) (hp:PartOk l):∃ u,IsL 2 u (prs l)∧∀ H,callL t_digits_Of 8 39 [.pv v,.pv (i64 0)] H=some (.clo 35 [.pv (.rp [u] 0),.pv (.rp [i64 0] 0)],H):=by
 obtain⟨u,q1,q2⟩:=spans_set_run v l hv.is hv.sz
 rw[setR_ok hp.2] at q2
 refine⟨u,q2,fun H=> ?_⟩
 have hu1:(AV.pv u).one=true:=by rcases q2 with⟨h,_⟩ | h <;> rw[h] <;> rfl
 have huc:(AV.pv u).cells=[.pv u]:=by rcases q2 with⟨h,_⟩ | h <;> rw[h] <;> rfl
 have c38:t_digits_Of 38=some b_sets_All:=rfl
 rw[callL_go t_digits_Of 7 39 _ H (f:=b_spans_All) rfl]
 simp (implicitDefEqProofs:=false) only[SP,SA,WP,sevalprocAttr,-List.reduceReplicate,b_spans_All,b_sets_All,q1,c38,hu1,huc]
end Go.AM.B1
namespace Go.AM.B1
open Go.AM Go.AM.So
def BSt (v:AV) (H:List AObj) (es:List PV):Prop:=(es=[]∧v= .pv .nils)∨(∃ tk,es≠[]∧v= .uq tk false 1 es∧H[tk]? =some (.tok 1 es.length false))
theorem u8_wrap {x:Int} (h0:0≤x) (h1:x≤255):IntKind.u8.wrap x=x:=by
 unfold IntKind.wrap
 simp[IntKind.signed,IntKind.bits]
 omega
theorem u16_wrap {x:Int} (h0:0≤x) (h1:x≤65535):IntKind.u16.wrap x=x:=by
 unfold IntKind.wrap
 simp[IntKind.signed,IntKind.bits]
 omega
theorem of_round (call:CallF) {e:Tr} {H:List AObj} {bx oid m off fl:Nat} {g:Nat→AV} {x:Int} {es:List PV} (h6:e.get 6= .ptr bx 0) (h7:e.get 7= .pv (i64 x)) (hb:H[bx]? =some (.box [.eptr oid m off])) (ho:H[oid]? =some (.seq 258 true (cellsOf m g) fl false))
 (hoff:off+258≤m) (hx0:0≤x) (hx1:x≤255) (hB:BSt (g off) H es) (hlen:es.length≤255):
 ∃ s' fl' v,fl'≤m∧evalC call b_digits_Of_r0 ⟨e,H⟩=some (.norm,s')∧s'.H[bx]? =some (.box [.eptr oid m off])∧
  s'.H[oid]? =some (.seq 258 true (cellsOf m (updC (updC g off v) (off+1+x.toNat) (.pv (.int .u16 (es.length+1))))) fl' false)∧BSt v s'.H (es++[.int .u8 x])∧∀ (j:Nat) c,H[j]? =some (.box c)→s'.H[j]? =some (.box c):=by
 have hbo:bx≠oid:=by intro e;subst e;rw[hb] at ho;cases ho
 have wx:=u8_wrap hx0 hx1
 have l6:loadA H false 1 (.ptr bx 0)=some (.eptr oid m off):=by simp[loadA,hb,partA]
 have lo:=seq_load (off:=off) ho rfl (by omega)
 have po:∀ d,place H d (.eptr oid m off)=some (.eptr oid m (off+d)):=fun d=>seq_place ho rfl
 have app:∃ v H1,appendA H false .uq 1 false 1 (g off) (.pv (.lit 1 [.int .u8 x]))=some (v,H1)∧BSt v H1 (es++[.int .u8 x])∧H1[bx]? =some (.box [.eptr oid m off])∧H1[oid]? =some (.seq 258 true (cellsOf m g) fl false)∧v.cells=[v]∧v.one=true∧(∀ K,lenA K 0 v=some (es.length+1))∧∀ (j:Nat) c,H[j]? =some (.box c)→H1[j]? =some (.box c):=by
  rcases hB with⟨rfl,hg⟩ | ⟨tk,hne,hg,htk⟩
  ·refine⟨.uq H.length false 1 [.int .u8 x],H++[.tok 1 1 false],by rw[hg];simp[appendA,elemsP,nilApp],.inr ⟨H.length,by simp,rfl,by simp⟩,?_,?_,rfl,rfl,fun _=>rfl,fun j c hj=>by rw[getElem?_push (getElem?_lt hj)];exact hj⟩
   ·rw[getElem?_push (getElem?_lt hb)];exact hb
   ·rw[getElem?_push (getElem?_lt ho)];exact ho
  ·have h1:tk≠bx:=by intro e;subst e;rw[hb] at htk;cases htk
   have h2:tk≠oid:=by intro e;subst e;rw[ho] at htk;cases htk
   refine⟨.uq tk false 1 (es++[.int .u8 x]),H.set tk (.tok 1 (es.length+1) false),?_,.inr ⟨tk,by simp,rfl,by rw[List.getElem?_set_self (getElem?_lt htk)];simp⟩,?_,?_,rfl,rfl,fun _=>by simp[lenA],fun j c hj=>by rw[List.getElem?_set_ne (fun e=>by subst e;rw[htk] at hj;cases hj)];exact hj⟩
   ·rw[hg];simp[appendA,elemsP,htk];omega
   ·rw[List.getElem?_set_ne h1];exact hb
   ·rw[List.getElem?_set_ne h2];exact ho
 obtain⟨v,H1,ha,hB1,hb1,ho1,hv1,hv2,hv3,hbox⟩:=app
 have po1:∀ d,place H1 d (.eptr oid m off)=some (.eptr oid m (off+d)):=fun d=>seq_place ho1 rfl
 have st1:=seq_store (off:=off) ho1 rfl (by omega) hv1 hv2
 generalize hH2:H1.set oid (.seq 258 true (cellsOf m (updC g off v)) m false)=H2 at st1
 have hb2:H2[bx]? =some (.box [.eptr oid m off]):=by rw[← hH2,List.getElem?_set_ne (Ne.symm hbo)];exact hb1
 have ho2:H2[oid]? =some (.seq 258 true (cellsOf m (updC g off v)) m false):=by rw[← hH2,List.getElem?_set_self (getElem?_lt ho1)]
 have l62:loadA H2 false 1 (.ptr bx 0)=some (.eptr oid m off):=by simp[loadA,hb2,partA]
 have lo2:=seq_load (off:=off) ho2 rfl (by omega)
 rw[updC_same] at lo2
 have po2:∀ d off',place H2 d (.eptr oid m off')=some (.eptr oid m (off'+d)):=fun d off'=>seq_place ho2 rfl
 have w2:IntKind.u16.wrap ((es.length+1:Nat):Int)=(es.length:Int)+1:=by rw[u16_wrap (by omega) (by omega)];omega
 have st2:=seq_store (off:=off+1+x.toNat) (v:= .pv (.int .u16 ((es.length:Int)+1))) ho2 rfl (by omega) rfl rfl
 have hidx:(0≤x∧x < ((256:Nat):Int))=True:=eq_true (by omega)
 generalize hH3:H2.set oid (.seq 258 true (cellsOf m (updC (updC g off v) (off+1+x.toNat) (.pv (.int .u16 ((es.length:Int)+1))))) m false)=H3 at st2
 have key:wpO (fun r=>r.1= .norm∧r.2.H=H3) (evalC call b_digits_Of_r0 ⟨e,H⟩):=by
  clear hB hB1 hb ho hb1 ho1 hb2 ho2 hH2 hH3
  have hsr:setRow [AV.pv (PV.int .u8 0)] 0 [AV.pv (PV.int .u8 x)]=[AV.pv (PV.int .u8 x)]:=rfl
  have hal:([AV.pv (PV.int .u8 x)].all AV.one=true)=True:=eq_true rfl
  have hfr:fresh H .lit 1 false 1 [AV.pv (PV.int .u8 x)]=some (.pv (.lit 1 [.int .u8 x]),H):=rfl
  generalize hQ:(fun r:Ex×St=>r.1=Ex.norm∧_)=Q
  simp (implicitDefEqProofs:=false) only[SP,SA,WP,sevalprocAttr,-List.reduceReplicate,b_digits_Of_r0,h6,h7,l6,lo,po,wx,ha,po1,st1,l62,lo2,po2,hv3,w2,hidx,st2,hsr,hal,hfr]
  subst hQ
  exact⟨rfl,rfl⟩
 obtain⟨⟨ex,s'⟩,h1,h2,h3⟩:=wpO_spec key
 simp only at h2 h3
 subst h2
 refine⟨s',m,v,Nat.le_refl _,h1,?_,?_,?_,fun j c hj=> ?_⟩
 ·rw[h3,←hH3,List.getElem?_set_ne (Ne.symm hbo)];exact hb2
 ·rw[h3,←hH3];exact List.getElem?_set_self (getElem?_lt ho2)
 ·rcases hB1 with h | ⟨tk,q1,q2,q3⟩
  ·exact .inl h
  ·have h4:tk≠oid:=by intro e;subst e;rw[ho1] at q3;cases q3
   refine .inr ⟨tk,q1,q2,?_⟩
   rw[h3,←hH3,List.getElem?_set_ne (Ne.symm h4),←hH2,List.getElem?_set_ne (Ne.symm h4)];exact q3
 ·have hj1:=hbox j c hj
  have hne:oid≠j:=fun e=>by subst e;rw[ho1] at hj1;cases hj1
  rw[h3,←hH3,List.getElem?_set_ne hne,←hH2,List.getElem?_set_ne hne];exact hj1
end Go.AM.B1
namespace Go.AM.B1
open Go.AM Go.AM.So
def u8v (x:Int):PV:= .int .u8 x
theorem of_inner (call:CallF) {e:Tr} {bx oid m off:Nat} (h6:e.get 6= .ptr bx 0) (hoff:off+258≤m):∀ (xs:List Int) {H:List AObj} {fl:Nat} {g:Nat→AV} {es:List PV},H[bx]? =some (.box [.eptr oid m off])→H[oid]? =some (.seq 258 true (cellsOf m g) fl false)→
 (∀ x∈xs,0≤x∧x≤255)→xs.Nodup→BSt (g off) H es→es.length+xs.length≤256→
 ∃ H' fl' g',(fl≤m→fl'≤m)∧rangeA (fun x H=>evalC call b_digits_Of_r0 ⟨asgT [(7,40)] (setPs [40] x e),H⟩) (xs.map fun x=>[i64 x]) H=some (.norm,H')∧H'[bx]? =some (.box [.eptr oid m off])∧H'[oid]? =some (.seq 258 true (cellsOf m g') fl' false)∧
  BSt (g' off) H' (es++xs.map u8v)∧(∀ j,j≠off→(∀ x∈xs,j≠off+1+x.toNat)→g' j=g j)∧(∀ (k:Nat) x,xs[k]? =some x→g' (off+1+x.toNat)= .pv (.int .u16 ((es.length+k:Nat)+1)))∧∀ (j:Nat) c,H[j]? =some (.box c)→H'[j]? =some (.box c):=by
 intro xs
 induction xs with
 |nil=>
  intro H fl g es hb ho _ _ hB _
  exact⟨H,fl,g,id,rfl,hb,ho,by simpa using hB,fun _ _ _=>rfl,fun k x h=>by simp at h,fun _ _ h=>h⟩
 |cons x xs ih=>
  intro H fl g es hb ho hx hnd hB hlen
  obtain⟨hx0,hx1⟩:=hx x (by simp)
  have hnd':=List.nodup_cons.1 hnd
  have e6:(asgT [(7,40)] (setPs [40] [i64 x] e)).get 6= .ptr bx 0:=by simp[asgT,setPs,Tr.get_set,h6]
  have e7:(asgT [(7,40)] (setPs [40] [i64 x] e)).get 7= .pv (i64 x):=by simp[asgT,setPs,Tr.get_set]
  obtain⟨s',fl',v,q0,q1,q2,q3,q4,q5⟩:=of_round call e6 e7 hb ho hoff hx0 hx1 hB (by simp at hlen;omega)
  have hne:off≠off+1+x.toNat:=by omega
  obtain⟨H',fl2,g',r0,r1,r2,r3,r4,r5,r6,r7⟩:=ih (es:=es++[u8v x]) q2 q3 (fun y hy=>hx y (by simp[hy])) hnd'.2 (by rw[updC_ne _ _ hne,updC_same];exact q4) (by simp at hlen ⊢;omega)
  refine⟨H',fl2,g',fun _=>r0 q0,?_,r2,r3,by simpa using r4,fun j h1 h2=> ?_,fun k y hk=> ?_,fun j c hj=>r7 j c (q5 j c hj)⟩
  ·simp only[List.map_cons,rangeA,q1,stepR];exact r1
  ·rw[r5 j h1 fun y hy=>h2 y (by simp[hy]),updC_ne _ _ (h2 x (by simp)),updC_ne _ _ h1]
  ·cases k with
   |zero=>
    simp at hk;subst hk
    rw[r5 _ (by omega) (fun y hy e=>by
     have:=(hx y (by simp[hy])).1
     have:y=x:=by omega
     subst this;exact hnd'.1 hy),updC_same]
    simp
   |succ k=>
    have:=r6 k y (by simpa using hk)
    rw[this]
    congr 3
    simp;omega
end Go.AM.B1
namespace Go.AM.B1
open Go.AM Go.AM.So
theorem of_column {e:Tr} {H:List AObj} {s:Shp} {P:PV} {ps:List PV} {sb oid fl i:Nat} {prod:Int} {g:Nat→AV} (hp:HeldParts P s.parts ps) (hi:i < s.parts.length) (hok:PartOk s.parts[i])
 (h1:e.get 1= .pv (.rp [P,i64 s.first] 0)) (h3:e.get 3= .ptr sb 0) (h4:e.get 4= .pv (i64 prod)) (h5:e.get 5= .pv (i64 i)) (hs:H[sb]? =some (.box [.own oid s.parts.length])) (ho:H[oid]? =some (.seq 258 true (cellsOf (s.parts.length * 258) g) fl false))
 (hg:g (i * 258)= .pv .nils) (hw:IntKind.i64.wrap (prod * (memP s.parts[i]).length)=prod * (memP s.parts[i]).length) (hnd:(memP s.parts[i]).Nodup) (hml:(memP s.parts[i]).length≤256) (hmb:∀ x∈memP s.parts[i],0≤x∧x≤255) (hne:memP s.parts[i]≠[]) (hfl:fl≤s.parts.length * 258) (hi2:i≤4611686018427387904):
 wpO (fun r=>r.1= .norm∧r.2.env.get 1= .pv (.rp [P,i64 s.first] 0)∧r.2.env.get 3= .ptr sb 0∧r.2.env.get 4= .pv (i64 (prod * (memP s.parts[i]).length))∧r.2.env.get 5= .pv (i64 (i - 1))∧r.2.H[sb]? =some (.box [.own oid s.parts.length])∧
  ∃ fl' g',fl'≤s.parts.length * 258∧r.2.H[oid]? =some (.seq 258 true (cellsOf (s.parts.length * 258) g') fl' false)∧BSt (g' (i * 258)) r.2.H ((memP s.parts[i]).map u8v)∧(∀ j,j≠i * 258→(∀ x∈memP s.parts[i],j≠i * 258+1+x.toNat)→g' j=updC g (i * 258+257) (.pv (i64 prod)) j)∧∀ (k:Nat) x,(memP s.parts[i])[k]? =some x→g' (i * 258+1+x.toNat)= .pv (.int .u16 ((k:Nat)+1))) (evalC (callL t_digits_Of 8) b_digits_Of_l0 ⟨e,H⟩):=by
 obtain⟨v,hv1,hv2,hv3⟩:=hp.get hi
 obtain⟨u,hu,hall⟩:=spans_all_run hv3 hok
 have hso:sb≠oid:=by intro e;subst e;rw[hs] at ho;cases ho
 have hlt:=getElem?_lt hs
 have hlo:=getElem?_lt ho
 generalize hl:s.parts[i]=l at *
 clear hl hp
 generalize hn:s.parts.length=n at *
 have p3:place H 0 (.ptr sb 0)=some (.ptr sb 0):=by simp[place,hs]
 have l3:loadA H false 1 (.ptr sb 0)=some (.own oid n):=by simp[loadA,hs,partA]
 have ia:iaddrA' H 258 (.own oid n) (i:Int)=some (.eptr oid (n * 258) (i * 258)):=by
  simp only[iaddrA',ho,cellsOf_len]
  rw[if_pos ⟨trivial,by unfold idxOk;omega,by unfold winOk;omega⟩]
  simp
 have hH2:(H++[AObj.box [.pv .nilp]]).set H.length (.box [.eptr oid (n * 258) (i * 258)])=H++[AObj.box [.eptr oid (n * 258) (i * 258)]]:=by
  rw[List.set_append_right _ _ (Nat.le_refl _)];simp
 have st0:storeA (H++[AObj.box [.pv .nilp]]) 1 (.ptr H.length 0) (.eptr oid (n * 258) (i * 258))=some (H++[AObj.box [.eptr oid (n * 258) (i * 258)]]):=by
  rw[← hH2]
  simp[storeA,AV.cells,AV.one,setRow]
 have hb2:(H++[AObj.box [.eptr oid (n * 258) (i * 258)]])[H.length]? =some (.box [.eptr oid (n * 258) (i * 258)]):=by simp
 have ho2:(H++[AObj.box [.eptr oid (n * 258) (i * 258)]])[oid]? =some (.seq 258 true (cellsOf (n * 258) g) fl false):=by rw[getElem?_push hlo];exact ho
 have hs2:(H++[AObj.box [.eptr oid (n * 258) (i * 258)]])[sb]? =some (.box [.own oid n]):=by rw[getElem?_push hlt];exact hs
 generalize H++[AObj.box [.eptr oid (n * 258) (i * 258)]]=H2 at *
 have l6:loadA H2 false 1 (.ptr H.length 0)=some (.eptr oid (n * 258) (i * 258)):=by simp[loadA,hb2,partA]
 have p6:∀ d,place H2 d (.eptr oid (n * 258) (i * 258))=some (.eptr oid (n * 258) (i * 258+d)):=fun d=>seq_place ho2 rfl
 have st1:=seq_store (off:=i * 258+257) (v:= .pv (i64 prod)) ho2 rfl (by omega) rfl rfl
 have hbo:H.length≠oid:=by omega
 have hs3:(H2.set oid (.seq 258 true (cellsOf (n * 258) (updC g (i * 258+257) (.pv (i64 prod)))) (n * 258) false))[sb]? =some (.box [.own oid n]):=by rw[List.getElem?_set_ne (Ne.symm hso)];exact hs2
 have hb3:(H2.set oid (.seq 258 true (cellsOf (n * 258) (updC g (i * 258+257) (.pv (i64 prod)))) (n * 258) false))[H.length]? =some (.box [.eptr oid (n * 258) (i * 258)]):=by rw[List.getElem?_set_ne (Ne.symm hbo)];exact hb2
 have ho3:(H2.set oid (.seq 258 true (cellsOf (n * 258) (updC g (i * 258+257) (.pv (i64 prod)))) (n * 258) false))[oid]? =some (.seq 258 true (cellsOf (n * 258) (updC g (i * 258+257) (.pv (i64 prod)))) (n * 258) false):=List.getElem?_set_self (getElem?_lt ho2)
 generalize H2.set oid (.seq 258 true (cellsOf (n * 258) (updC g (i * 258+257) (.pv (i64 prod)))) (n * 258) false)=H3 at *
 have w5:decide ((i:Int)≥0)=true:=decide_eq_true (by omega)
 have r0:∀ H (x y:PV),loadA H false 1 (.pv (.rp [x,y] 0))=some (.pv x):=fun H x y=>rfl
 have q0:∀ H (x y:PV),place H 0 (.pv (.rp [x,y] 0))=some (.pv (.rp [x,y] 0)):=fun H x y=>rfl
 have il:∀ H,iaddrA' H 1 (.pv P) (i:Int)=some (.pv (.rp v.cells 0)):=by
  intro H
  subst hv2
  have hq:i < ps.length:=getElem?_lt hv1
  simp only[iaddrA']
  rw[if_pos ⟨trivial,by unfold idxOk;omega⟩,Int.toNat_natCast,hv1];rfl
 have hvc:v.cells=[v]:=by rcases hv3.is with⟨h,_⟩ | h <;> rw[h] <;> rfl
 rw[hvc] at il
 have r1:∀ H (x:PV),loadA H false 1 (.pv (.rp [x] 0))=some (.pv x):=fun H x=>rfl
 have hlp:=validR_len hok.2
 have rv:rangeV 35 I_sets_All 1 (.clo 35 [.pv (.rp [u] 0),.pv (.rp [i64 0] 0)])=some ((memP l).map fun x=>[i64 x]):=by
  have:((memP l).map fun x=>[i64 x]).all (okRow 1)=true:=by
   rw[List.all_eq_true];intro y hy
   obtain⟨x,_,rfl⟩:=List.mem_map.1 hy
   rfl
  simp[rangeV,allPV,I_sets_All_run hu hok.2 (by omega)]
  exact fun _ _=>rfl
 have c39:t_digits_Of 39=some b_spans_All:=rfl
 have hall':=fun H=>(callL_go t_digits_Of 7 39 [AV.pv v,AV.pv (i64 0)] H (f:=b_spans_All) rfl).symm.trans (hall H)
 generalize hQ:(fun r:Ex×St=>r.1=Ex.norm∧_)=Q
 simp (implicitDefEqProofs:=false) only[SP,SA,WP,sevalprocAttr,-List.reduceReplicate,b_digits_Of_l0,C_range,h1,h3,h4,h5,p3,l3,ia,st0,l6,p6,st1,w5,r0,q0,il,r1,c39,hall',rv,rangeB]
 have hin:=fun (E:Tr) (h6:E.get 6= .ptr H.length 0)=>of_inner (callL t_digits_Of 8) (e:=E) h6 (off:=i * 258) (m:=n * 258) (by omega) (memP l) (es:=[]) hb3 ho3 hmb hnd (.inl ⟨rfl,by rw[updC_ne _ _ (by omega)];exact hg⟩) (by simpa using hml)
 generalize hEE:(Tr.set _ 39 _:Tr)=E
 have e6:E.get 6= .ptr H.length 0:=by rw[← hEE];simp[Tr.get_set]
 have e1:E.get 1= .pv (.rp [P,i64 s.first] 0):=by rw[← hEE];simp[Tr.get_set,h1]
 have e3:E.get 3= .ptr sb 0:=by rw[← hEE];simp[Tr.get_set,h3]
 have e4:E.get 4= .pv (i64 prod):=by rw[← hEE];simp[Tr.get_set,h4]
 have e5:E.get 5= .pv (i64 i):=by rw[← hEE];simp[Tr.get_set,h5]
 clear hEE
 obtain⟨H4,fl4,g4,q0,q1,q2,q3,q4,q5,q6,q7⟩:=hin E e6
 rw[q1]
 have l64:loadA H4 false 1 (.ptr H.length 0)=some (.eptr oid (n * 258) (i * 258)):=by simp[loadA,q2,partA]
 have p66:∀ d,place H4 d (.eptr oid (n * 258) (i * 258))=some (.eptr oid (n * 258) (i * 258+d)):=fun d=>seq_place q3 rfl
 have l67:=seq_load (off:=i * 258) q3 rfl (by omega)
 have ln:∀ K,lenA K 0 (g4 (i * 258))=some (memP l).length:=by
  rcases q4 with⟨h,_⟩ | ⟨tk,_,h,_⟩
  ·simp at h;exact absurd h hne
  ·intro K;rw[h];simp[lenA]
 have w1:IntKind.i64.wrap ((i:Int) - 1)=(i:Int) - 1:=wrap_int (by omega)
 simp (implicitDefEqProofs:=false) only[SP,SA,WP,sevalprocAttr,-List.reduceReplicate,endR,e6,e1,e3,e4,e5,l64,p66,l67,ln,hw,w1]
 subst hQ
 refine⟨rfl,?_,?_,?_,?_,?_,fl4,g4,q0 (Nat.le_refl _),q3,by simpa using q4,q5,fun k x hk=>by simpa using q6 k x hk⟩ <;> first | exact q7 _ _ hs3 | simp[Tr.get_set,e1,e3]
end Go.AM.B1
namespace Go.AM.B1
open Go.AM Go.AM.So
end Go.AM.B1
namespace Go.AM.B1
open Go.AM Go.AM.So
def selR:Int→List (Int×Int)→Option Int
 |_,[]=>none
 |k,p::r=>if k≤p.2 - p.1 then some (p.1+k) else selR (k - (p.2 - p.1+1)) r
theorem selR_some {top:Int}:∀ {l:List (Int×Int)} {last k:Int},validR top last l=true→0≤k→k < sizeR 0 l→∃ x,selR k l=some x∧0≤x∧x≤top∧last+1 < x∧∀ n,rankR x n l=(n+k,true)
 | [],last,k,_,h0,h1=>by simp[sizeR] at h1;omega
 |p::l,last,k,hv,h0,h1=>by
  obtain⟨v1,v2,v3,v4,v5⟩:=validR_cons hv
  rw[sizeR,sizeR_acc] at h1
  rw[selR]
  by_cases c:k≤p.2 - p.1
  ·rw[if_pos c]
   refine⟨_,rfl,by omega,by omega,by omega,fun n=> ?_⟩
   rw[rankR,if_neg (by omega),if_pos (by omega)]
   congr 1;omega
  ·rw[if_neg c]
   obtain⟨x,q1,q2,q3,q4,q5⟩:=selR_some (k:=k - (p.2 - p.1+1)) v5 (by omega) (by omega)
   refine⟨x,q1,q2,q3,by omega,fun n=> ?_⟩
   rw[rankR,if_neg (by omega),if_neg (by omega),q5]
   congr 1;omega
theorem shape_count_run {e:PV} {s:Shp} {P:PV} {ps:List PV} (h:HeldShp e s P ps) (hok:ShpOk s):F_shape_Count [e]=some (i64 (prodS s.parts)):=by
 obtain⟨b1,hb1,hb1'⟩:=shape_valid_run h
 have:=hb1'.2 hok
 subst this
 have hst:=steps_run h hok
 have hP1:=h.Pone.1
 have heq:=h.eq
 subst heq
 have i0:∀ H,iaddrA' H 1 (.pv (.lit 1 ((stepsR s.parts).map i64))) 0=some (.pv (.rp [i64 (prodS s.parts)] 0)):=fun H=>by
  have:(stepsR s.parts).map i64=i64 (prodS s.parts)::((stepsR s.parts).map i64).tail:=by
   simp only[stepsR,List.range_succ_eq_map,List.map_cons,List.drop_zero,List.tail_cons]
  rw[this]
  simp only[iaddrA']
  rw[if_pos (by unfold idxOk;simp)];rfl
 simp (implicitDefEqProofs:=false) only[F_shape_Count,SP,SA,WP,sevalprocAttr,-List.reduceReplicate,b_shape_Count,hP1,rp2_loadA,hb1,hst,i0,rp1_load]
def unrankGo:List (List (Int×Int))→Int→List Int
 | [],_=>[]
 |l::r,k=>(selR (k.tdiv (prodS r)) l).getD 0::unrankGo r (k.tmod (prodS r))
theorem div_lt {k p q:Int} (h0:0≤k) (hp:1≤p) (h1:k < p * q):0≤k.tdiv p∧k.tdiv p < q∧0≤k.tmod p∧k.tmod p < p∧k.tdiv p * p+k.tmod p=k:=by
 rw[Int.tdiv_eq_ediv_of_nonneg h0,Int.tmod_eq_emod_of_nonneg h0]
 refine⟨Int.ediv_nonneg h0 (by omega),Int.ediv_lt_of_lt_mul (by omega) (by rw[Int.mul_comm];exact h1),Int.emod_nonneg _ (by omega),Int.emod_lt_of_pos _ (by omega),?_⟩
 rw[Int.mul_comm];exact Int.mul_ediv_add_emod k p
theorem unrank_rank:∀ (ls:List (List (Int×Int))) (k n:Int),(∀ l∈ls,PartOk l)→0≤k→k < prodS ls→rankGo ls (unrankGo ls k) n=some (n+k)∧(unrankGo ls k).length=ls.length∧∀ x∈unrankGo ls k,0≤x∧x≤255
 | [],k,n,_,h0,h1=>by
   have:k=0:=by rw[prodS] at h1;omega
   subst this
   exact⟨by rw[rankGo_nil,Int.add_zero],rfl,by simp[unrankGo]⟩
 |l::r,k,n,hp,h0,h1=>by
  have hpr:=prodS_pos (ls:=r) fun x hx=>hp x (by simp[hx])
  rw[prodS] at h1
  obtain⟨d1,d2,d3,d4,d5⟩:=div_lt h0 hpr h1
  obtain⟨x,q1,q2,q3,_,q5⟩:=selR_some (hp l (by simp)).2 d1 d2
  obtain⟨i1,i2,i3⟩:=unrank_rank r (k.tmod (prodS r)) (n+k.tdiv (prodS r) * prodS r) (fun x hx=>hp x (by simp[hx])) d3 d4
  rw[unrankGo,q1,Option.getD_some,rankGo,q5,if_pos rfl]
  simp only[Int.zero_add]
  rw[i1]
  refine⟨by congr 1;omega,by simp[i2],?_⟩
  intro y hy
  rcases List.mem_cons.1 hy with rfl | hy
  ·exact⟨q2,q3⟩
  ·exact i3 y hy
end Go.AM.B1
namespace Go.AM.B1
open Go.AM Go.AM.So
def whichP (l:List (Int×Int)) (x:Nat):PV:= .int .u16 (if (rankR (x:Int) 0 l).2 then (rankR (x:Int) 0 l).1+1 else 0)
def bytesP (l:List (Int×Int)):PV:= .lit 1 ((memP l).map u8v)
def colC (ls:List (List (Int×Int))) (c:Nat):PV:=
 if c % 258=0 then bytesP (ls.getD (c / 258) []) else if c % 258=257 then i64 (prodS (ls.drop (c / 258+1))) else whichP (ls.getD (c / 258) []) (c % 258 - 1)
def colP (ls:List (List (Int×Int))) (i:Nat):PV:= .agg ((List.range 258).map fun k=>colC ls (i * 258+k))
def digP (ls:List (List (Int×Int))):PV:= .rp [.lit 258 ((List.range ls.length).map (colP ls))] 0
def ColDone (ls:List (List (Int×Int))) (g:Nat→AV) (i:Nat):Prop:=
 (∃ tk,g (i * 258)= .uq tk false 1 ((memP (ls.getD i [])).map u8v))∧(∀ y:Nat,y < 256→g (i * 258+1+y)= .pv (whichP (ls.getD i []) y))∧g (i * 258+257)= .pv (i64 (prodS (ls.drop (i+1))))
def ColZero (g:Nat→AV) (i:Nat):Prop:=g (i * 258)= .pv .nils∧∀ y:Nat,y < 256→g (i * 258+1+y)= .pv (.int .u16 0)
theorem memP_ne {l:List (Int×Int)} (h:PartOk l):memP l≠[]:=by
 intro e
 have h1:=memP_len 0 h.2
 rw[e] at h1
 have:=(partOk_size h).1
 simp at h1;omega
theorem memP_256 {l:List (Int×Int)} (h:PartOk l):(memP l).length≤256:=by
 have h1:=memP_len 0 h.2
 have:=(partOk_size h).2
 omega
theorem memP_rng {l:List (Int×Int)} (h:PartOk l):∀ x∈memP l,0≤x∧x≤255:=by
 intro x hx
 obtain⟨k,hk,rfl⟩:=List.getElem_of_mem hx
 have:=memP_rank (n:=0) h.2 (List.getElem?_eq_getElem hk)
 exact⟨this.2.1,this.2.2.1⟩
theorem memP_nodup {l:List (Int×Int)} (h:PartOk l):(memP l).Nodup:=by
 unfold List.Nodup
 rw[List.pairwise_iff_getElem]
 intro i j hi hj hij e
 have h1:=(memP_rank (n:=0) h.2 (List.getElem?_eq_getElem hi)).1
 have h2:=(memP_rank (n:=0) h.2 (List.getElem?_eq_getElem hj)).1
 rw[e,h2] at h1
 injection h1 with h1 _
 omega
theorem whichP_mem {l:List (Int×Int)} (h:PartOk l) {k:Nat} {x:Int} (hk:(memP l)[k]? =some x):whichP l x.toNat= .int .u16 ((k:Nat)+1):=by
 obtain⟨h1,h2,_⟩:=memP_rank (n:=0) h.2 hk
 unfold whichP
 rw[Int.toNat_of_nonneg h2,h1]
 simp
theorem whichP_not {l:List (Int×Int)} (h:PartOk l) {y:Nat} (hy:(y:Int) ∉ memP l):whichP l y= .int .u16 0:=by
 unfold whichP
 rw[if_neg]
 intro hr
 obtain⟨k,h1,_⟩:=memP_of_rank h.2 hr
 exact hy (List.mem_of_getElem? h1)
theorem rep_len (z:List PV) (n:Nat):(repZ z n).length=n * z.length:=by
 induction n with
 |zero=>simp[repZ]
 |succ n ih=>rw[repZ,List.length_append,List.length_map,ih,Nat.add_mul];omega
theorem rep_get {z:List PV}:∀ {n i k:Nat} {v:PV},i < n→z[k]? =some v→(repZ z n)[i * z.length+k]? =some (.pv v)
 |n+1,0,k,v,_,hk=>by
  have:k < z.length:=getElem?_lt hk
  rw[repZ,Nat.zero_mul,Nat.zero_add,List.getElem?_append_left (by simpa using this),List.getElem?_map,hk];rfl
 |n+1,i+1,k,v,hi,hk=>by
  rw[repZ,List.getElem?_append_right (by rw[List.length_map,Nat.add_mul];omega),List.length_map,Nat.add_mul,show i * z.length+1 * z.length+k - z.length=i * z.length+k by omega]
  exact rep_get (by omega) hk
theorem cellsOf_self (c:List AV):c=cellsOf c.length (fun j=>c.getD j .undef):=by
 apply List.ext_getElem?
 intro j
 by_cases hj:j < c.length
 ·rw[cellsOf_get _ hj,List.getD_eq_getElem?_getD,List.getElem?_eq_getElem hj];rfl
 ·rw[List.getElem?_eq_none (by omega),List.getElem?_eq_none (by rw[cellsOf_len];omega)]
theorem mapO_cells {H:List AObj} {d:Nat} {f:Nat→PV}:∀ {n:Nat} {g:Nat→AV},(∀ c,c < n→toPV H d (g c)=some (f c))→mapO (toPV H d) (cellsOf n g)=some ((List.range n).map f):=by
 have key:∀ (l:List Nat) (g:Nat→AV),(∀ c∈l,toPV H d (g c)=some (f c))→mapO (toPV H d) (l.map g)=some (l.map f):=by
  intro l g
  induction l with
  |nil=>intro _;rfl
  |cons a l ih=>intro h;rw[List.map_cons,mapO,h a (by simp),Option.bind_some,ih fun c hc=>h c (by simp[hc])];rfl
 intro n g h
 exact key (List.range n) g fun c hc=>h c (List.mem_range.1 hc)
theorem range'_map {f:Nat→PV} (a n:Nat):(List.range' a n).map f=(List.range n).map fun k=>f (a+k):=by
 rw[List.range'_eq_map_range,List.map_map];rfl
theorem chunk_range {f:Nat→PV} (sz:Nat):∀ (n a:Nat),chunk sz true n ((List.range' a (n * sz)).map f)=(List.range n).map fun i=> .agg ((List.range sz).map fun k=>f (a+(i * sz+k)))
 |0,a=>by simp[chunk]
 |n+1,a=>by
  have e:List.range' a ((n+1) * sz)=List.range' a sz++List.range' (a+sz) (n * sz):=by
   rw[Nat.add_mul,Nat.one_mul,Nat.add_comm,List.range'_append_1]
  have hl:((List.range' a sz).map f).length=sz:=by simp
  rw[e,List.map_append,chunk,if_pos rfl,List.take_left' hl,List.drop_left' hl,chunk_range sz n,List.range_succ_eq_map,List.map_cons,List.map_map,range'_map]
  congr 1
  ·congr 1;apply List.map_congr_left;intro k _;congr 1;omega
  ·apply List.map_congr_left;intro i _
   simp only[Function.comp]
   congr 1;apply List.map_congr_left;intro k _;congr 1
   rw[Nat.succ_mul];omega
end Go.AM.B1
namespace Go.AM.B1
open Go.AM Go.AM.So
theorem keep_get {e:Tr} {t:Nat}:∀ {l:List Nat},t∈l→(keepEnv e l).get t=e.get t
 |a::l,h=>by
  rw[keepEnv,Tr.get_set]
  by_cases ht:t=a
  ·rw[if_pos ht,ht]
  ·rw[if_neg ht]
   rcases List.mem_cons.1 h with h | h
   ·exact absurd h ht
   ·exact keep_get h
theorem of_loop {E0:Tr} {H0:List AObj} {s:Shp} {P:PV} {ps:List PV} {sb oid:Nat} {g0:Nat→AV} (hp:HeldParts P s.parts ps) (hok:ShpOk s)
 (h1:E0.get 1= .pv (.rp [P,i64 s.first] 0)) (h3:E0.get 3= .ptr sb 0) (h4:E0.get 4= .pv (i64 1)) (h5:E0.get 5= .pv (i64 ((s.parts.length:Int) - 1))) (hs:H0[sb]? =some (.box [.own oid s.parts.length]))
 (ho:H0[oid]? =some (.seq 258 true (cellsOf (s.parts.length * 258) g0) 0 false)) (hz:∀ j,j < s.parts.length→ColZero g0 j):
 wpO (fun r=>∃ E H,r=(.exit 0,⟨E,H⟩)∧E.get 3= .ptr sb 0∧H[sb]? =some (.box [.own oid s.parts.length])∧∃ fl g,H[oid]? =some (.seq 258 true (cellsOf (s.parts.length * 258) g) fl false)∧∀ j,j < s.parts.length→ColDone s.parts g j)
  (evalC (callL t_digits_Of 8) (.loopG [1,2,3,4,5] b_digits_Of_l0) ⟨E0,H0⟩):=by
 rw[C_loopG]
 have h8:=hok.hi
 have hpr:=hok.prod.2
 refine wpO_mono (loopN_wp (fun r t=>t.env.get 1= .pv (.rp [P,i64 s.first] 0)∧t.env.get 3= .ptr sb 0∧t.env.get 4= .pv (i64 (prodS (s.parts.drop (s.parts.length - r))))∧t.env.get 5= .pv (i64 ((s.parts.length:Int) - 1 - r))∧t.H[sb]? =some (.box [.own oid s.parts.length])∧
  ∃ fl g,fl≤s.parts.length * 258∧t.H[oid]? =some (.seq 258 true (cellsOf (s.parts.length * 258) g) fl false)∧(∀ j,s.parts.length - r≤j→j < s.parts.length→ColDone s.parts g j)∧∀ j,j < s.parts.length - r→ColZero g j)
  s.parts.length (by unfold rounds;omega) _ ?_ ?_ ?_) (fun r h=>h.2)
 ·refine⟨?_,?_,?_,?_,hs,0,g0,by omega,ho,fun j a b=>by omega,fun j hj=>hz j (by omega)⟩
  ·simp only[tidy];rw[keep_get (by simp),h1]
  ·simp only[tidy];rw[keep_get (by simp),h3]
  ·simp only[tidy];rw[keep_get (by simp),h4,Nat.sub_zero,List.drop_length];rfl
  ·simp only[tidy];rw[keep_get (by simp),h5];simp
 ·rintro r ⟨E,H⟩ hr ⟨g1,g3,g4,g5,gs,fl,g,hfl,go,hd,hz⟩
  obtain⟨i,hi⟩:∃ i,i=s.parts.length - 1 - r:=⟨_,rfl⟩
  have hil:i < s.parts.length:=by omega
  have hpo:=hok.parts s.parts[i] (List.getElem_mem hil)
  have hdr:s.parts.drop i=s.parts[i]::s.parts.drop (i+1):=List.drop_eq_getElem_cons hil
  have hpd:prodS (s.parts.drop i)=prodS (s.parts.drop (i+1)) * sizeR 0 s.parts[i]:=by rw[hdr,prodS]
  have hle:=prodS_drop hok.parts i
  have hpos:=prodS_pos (ls:=s.parts.drop i) fun x hx=>hok.parts x (List.mem_of_mem_drop hx)
  have hsz:=memP_len 0 hpo.2
  rw[Int.zero_add] at hsz
  rw[show s.parts.length - r=i+1 by omega] at g4 hd hz
  have hcol:=of_column (e:=E) (H:=H) hp hil hpo g1 g3 g4 (by rw[g5];congr 2;omega) gs go (hz i (by omega)).1 (by rw[← hsz,←hpd];exact wrap_int (by omega)) (memP_nodup hpo) (memP_256 hpo) (memP_rng hpo) (memP_ne hpo) hfl (by omega)
  rw[roundA,wp_seqA]
  refine wpO_mono hcol ?_
  rintro⟨ex,E',H'⟩ ⟨rfl,q1,q3,q4,q5,qs,fl',g',qfl,qo,qB,qg,qw⟩
  have hgd:s.parts.getD i []=s.parts[i]:=by rw[List.getD_eq_getElem?_getD,List.getElem?_eq_getElem hil];rfl
  have hother:∀ j k,j≠i→k < 258→g' (j * 258+k)=g (j * 258+k):=by
   intro j k hj hk
   rw[qg _ (by omega) (fun x hx=>by have:=memP_rng hpo x hx;omega),updC_ne _ _ (by omega)]
  refine⟨?_,?_,?_,?_,qs,fl',g',qfl,qo,?_,?_⟩
  ·simp only[tidy];rw[keep_get (by simp)];exact q1
  ·simp only[tidy];rw[keep_get (by simp)];exact q3
  ·simp only[tidy];rw[keep_get (by simp),q4,show s.parts.length - (r+1)=i by omega,hpd,hsz]
  ·simp only[tidy];rw[keep_get (by simp),q5];congr 2;omega
  ·intro j hj1 hj2
   by_cases hji:j=i
   ·subst hji
    refine⟨?_,fun y hy=> ?_,?_⟩
    ·rcases qB with⟨h,_⟩ | ⟨tk,_,h,_⟩
     ·simp at h;exact absurd h (memP_ne hpo)
     ·exact⟨tk,by rw[hgd];exact h⟩
    ·rw[hgd]
     by_cases hm:(y:Int)∈memP s.parts[j]
     ·obtain⟨k,hk⟩:=List.mem_iff_getElem?.1 hm
      have:=qw k y hk
      rw[Int.toNat_natCast] at this
      rw[this,←whichP_mem hpo hk,Int.toNat_natCast]
     ·rw[whichP_not hpo hm,qg _ (by omega) (fun x hx=>by
       intro e
       have:=memP_rng hpo x hx
       have:x=(y:Int):=by omega
       exact hm (this ▸ hx)),updC_ne _ _ (by omega)]
      exact (hz j (by omega)).2 y hy
    ·rw[qg _ (by omega) (fun x hx=>by have:=memP_rng hpo x hx;omega),updC_same]
   ·obtain⟨⟨tk,a1⟩,a2,a3⟩:=hd j (by omega) hj2
    refine⟨⟨tk,?_⟩,fun y hy=> ?_,?_⟩
    ·have:=hother j 0 hji (by omega);rw[Nat.add_zero] at this;rw[this];exact a1
    ·have:=hother j (1+y) hji (by omega);rw[← Nat.add_assoc] at this;rw[this];exact a2 y hy
    ·rw[hother j 257 hji (by omega)];exact a3
  ·intro j hj
   have hji:j≠i:=by omega
   obtain⟨a1,a2⟩:=hz j (by omega)
   refine⟨?_,fun y hy=> ?_⟩
   ·have:=hother j 0 hji (by omega);rw[Nat.add_zero] at this;rw[this];exact a1
   ·have:=hother j (1+y) hji (by omega);rw[← Nat.add_assoc] at this;rw[this];exact a2 y hy
 ·rintro⟨E,H⟩ ⟨g1,g3,g4,g5,gs,fl,g,hfl,go,hd,hz⟩
  have e1:decide ((s.parts.length:Int) - 1 - s.parts.length≥0)=false:=dec_f (by omega)
  generalize hQ:(fun r:Ex×St=>r.1.stop=true∧_)=Q
  simp (implicitDefEqProofs:=false) only[SP,SA,WP,sevalprocAttr,-List.reduceReplicate,b_digits_Of_l0,g5,e1]
  subst hQ
  exact⟨rfl,_,_,rfl,by simp[Tr.get_set,g3],gs,fl,g,go,fun j hj=>hd j (by omega) hj⟩
theorem digits_of_run {e:PV} {s:Shp} {P:PV} {ps:List PV} (h:HeldShp e s P ps) (hok:ShpOk s):F_digits_Of [e]=some (digP s.parts):=by
 obtain⟨hP1,hP2⟩:=h.Pone
 have heq:=h.eq
 subst heq
 have hP:=h.parts
 have lP:=hP.lenA
 have h8:=hok.hi
 generalize hzr:([PV.nils]++List.replicate 256 (PV.int .u16 0)++[PV.int .i64 0])=zr
 have hzl:zr.length=258:=by rw[← hzr];simp[-List.reduceReplicate]
 have hzg:∀ i k v,i < s.parts.length→zr[k]? =some v→(repZ zr s.parts.length).getD (i * 258+k) .undef= .pv v:=by
  intro i k v hi hk
  rw[List.getD_eq_getElem?_getD,←hzl,rep_get hi hk];rfl
 have hcz:∀ j,j < s.parts.length→ColZero (fun c=>(repZ zr s.parts.length).getD c .undef) j:=by
  intro j hj
  refine⟨by have:=hzg j 0 .nils hj (by rw[← hzr];rfl);rw[Nat.add_zero] at this;exact this,fun y hy=> ?_⟩
  show (repZ zr s.parts.length).getD (j * 258+1+y) .undef=_
  rw[Nat.add_assoc]
  refine hzg j (1+y) _ hj ?_
  rw[← hzr,List.getElem?_append_left (by simp[-List.reduceReplicate];omega),List.getElem?_append_right (by simp[-List.reduceReplicate]),List.getElem?_replicate]
  rw[if_pos (by simp[-List.reduceReplicate];omega)]
 have hcell:repZ zr s.parts.length=cellsOf (s.parts.length * 258) (fun c=>(repZ zr s.parts.length).getD c .undef):=by
  have:=cellsOf_self (repZ zr s.parts.length)
  rw[rep_len,hzl] at this
  exact this
 generalize (fun c=>(repZ zr s.parts.length).getD c AV.undef)=g0 at *
 have r0:∀ H (x y:PV),loadA H false 1 (.pv (.rp [x,y] 0))=some (.pv x):=fun H x y=>rfl
 have q0:∀ H (x y:PV),place H 0 (.pv (.rp [x,y] 0))=some (.pv (.rp [x,y] 0)):=fun H x y=>rfl
 have e2:(0≤(s.parts.length:Int))=True:=by simp
 have e3:((s.parts.length:Int)≤(s.parts.length:Int))=True:=by simp
 have e4:roomOk s.parts.length 544:=by unfold roomOk;omega
 have t1:IntKind.i64.wrap ((s.parts.length:Int) - 1)=(s.parts.length:Int) - 1:=wrap_int (by omega)
 have m1:fillA ([PV.nils].map .pv) [(0,1,AV.own 0 s.parts.length)]=some [AV.own 0 s.parts.length]:=rfl
 have m2:mkAgg [AV.own 0 s.parts.length]= .agg [AV.own 0 s.parts.length]:=rfl
 have m3:(([AV.own 0 s.parts.length]:List AV).length=1∧([AV.own 0 s.parts.length]:List AV).all AV.one=true)=True:=by simp[AV.one]
 have hlp:=fun (E:Tr) (a1:E.get 1= .pv (.rp [P,i64 s.first] 0)) (a3:E.get 3= .ptr 1 0) (a4:E.get 4= .pv (i64 1)) (a5:E.get 5= .pv (i64 ((s.parts.length:Int) - 1)))=>
  of_loop (E0:=E) (H0:=[.seq 258 true (cellsOf (s.parts.length * 258) g0) 0 false,.box [.own 0 s.parts.length]]) hP hok a1 a3 a4 a5 (sb:=1) (oid:=0) rfl rfl hcz
 have p1:∀ A B,place [A,.box B] 0 (.ptr 1 0)=some (.ptr 1 0):=fun A B=>rfl
 have l1:∀ A b,loadA [A,.box [b]] false 1 (.ptr 1 0)=some b:=fun A b=>rfl
 have hw:winOk 258 s.parts.length 0 (cellsOf (s.parts.length * 258) g0).length:=⟨Nat.zero_le _,by rw[cellsOf_len];exact Nat.le_refl _⟩
 have ln:lenA [.seq 258 true (cellsOf (s.parts.length * 258) g0) 0 false,.box [.own 0 s.parts.length]] 0 (.own 0 s.parts.length)=some s.parts.length:=by
  simp only[lenA,List.getElem?_cons_zero,if_pos hw]
 have hfin:∀ (H:List AObj) (fl:Nat) (g:Nat→AV),H[1]? =some (.box [.own 0 s.parts.length])→H[0]? =some (.seq 258 true (cellsOf (s.parts.length * 258) g) fl false)→(∀ j,j < s.parts.length→ColDone s.parts g j)→toPV H 6 (.ptr 1 0)=some (digP s.parts):=by
  intro H fl g h1 h0 hd
  have hm:mapO (toPV H 4) (cellsOf (s.parts.length * 258) g)=some ((List.range (s.parts.length * 258)).map (colC s.parts)):=by
   refine mapO_cells fun c hc=> ?_
   obtain⟨⟨tk,a1⟩,a2,a3⟩:=hd (c / 258) (by omega)
   unfold colC
   by_cases k0:c % 258=0
   ·rw[if_pos k0,show c=c / 258 * 258 by omega,a1,show c / 258 * 258 / 258=c / 258 by omega];rfl
   ·rw[if_neg k0]
    by_cases k1:c % 258=257
    ·rw[if_pos k1]
     have e:g c=g (c / 258 * 258+257):=by congr 1;omega
     rw[e,a3];rfl
    ·rw[if_neg k1]
     have e:g c=g (c / 258 * 258+1+(c % 258 - 1)):=by congr 1;omega
     rw[e,a2 _ (by omega)];rfl
  have hc2:s.parts.length * 258=(cellsOf (s.parts.length * 258) g).length∧(true||(258:Nat)==1)=true:=⟨(cellsOf_len _ _).symm,rfl⟩
  have h5:toPV H 5 (.own 0 s.parts.length)=some (.lit 258 ((List.range s.parts.length).map (colP s.parts))):=by
   simp only[toPV,h0,if_pos hc2,Bool.false_eq_true,if_false,hm,Option.map_some,List.range_eq_range' (n:=s.parts.length * 258),chunk_range,Nat.zero_add]
   rfl
  show (match H[1]? with | some (.box cells)=>(mapO (toPV H 5) cells).map fun ps=>PV.rp ps 0 | _=>none)=_
  rw[h1]
  simp only[mapO,h5,Option.bind_some,Option.map_some]
  rfl
 have hzr':PV.nils::(List.replicate 256 (PV.int .u16 0)++[PV.int .i64 0])=zr:=hzr
 have m4:setRow [AV.pv PV.nils] 0 [AV.own 0 s.parts.length]=[AV.own 0 s.parts.length]:=rfl
 have m5:allPV [AV.own 0 s.parts.length]=none:=rfl
 have m6:[AV.own 0 s.parts.length].all AV.one=true:=rfl
 simp (implicitDefEqProofs:=false) only[F_digits_Of,SP,SA,WP,sevalprocAttr,-List.reduceReplicate,b_digits_Of,hP1,r0,q0,lP,e2,e3,eq_true e4,hzr',hcell,m4,m5,m6,p1,l1,ln,t1]
 generalize hEE:(Tr.set _ 5 _:Tr)=E
 have a1:E.get 1= .pv (.rp [P,i64 s.first] 0):=by rw[← hEE];simp[Tr.get_set]
 have a3:E.get 3= .ptr 1 0:=by rw[← hEE];simp[Tr.get_set]
 have a4:E.get 4= .pv (i64 1):=by rw[← hEE];simp[Tr.get_set]
 have a5:E.get 5= .pv (i64 ((s.parts.length:Int) - 1)):=by rw[← hEE];simp[Tr.get_set]
 obtain⟨r,h1,E',H',rfl,q3,q1,fl,g,q4,q5⟩:=wpO_spec (hlp E a1 a3 a4 a5)
 rw[h1]
 have h9:=hfin H' fl g q1 q4 q5
 simp (implicitDefEqProofs:=false) only[SP,SA,WP,sevalprocAttr,-List.reduceReplicate,q3,h9]
end Go.AM.B1
namespace Go.AM.B1
open Go.AM Go.AM.So
section
variable {call:CallF} {o0 o1 o4 o5:AObj} {c0 c1 c3 c4 c5:AV}
 (hg:∀ nl es,HGood (hpT o0 o1 o4 o5 c0 c1 c3 c4 c5 nl es))
include hg
theorem nx_loop {E:Tr} {V:PV} {l:List (List Edg)} (hV:IsL 1 V (l.map encEs)) (hl:l.length≤64) (hle:∀ e∈l,e.length≤256) (hok:∀ e∈l,EdgesOk e)
 (h8:E.get 8= .ptr 2 0) (h101:E.get 101= .pv V) (h102:E.get 102= .pv (i64 l.length)) (h103:E.get 103= .pv (i64 0)):
 wpO (fun r=>r.1.stop=true∧∃ E' nl,r=(.exit 2,⟨E',hpT o0 o1 o4 o5 c0 c1 c3 c4 c5 nl (l.map nextP)⟩)∧E'.get 8= .ptr 2 0∧(nl=true→l=[]))
  (evalC call (.loop [8,101,102,103] b_table_Compile_l1) ⟨E,hpT o0 o1 o4 o5 c0 c1 c3 c4 c5 true []⟩):=by
 have hgl:∀ nl es,(hpT o0 o1 o4 o5 c0 c1 c3 c4 c5 nl es).length=6:=fun _ _=>rfl
 have hgd:∀ nl es,∀ o∈hpT o0 o1 o4 o5 c0 c1 c3 c4 c5 nl es,cutObj 6 o=some o:=fun nl es o ho=>hg nl es 6 (by rw[hgl];exact Nat.le_refl _) o ho
 have hcut:Fit 6 [8,101,102] E:= .cons h8 (cut_ptr (by omega)) (.cons h101 cut_pv (.cons h102 cut_pv (.nil _ _)))
 refine loop_of (fun i t=>Keep [8,101,102] E t.env∧t.env.get 103= .pv (i64 i)∧∃ nl,t.H=hpT o0 o1 o4 o5 c0 c1 c3 c4 c5 nl ((l.take i).map nextP)∧(nl=true→i=0)) l.length (by unfold rounds;omega) ?_ ?_ ?_
 ·rw[hgl]
  exact EndOf.all rfl (hgd _ _) (Fit.sub (.cons h103 cut_pv hcut) rfl) fun E' hE=>⟨Keep.sub hE rfl,by rw[hE 103 (by simp),h103];rfl,true,rfl,fun _=>rfl⟩
 ·rintro i ⟨E1,H1⟩ hi ⟨k1,k2,nl,k3,k4⟩
  simp only at k1 k2 k3
  subst k3
  refine wpO_mono (nx_round (call:=call) hg hV hl hle hok hi (by simp;omega) ((k1 8 (by simp)).trans h8) ((k1 101 (by simp)).trans h101) ((k1 102 (by simp)).trans h102) k2) ?_
  rintro r ⟨E2,rfl,k5,k6⟩
  rw[RQ_norm,hgl]
  have hnx:(l.take (i+1)).map nextP=(l.take i).map nextP++[nextP l[i]]:=by rw[List.take_succ_eq_append_getElem hi,List.map_append];rfl
  exact EndOf.front (hgl _ _).symm (hgd _ _) (Fit.sub (.cons k6 cut_pv (hcut.keep (k1.trans k5))) rfl) fun E' hE=>⟨(k1.trans k5).trans (Keep.sub hE rfl),by rw[hE 103 (by simp),k6],false,by rw[hnx],fun h=>by cases h⟩
 ·rintro⟨E1,H1⟩ ⟨k1,k2,nl,k3,k4⟩
  simp only at k1 k2 k3
  subst k3
  have g102:=(k1 102 (by simp)).trans h102
  have e1:decide ((l.length:Int) < (l.length:Int))=false:=dec_f (by omega)
  rw[List.take_length]
  generalize hQ:(fun r:Ex×St=>r.1.stop=true∧_)=Q
  simp (implicitDefEqProofs:=false) only[SP,SA,WP,sevalprocAttr,-List.reduceReplicate,b_table_Compile_l1,k2,g102,e1]
  subst hQ
  exact⟨rfl,_,nl,rfl,by rw[Tr.get_set,if_neg (by decide)];exact (k1 8 (by simp)).trans h8,fun h=>List.eq_nil_of_length_eq_zero (k4 h)⟩
end
def rowI (s:Shp) (i:Nat):List Int:=[s.first,s.first+prodS s.parts - 1,(i:Int)]
def rowsI (ss:List Shp) (n:Nat):List (List Int):=(List.range n).map fun j=>rowI (ss.getD j ⟨[],0⟩) j
theorem rowsI_succ (ss:List Shp) {n:Nat} (h:n < ss.length):rowsI ss (n+1)=rowsI ss n++[rowI ss[n] n]:=by
 unfold rowsI
 rw[List.range_succ,List.map_append,List.map_cons,List.map_nil,List.getD_eq_getElem?_getD,List.getElem?_eq_getElem h];rfl
theorem rowsI_len (ss:List Shp) (n:Nat):(rowsI ss n).length=n:=by simp[rowsI]
theorem rowsI_row {ss:List Shp} {n:Nat} {r:List Int} (h:r∈rowsI ss n):r.length=3:=by
 unfold rowsI at h
 obtain⟨j,_,rfl⟩:=List.mem_map.1 h
 rfl
theorem flat3_len:∀ {D:List (List Int)},(∀ r∈D,r.length=3)→D.flatten.length=D.length * 3
 | [],_=>rfl
 |r::D,h=>by rw[List.flatten_cons,List.length_append,h r (by simp),flat3_len fun x hx=>h x (by simp[hx]),List.length_cons];omega
def mostN (ss:List Shp):Nat:=ss.foldl (fun m s=>if s.parts.length > m then s.parts.length else m) 0
def hpS (o0 o1 o3:AObj) (c0 c1 c2:AV) (nl:Bool) (ds:List PV) (D:List (List Int)) (fl:Nat) (nr:Bool) (m:Int):List AObj:=
 [o0,o1,.box [c0,c1,c2,.uq 4 nl 1 ds,.own 5 D.length,.pv (i64 m)],o3,.tok 1 ds.length nl,.seq 3 true (cellI D.flatten) fl nr]
section
variable {call:CallF} {o0 o1 o3:AObj} {c0 c1 c2:AV}
theorem sh_round {E:Tr} {S:PV} {ss:List Shp} {es:List PV} {i:Nat} {nl nr:Bool} {fl:Nat} {ds:List PV} {D:List (List Int)} {m:Nat} (hS:HeldSch S ss es) (hok:SchOk ss) (hi:i < ss.length) (hds:ds.length=i) (hD:D.length=i) (hDr:∀ r∈D,r.length=3) (hm:m≤8)
 (h4:E.get 4= .ptr 0 0) (h8:E.get 8= .ptr 2 0) (h46:E.get 46= .pv S) (h47:E.get 47= .pv (i64 ss.length)) (h48:E.get 48= .pv (i64 i)):
 wpO (fun r=>∃ E' T,r=(.norm,⟨E',hpS o0 o1 o3 c0 c1 c2 false (ds++[digP ss[i].parts]) (D++[rowI ss[i] i]) fl false (if ss[i].parts.length > m then ss[i].parts.length else m:Nat)++T⟩)∧Keep [4,8,46,47] E E'∧E'.get 48= .pv (i64 (i+1:Nat)))
  (evalC call b_table_Compile_l0 ⟨E,hpS o0 o1 o3 c0 c1 c2 nl ds D fl nr m⟩):=by
 obtain⟨P,ps,hsh,a1⟩:=hS.iaddr hi
 have hs:=hok.shp _ (List.getElem_mem hi)
 have h32:=hok.len
 have hcn:=shape_count_run hsh hs
 have hdg:=digits_of_run hsh hs
 have hpo:=prodS_pos hs.parts
 have hpr:=hs.prod.2
 have hlt:=hs.lastS
 have hl1:=hs.last
 have hf0:=hs.f0
 have hf1:=hs.f1
 have h88:=hs.hi
 have lP:=hsh.parts.lenA
 have hP1:=hsh.Pone.1
 have hDl:=flat3_len hDr
 generalize ss[i]=s at *
 have e1:decide ((i:Int) < (ss.length:Int))=true:=dec_t (by omega)
 have t1:IntKind.i64.wrap ((i:Int)+1)=((i+1:Nat):Int):=wrap_nat1 (by omega)
 have t2:IntKind.i64.wrap (s.first+prodS s.parts)=s.first+prodS s.parts:=wrap_int (by omega)
 have t3:IntKind.i64.wrap (s.first+prodS s.parts - 1)=s.first+prodS s.parts - 1:=wrap_int (by omega)
 have r2:∀ H (x y:PV),loadA H true 2 (.pv (.rp [x,y] 0))=some (.pv (.agg [x,y])):=fun H x y=>rfl
 obtain⟨b10,hb10⟩:∃ b,b=AObj.box [.pv P,.pv (i64 s.first)]:=⟨_,rfl⟩
 have hH0:(hpS o0 o1 o3 c0 c1 c2 nl ds D fl nr m).length=6:=rfl
 have s1:storeA (hpS o0 o1 o3 c0 c1 c2 nl ds D fl nr m++[.box [.pv .nils,.pv (i64 0)]]) 2 (.ptr 6 0) (.pv (.agg [P,i64 s.first]))=some (hpS o0 o1 o3 c0 c1 c2 nl ds D fl nr m++[b10]):=by
  rw[hb10]
  exact box2_store (.pv .nils) (.pv (i64 0)) (.pv P) (.pv (i64 s.first)) hP1 rfl (hpS o0 o1 o3 c0 c1 c2 nl ds D fl nr m) _ rfl
 have p1:∀ d,place (hpS o0 o1 o3 c0 c1 c2 nl ds D fl nr m++[b10]) d (.ptr 2 0)=some (.ptr 2 (0+d)):=fun d=>box_place rfl d 0
 have q1:∀ d,place (hpS o0 o1 o3 c0 c1 c2 nl ds D fl nr m++[b10]) d (.ptr 6 0)=some (.ptr 6 (0+d)):=fun d=>box_place (by rw[hb10];rfl) d 0
 have l1:loadA (hpS o0 o1 o3 c0 c1 c2 nl ds D fl nr m++[b10]) false 1 (.ptr 2 4)=some (.own 5 D.length):=rfl
 have l2:loadA (hpS o0 o1 o3 c0 c1 c2 nl ds D fl nr m++[b10]) false 1 (.ptr 6 1)=some (.pv (i64 s.first)):=by rw[hb10];rfl
 have l3:loadA (hpS o0 o1 o3 c0 c1 c2 nl ds D fl nr m++[b10]) true 2 (.ptr 6 0)=some (.pv (.agg [P,i64 s.first])):=by rw[hb10];rfl
 obtain⟨H2,hH2⟩:∃ H,H=[o0,o1,.box [c0,c1,c2,.uq 4 nl 1 ds,.own 5 D.length,.pv (i64 m)],o3,.tok 1 ds.length nl,.seq 3 true (cellI (D++[rowI s i]).flatten) fl false,b10]:=⟨_,rfl⟩
 have ap1:appendA (hpS o0 o1 o3 c0 c1 c2 nl ds D fl nr m++[b10]) true .own 3 true 24 (.own 5 D.length) (.pv (.lit 3 [.agg [i64 s.first,i64 (s.first+prodS s.parts - 1),i64 i]]))=some (.own 5 (D.length+1),H2):=by
  rw[hH2]
  have hc:cellI D.flatten++[AV.pv (i64 s.first),.pv (i64 (s.first+prodS s.parts - 1)),.pv (i64 i)]=cellI (D++[rowI s i]).flatten:=by
   rw[List.flatten_append];simp[cellI,rowI]
  simp only[appendA,hpS,List.cons_append,List.nil_append,List.getElem?_cons_succ,List.getElem?_cons_zero,if_true,elemsA,elemsP,Option.map_some,Option.bind_some,flat,PV.cells,List.append_nil,List.map_cons,List.map_nil,List.length_cons,List.length_nil]
  rw[if_pos ⟨trivial,by rw[List.length_map];omega,by unfold roomOk;omega,rfl⟩,hc]
  simp
 have p2:∀ d,place H2 d (.ptr 2 0)=some (.ptr 2 (0+d)):=fun d=>box_place (by rw[hH2];rfl) d 0
 obtain⟨H3,hH3⟩:∃ H,H=[o0,o1,.box [c0,c1,c2,.uq 4 nl 1 ds,.own 5 (D.length+1),.pv (i64 m)],o3,.tok 1 ds.length nl,.seq 3 true (cellI (D++[rowI s i]).flatten) fl false,b10]:=⟨_,rfl⟩
 have s2:storeA H2 1 (.ptr 2 4) (.own 5 (D.length+1))=some H3:=by rw[hH2,hH3];rfl
 have p3:∀ d,place H3 d (.ptr 2 0)=some (.ptr 2 (0+d)):=fun d=>box_place (by rw[hH3];rfl) d 0
 have q3:∀ d,place H3 d (.ptr 6 0)=some (.ptr 6 (0+d)):=fun d=>box_place (by rw[hH3,hb10];rfl) d 0
 have l4:loadA H3 false 1 (.ptr 2 5)=some (.pv (i64 m)):=by rw[hH3];rfl
 have l5:loadA H3 false 1 (.ptr 6 0)=some (.pv P):=by rw[hH3,hb10];rfl
 obtain⟨mm,hmm⟩:∃ x:Nat,x=if s.parts.length > m then s.parts.length else m:=⟨_,rfl⟩
 have hmx:(if (s.parts.length:Int) > (m:Int) then (s.parts.length:Int) else (m:Int))=(mm:Int):=by rw[hmm];split <;> split <;> omega
 obtain⟨H4,hH4⟩:∃ H,H=[o0,o1,.box [c0,c1,c2,.uq 4 nl 1 ds,.own 5 (D.length+1),.pv (i64 mm)],o3,.tok 1 ds.length nl,.seq 3 true (cellI (D++[rowI s i]).flatten) fl false,b10]:=⟨_,rfl⟩
 have s3:storeA H3 1 (.ptr 2 5) (.pv (.int .i64 mm))=some H4:=by rw[hH3,hH4];rfl
 have p4:∀ d,place H4 d (.ptr 2 0)=some (.ptr 2 (0+d)):=fun d=>box_place (by rw[hH4];rfl) d 0
 have l6:loadA H4 false 1 (.ptr 2 3)=some (.uq 4 nl 1 ds):=by rw[hH4];rfl
 have l7:loadA H4 true 2 (.ptr 6 0)=some (.pv (.agg [P,i64 s.first])):=by rw[hH4,hb10];rfl
 obtain⟨H5,hH5⟩:∃ H,H=[o0,o1,.box [c0,c1,c2,.uq 4 nl 1 ds,.own 5 (D.length+1),.pv (i64 mm)],o3,.tok 1 (ds.length+1) false,.seq 3 true (cellI (D++[rowI s i]).flatten) fl false,b10]:=⟨_,rfl⟩
 have ap2:appendA H4 false .uq 1 false 8 (.uq 4 nl 1 ds) (.pv (.lit 1 [digP s.parts]))=some (.uq 4 false 1 (ds++[digP s.parts]),H5):=by
  rw[hH5]
  rw[uq_append (A:=H4) (id:=4) (n:=ds.length) (nl:=nl) (by rw[hH4];rfl) rfl (by unfold roomOk;omega) (digP s.parts)]
  rw[hH4];rfl
 have p5:∀ d,place H5 d (.ptr 2 0)=some (.ptr 2 (0+d)):=fun d=>box_place (by rw[hH5];rfl) d 0
 have s5:storeA H5 1 (.ptr 2 3) (.uq 4 false 1 (ds++[digP s.parts]))=some (hpS o0 o1 o3 c0 c1 c2 false (ds++[digP s.parts]) (D++[rowI s i]) fl false mm++[b10]):=by
  rw[hH5]
  have e1:(ds++[digP s.parts]).length=ds.length+1:=by simp
  have e2:(D++[rowI s i]).length=D.length+1:=by simp
  unfold hpS
  rw[e1,e2];rfl
 rw[← hmm]
 have m1:fillA (List.map AV.pv [PV.int .i64 0,.int .i64 0,.int .i64 0]) [(0,1,.pv (i64 s.first)),(1,1,.pv (i64 (s.first+prodS s.parts - 1))),(2,1,.pv (i64 i))]=some [.pv (i64 s.first),.pv (i64 (s.first+prodS s.parts - 1)),.pv (i64 i)]:=rfl
 have hdc:(AV.pv (digP s.parts)).one=true:=rfl
 have hdp:(digP s.parts).cells=[digP s.parts]:=rfl
 have hfin:hpS o0 o1 o3 c0 c1 c2 false (ds++[digP s.parts]) (D++[rowI s i]) fl false mm++[b10]=hpS o0 o1 o3 c0 c1 c2 false (ds++[digP s.parts]) (D++[rowI s i]) fl false mm++[b10]:=rfl
 clear hH2 hH3 hH4 hH5 hb10
 generalize hG1:hpS o0 o1 o3 c0 c1 c2 nl ds D fl nr m++[b10]=G1 at *
 generalize hG0:hpS o0 o1 o3 c0 c1 c2 nl ds D fl nr m=G0 at *
 generalize digP s.parts=dd at *
 generalize hQ:(fun r:Ex×St=>∃ E' T,r=_∧_)=Q
 simp (implicitDefEqProofs:=false) only[SP,WP,setRow,sevalprocAttr,-List.reduceReplicate,b_table_Compile_l0,h8,h46,h47,h48,e1,a1,r2,hH0,s1,p1,q1,l1,l2,l3,hcn,t1,t2,t3,ap1,p2,s2,p3,q3,l4,l5,lP,hmx,bestA,bestOf,s3,p4,l6,l7,hdg,hdc,hdp,ap2,p5,s5]
 subst hQ
 refine⟨_,[b10],rfl,?_,by rw[Tr.get_set,if_pos rfl]⟩
 repeat refine Keep.set ?_ rfl
 exact Keep.refl _ _
theorem mostN_take {ss:List Shp} {i:Nat} (hi:i < ss.length):mostN (ss.take (i+1))=if ss[i].parts.length > mostN (ss.take i) then ss[i].parts.length else mostN (ss.take i):=by
 unfold mostN
 rw[List.take_succ_eq_append_getElem hi,List.foldl_append];rfl
theorem mostN_le {ss:List Shp} (h:∀ s∈ss,s.parts.length≤8):mostN ss≤8:=by
 have key:∀ (ss:List Shp) (m:Nat),m≤8→(∀ s∈ss,s.parts.length≤8)→ss.foldl (fun m s=>if s.parts.length > m then s.parts.length else m) m≤8:=by
  intro ss
  induction ss with
  |nil=>intro m h _;exact h
  |cons s ss ih=>
   intro m hm h
   rw[List.foldl_cons]
   refine ih _ ?_ fun x hx=>h x (by simp[hx])
   have:=h s (by simp)
   split <;> omega
 exact key ss 0 (by omega) h
theorem sh_loop (hg:∀ nl ds D fl nr m,HGood (hpS o0 o1 o3 c0 c1 c2 nl ds D fl nr m)) {E:Tr} {S:PV} {ss:List Shp} {es:List PV} (hS:HeldSch S ss es) (hok:SchOk ss)
 (h4:E.get 4= .ptr 0 0) (h8:E.get 8= .ptr 2 0) (h46:E.get 46= .pv S) (h47:E.get 47= .pv (i64 ss.length)) (h48:E.get 48= .pv (i64 0)):
 wpO (fun r=>r.1.stop=true∧∃ E' nl nr,r=(.exit 0,⟨E',hpS o0 o1 o3 c0 c1 c2 nl (ss.map fun s=>digP s.parts) (rowsI ss ss.length) 0 nr (mostN ss)⟩)∧E'.get 4= .ptr 0 0∧E'.get 8= .ptr 2 0∧(nl=true→ss=[])∧(nr=true→ss=[]))
  (evalC call (.loop [4,8,46,47,48] b_table_Compile_l0) ⟨E,hpS o0 o1 o3 c0 c1 c2 true [] [] 0 true 0⟩):=by
 have hgl:∀ nl ds D fl nr m,(hpS o0 o1 o3 c0 c1 c2 nl ds D fl nr m).length=6:=fun _ _ _ _ _ _=>rfl
 have hgd:∀ nl ds D fl nr m,∀ o∈hpS o0 o1 o3 c0 c1 c2 nl ds D fl nr m,cutObj 6 o=some o:=fun nl ds D fl nr m o ho=>hg nl ds D fl nr m 6 (by rw[hgl];exact Nat.le_refl _) o ho
 have hcut:Fit 6 [4,8,46,47] E:= .cons h4 (cut_ptr (by omega)) (.cons h8 (cut_ptr (by omega)) (.cons h46 cut_pv (.cons h47 cut_pv (.nil _ _))))
 have h32:=hok.len
 refine loop_of (fun i t=>Keep [4,8,46,47] E t.env∧t.env.get 48= .pv (i64 i)∧∃ nl nr,t.H=hpS o0 o1 o3 c0 c1 c2 nl ((ss.take i).map fun s=>digP s.parts) (rowsI ss i) 0 nr (mostN (ss.take i))∧(nl=true→i=0)∧(nr=true→i=0)) ss.length (by unfold rounds;omega) ?_ ?_ ?_
 ·rw[hgl]
  exact EndOf.all rfl (hgd _ _ _ _ _ _) (Fit.sub (.cons h48 cut_pv hcut) rfl) fun E' hE=>⟨Keep.sub hE rfl,by rw[hE 48 (by simp),h48];rfl,true,true,rfl,fun _=>rfl,fun _=>rfl⟩
 ·rintro i ⟨E1,H1⟩ hi ⟨k1,k2,nl,nr,k3,k4,k5⟩
  simp only at k1 k2 k3
  subst k3
  refine wpO_mono (sh_round (call:=call) hS hok hi (by simp;omega) (rowsI_len _ _) (fun r hr=>rowsI_row hr) (mostN_le fun s hs=>(hok.shp s (List.mem_of_mem_take hs)).hi) ((k1 4 (by simp)).trans h4) ((k1 8 (by simp)).trans h8) ((k1 46 (by simp)).trans h46) ((k1 47 (by simp)).trans h47) k2) ?_
  rintro r ⟨E2,T,rfl,k6,k7⟩
  rw[RQ_norm,hgl,←rowsI_succ ss hi,←mostN_take hi]
  have hnx:(ss.take (i+1)).map (fun s=>digP s.parts)=(ss.take i).map (fun s=>digP s.parts)++[digP ss[i].parts]:=by rw[List.take_succ_eq_append_getElem hi,List.map_append];rfl
  exact EndOf.front (hgl _ _ _ _ _ _).symm (hgd _ _ _ _ _ _) (Fit.sub (.cons k7 cut_pv (hcut.keep (k1.trans k6))) rfl) fun E' hE=>⟨(k1.trans k6).trans (Keep.sub hE rfl),by rw[hE 48 (by simp),k7],false,false,by rw[hnx],fun h=>(by cases h),fun h=>(by cases h)⟩
 ·rintro⟨E1,H1⟩ ⟨k1,k2,nl,nr,k3,k4,k5⟩
  simp only at k1 k2 k3
  subst k3
  have g47:=(k1 47 (by simp)).trans h47
  have e1:decide ((ss.length:Int) < (ss.length:Int))=false:=dec_f (by omega)
  rw[List.take_length]
  generalize hQ:(fun r:Ex×St=>r.1.stop=true∧_)=Q
  simp (implicitDefEqProofs:=false) only[SP,SA,WP,sevalprocAttr,-List.reduceReplicate,b_table_Compile_l0,k2,g47,e1]
  subst hQ
  exact⟨rfl,_,nl,nr,rfl,by rw[Tr.get_set,if_neg (by decide)];exact (k1 4 (by simp)).trans h4,by rw[Tr.get_set,if_neg (by decide)];exact (k1 8 (by simp)).trans h8,fun h=>List.eq_nil_of_length_eq_zero (k4 h),fun h=>List.eq_nil_of_length_eq_zero (k5 h)⟩
end
end Go.AM.B1
namespace Go.AM.B1
open Go.AM Go.AM.So
end Go.AM.B1
namespace Go.AM.B1
open Go.AM
theorem toldIn_app (row0:List Int):∀ (xs ys:List Nat) (r:List Int×List Int),toldIn row0 (xs++ys) r=toldIn row0 ys (toldIn row0 xs r)
 | [],ys,r=>rfl
 |x::xs,ys,r=>by rw[List.cons_append,toldIn,toldIn,toldIn_app row0 xs]
theorem idxO_some {a:Int}:∀ {l:List Int} {k i:Nat},idxO a l k=some i→k≤i∧l[i - k]? =some a
 | [],_,_,h=>by cases h
 |b::l,k,i,h=>by
  simp only[idxO] at h
  split at h
  ·next he=>injection h with h;subst h he;simp
  ·obtain⟨h1,h2⟩:=idxO_some h
   refine⟨by omega,?_⟩
   have:i - k=(i - (k+1))+1:=by omega
   rw[this,List.getElem?_cons_succ];exact h2
structure TIn (row0 O:List Int) (n:Nat) (r:List Int×List Int):Prop where
 len:r.2.length=row0.length
 hi:∀ x,n≤x→r.2.getD x 0=row0.getD x 0
 ext:∃ t,r.1=O++t∧∀ o∈t,0≤o∧∃ x,x < n∧row0.getD x 0=o
 nodup:r.1.Nodup
 val:∀ x,x < n→(row0.getD x 0 < 0→r.2.getD x 0=row0.getD x 0)∧(0≤row0.getD x 0→∃ k:Nat,r.2.getD x 0=(k:Int)∧r.1[k]? =some (row0.getD x 0))
theorem getD_set {l:List Int} {x y:Nat} {v:Int} (hx:x < l.length):(l.set x v).getD y 0=if y=x then v else l.getD y 0:=by
 rw[List.getD_eq_getElem?_getD,List.getD_eq_getElem?_getD]
 by_cases h:y=x
 ·subst h;rw[List.getElem?_set_self hx,if_pos rfl];rfl
 ·rw[List.getElem?_set_ne (Ne.symm h),if_neg h]
theorem TIn.next {row0 O:List Int} {n:Nat} {r:List Int×List Int} (h:TIn row0 O n r) (hn:n < row0.length):
 TIn row0 O (n+1) (toldX n (row0.getD n 0) r)∧(toldX n (row0.getD n 0) r).2.getD n 0≤r.1.length∧
 (((toldX n (row0.getD n 0) r).1.length:Int)=if (toldX n (row0.getD n 0) r).2.getD n 0=r.1.length then (r.1.length:Int)+1 else r.1.length)∧
 (∀ x,x < n→(toldX n (row0.getD n 0) r).2.getD x 0=r.2.getD x 0):=by
 obtain⟨t,ht,hts⟩:=h.ext
 have hl:n < r.2.length:=by rw[h.len];exact hn
 have hne:∀ x,x < n→x≠n:=fun x hx=>by omega
 unfold toldX
 by_cases h0:row0.getD n 0 < 0
 ·rw[if_pos h0]
  have hv:=h.hi n (Nat.le_refl _)
  refine⟨⟨h.len,fun x hx=>h.hi x (by omega),⟨t,ht,fun o ho=>⟨(hts o ho).1,by obtain⟨x,hx,e⟩:=(hts o ho).2;exact⟨x,by omega,e⟩⟩⟩,h.nodup,?_⟩,by rw[hv];omega,by rw[hv,if_neg (by omega)],fun x hx=>rfl⟩
  intro x hx
  rcases Nat.lt_or_ge x n with h1 | h1
  ·exact h.val x h1
  ·have:x=n:=by omega
   subst this;exact⟨fun _=>hv,fun h2=>by omega⟩
 ·rw[if_neg h0]
  cases hi:idxO (row0.getD n 0) r.1 0 with
  |some k=>
   have hk:=(idxO_some hi).2
   rw[Nat.sub_zero] at hk
   have hkl:=(List.getElem?_eq_some_iff.1 hk).1
   simp only
   refine⟨⟨by rw[List.length_set,h.len],?_,⟨t,ht,fun o ho=>⟨(hts o ho).1,by obtain⟨x,hx,e⟩:=(hts o ho).2;exact⟨x,by omega,e⟩⟩⟩,h.nodup,?_⟩,?_,?_,?_⟩
   ·intro x hx;rw[getD_set hl,if_neg (by omega)];exact h.hi x (by omega)
   ·intro x hx
    rcases Nat.lt_or_ge x n with h1 | h1
    ·rw[getD_set hl,if_neg (by omega)];exact h.val x h1
    ·have:x=n:=by omega
     subst this
     rw[getD_set hl,if_pos rfl]
     exact⟨fun h2=>absurd h2 h0,fun _=>⟨k,rfl,hk⟩⟩
   ·rw[getD_set hl,if_pos rfl];omega
   ·rw[getD_set hl,if_pos rfl,if_neg (by omega)]
   ·intro x hx;rw[getD_set hl,if_neg (by omega)]
  |none=>
   have hnm:=idxO_none hi
   simp only
   refine⟨⟨by rw[List.length_set,h.len],?_,⟨t++[row0.getD n 0],by rw[ht,List.append_assoc],?_⟩,?_,?_⟩,?_,?_,?_⟩
   ·intro x hx;rw[getD_set hl,if_neg (by omega)];exact h.hi x (by omega)
   ·intro o ho
    rcases List.mem_append.1 ho with h1 | h1
    ·exact⟨(hts o h1).1,by obtain⟨x,hx,e⟩:=(hts o h1).2;exact⟨x,by omega,e⟩⟩
    ·simp only[List.mem_singleton] at h1;subst h1;exact⟨by omega,n,by omega,rfl⟩
   ·rw[List.nodup_append]
    refine⟨h.nodup,by simp,fun a ha b hb=> ?_⟩
    simp only[List.mem_singleton] at hb;subst hb;intro e;subst e;exact hnm ha
   ·intro x hx
    rcases Nat.lt_or_ge x n with h1 | h1
    ·rw[getD_set hl,if_neg (by omega)]
     refine⟨(h.val x h1).1,fun h2=> ?_⟩
     obtain⟨k,e1,e2⟩:=(h.val x h1).2 h2
     exact⟨k,e1,by rw[List.getElem?_append_left (List.getElem?_eq_some_iff.1 e2).1];exact e2⟩
    ·have:x=n:=by omega
     subst this
     rw[getD_set hl,if_pos rfl]
     exact⟨fun h2=>absurd h2 h0,fun _=>⟨_,rfl,by simp⟩⟩
   ·rw[getD_set hl,if_pos rfl];omega
   ·rw[getD_set hl,if_pos rfl,if_pos rfl,List.length_append];simp
   ·intro x hx;rw[getD_set hl,if_neg (by omega)]
theorem tIn_go {row0 O:List Int} (hO:O.Nodup):∀ n:Nat,n≤row0.length→TIn row0 O n (toldIn row0 (List.range n) (O,row0))∧
 (∀ x,x < n→(toldIn row0 (List.range n) (O,row0)).2.getD x 0≤((toldIn row0 (List.range x) (O,row0)).1.length:Int)∧
  ((toldIn row0 (List.range (x+1)) (O,row0)).1.length:Int)=if (toldIn row0 (List.range n) (O,row0)).2.getD x 0=((toldIn row0 (List.range x) (O,row0)).1.length:Int) then ((toldIn row0 (List.range x) (O,row0)).1.length:Int)+1 else ((toldIn row0 (List.range x) (O,row0)).1.length:Int))
 |0,_=>⟨⟨rfl,fun x _=>rfl,⟨[],by simp[toldIn]⟩,hO,by omega⟩,by omega⟩
 |n+1,hn=>by
  obtain⟨h1,h2⟩:=tIn_go (row0:=row0) hO n (by omega)
  obtain⟨k1,k2,k3,k4⟩:=h1.next (by omega)
  have e:toldIn row0 (List.range (n+1)) (O,row0)=toldX n (row0.getD n 0) (toldIn row0 (List.range n) (O,row0)):=by rw[List.range_succ,toldIn_app];rfl
  refine⟨by rw[e];exact k1,fun x hx=> ?_⟩
  rcases Nat.lt_or_ge x n with h3 | h3
  ·rw[e,k4 x h3];exact h2 x h3
  ·have:x=n:=by omega
   subst this
   rw[e]
   exact⟨k2,k3⟩
structure RowIs (D:List Int) (O:List Int) (o:Int) (e:List Edg):Prop where
 ex:∃ row,e=edgesS row∧∀ x,x < 256→((rowAt D o.toNat).getD x 0 < 0→row.getD x 0=(rowAt D o.toNat).getD x 0)∧
  (0≤(rowAt D o.toNat).getD x 0→∃ k:Nat,row.getD x 0=(k:Int)∧O[k]? =some ((rowAt D o.toNat).getD x 0))
theorem RowIs.mono {D O:List Int} {o:Int} {e:List Edg} (h:RowIs D O o e) (t:List Int):RowIs D (O++t) o e:=by
 obtain⟨row,h1,h2⟩:=h.ex
 refine⟨row,h1,fun x hx=>⟨(h2 x hx).1,fun h0=> ?_⟩⟩
 obtain⟨k,h3,h4⟩:=(h2 x hx).2 h0
 exact⟨k,h3,by rw[List.getElem?_append_left (List.getElem?_eq_some_iff.1 h4).1];exact h4⟩
def MetsOk:Int→Int→List (List Edg)→Prop
 |_,_,[]=>True
 |m,i,e::l=>i < m∧MetOk m e∧MetsOk (metE m e) (i+1) l
def metS (m:Int) (l:List (List Edg)):Int:=l.foldl metE m
theorem metsOk_snoc:∀ {m i:Int} {l:List (List Edg)} {e:List Edg},MetsOk m i l→i+l.length < metS m l→MetOk (metS m l) e→MetsOk m i (l++[e])
 |m,i,[],e,_,h1,h2=>⟨by simpa[metS] using h1,h2,trivial⟩
 |m,i,a::l,e,h,h1,h2=>⟨h.1,h.2.1,metsOk_snoc h.2.2 (by simp only[List.length_cons] at h1;simp only[metS,List.foldl_cons] at h1;simp only[metS];omega) h2⟩
theorem metS_snoc (m:Int) (l:List (List Edg)) (e:List Edg):metS m (l++[e])=metE (metS m l) e:=by
 unfold metS;rw[List.foldl_append];rfl
structure ToldIs (D:List Int) (n:Nat) (J:Int→Prop) (O:List Int) (l:List (List Edg)):Prop where
 ord:OrdOk n O
 first:O[0]? =some 0
 le:l.length≤O.length
 rows:∀ (k:Nat) o e,O[k]? =some o→l[k]? =some e→RowIs D O o e
 met:metS 1 l=O.length
 mets:MetsOk 1 0 l
 all:∀ o∈O,J o
 tos:∀ e∈l,∀ x∈e,x.to < O.length
section
variable {D:List Int} {n:Nat} {J:Int→Prop} (hD:D.length=n * 256) (cD:∀ c∈D,c < n)
 (hJ:∀ o,J o→0≤o→o < n→∀ x,x < 256→0≤(rowAt D o.toNat).getD x 0→J ((rowAt D o.toNat).getD x 0))
include hD cD hJ
theorem ToldIs.next {O:List Int} {l:List (List Edg)} (h:ToldIs D n J O l) {o:Int} (ho:O[l.length]? =some o):
 ToldIs D n J (toldOne D o O).1 (l++[edgesS (toldOne D o O).2]):=by
 have hoO:=List.mem_of_getElem? ho
 have hb:=h.ord.2 o hoO
 have hlt:=(List.getElem?_eq_some_iff.1 ho).1
 have hrl:(rowAt D o.toNat).length=256:=rowAt_len hD (by omega)
 obtain⟨k1,k2⟩:=tIn_go (row0:=rowAt D o.toNat) h.ord.1 256 (by omega)
 obtain⟨t,ht,hts⟩:=k1.ext
 unfold toldOne
 have hm:=edges_met (row:=(toldIn (rowAt D o.toNat) (List.range 256) (O,rowAt D o.toNat)).2) (g:=fun x=>((toldIn (rowAt D o.toNat) (List.range x) (O,rowAt D o.toNat)).1.length:Int)) (fun x=>by omega) 256 (fun x hx=>(k2 x hx).1) (fun x hx=>(k2 x hx).2)
 generalize hr:toldIn (rowAt D o.toNat) (List.range 256) (O,rowAt D o.toNat)=r at *
 obtain⟨m1,m2,m3⟩:=hm
 have hg0:((toldIn (rowAt D o.toNat) (List.range 0) (O,rowAt D o.toNat)).1.length:Int)=O.length:=rfl
 simp only[hg0] at m1 m2
 have e1:edgesGo r.2 (List.range 256) []=edgesS r.2:=rfl
 rw[e1] at m1 m2 m3
 have hval:RowIs D r.1 o (edgesS r.2):=⟨r.2,rfl,fun x hx=>k1.val x hx⟩
 have hm':=h.met
 have hget:∀ x,x < 256→(rowAt D o.toNat).getD x 0 < n:=by
  intro x hx
  rw[List.getD_eq_getElem?_getD,List.getElem?_eq_getElem (by omega)]
  have:=List.getElem_mem (l:=rowAt D o.toNat) (n:=x) (by omega)
  exact cD _ (by unfold rowAt at this;exact List.mem_of_mem_drop (List.mem_of_mem_take this))
 refine⟨⟨k1.nodup,?_⟩,?_,?_,?_,?_,?_,?_,?_⟩
 ·intro o' ho'
  rw[ht] at ho'
  rcases List.mem_append.1 ho' with h1 | h1
  ·exact h.ord.2 o' h1
  ·obtain⟨h2,x,hx,rfl⟩:=hts o' h1;exact⟨h2,hget x hx⟩
 ·rw[ht,List.getElem?_append_left (by omega)];exact h.first
 ·rw[ht];simp;omega
 ·intro k o' e h1 h2
  rcases Nat.lt_or_ge k l.length with h3 | h3
  ·rw[List.getElem?_append_left h3] at h2
   rw[ht,List.getElem?_append_left (by omega)] at h1
   rw[ht];exact (h.rows k o' e h1 h2).mono t
  ·have h4:=(List.getElem?_eq_some_iff.1 h2).1
   have:k=l.length:=by simp at h4;omega
   subst this
   rw[List.getElem?_append_right (Nat.le_refl _)] at h2
   simp at h2;subst h2
   rw[ht,List.getElem?_append_left (by omega),ho] at h1
   injection h1 with h1;subst h1;exact hval
 ·rw[metS_snoc,hm',m1]
 ·exact metsOk_snoc h.mets (by rw[hm'];omega) (by rw[hm'];exact m2)
 ·intro o' ho'
  rw[ht] at ho'
  rcases List.mem_append.1 ho' with h1 | h1
  ·exact h.all o' h1
  ·obtain⟨h2,x,hx,rfl⟩:=hts o' h1;exact hJ o (h.all o hoO) hb.1 hb.2 x hx h2
 ·intro e he x hx
  rcases List.mem_append.1 he with h1 | h1
  ·have:=h.tos e h1 x hx;rw[ht,List.length_append];omega
  ·simp only[List.mem_singleton] at h1;subst h1;exact m3 x hx
theorem ToldIs.go:∀ (f:Nat) (O:List Int) (l:List (List Edg)),ToldIs D n J O l→n≤l.length+f→ToldIs D n J (toldGo D f (O,l)).1 (toldGo D f (O,l)).2∧(toldGo D f (O,l)).1.length=(toldGo D f (O,l)).2.length
 |0,O,l,h,hf=>⟨h,by have:=h.ord.len;have:=h.le;show O.length=l.length;omega⟩
 |f+1,O,l,h,hf=>by
  cases ho:O[l.length]? with
  |none=>
   rw[toldGo_end (r:=(O,l)) ho]
   have:=List.getElem?_eq_none_iff.1 ho
   exact⟨h,by have:=h.le;show O.length=l.length;omega⟩
  |some o=>
   rw[toldGo_some (r:=(O,l)) ho]
   exact ToldIs.go f _ _ (h.next hD cD hJ ho) (by simp;omega)
theorem told_is (hn:n≤64) (h0:0 < n) (hJ0:J 0):∃ O,ToldIs D n J O (toldS D)∧O.length=(toldS D).length:=by
 have h:ToldIs D n J [0] []:=⟨⟨by simp,by simp;omega⟩,rfl,by simp,by simp,rfl,trivial,by simpa using hJ0,by simp⟩
 have:=ToldIs.go hD cD hJ 64 [0] [] h (by simp;omega)
 exact⟨_,this.1,this.2⟩
end
end Go.AM.B1
namespace Go.AM.B1
open Go.AM Go.AM.So
structure LIs (ss:List Shp) (sets:List Al) (C:List (List Int)) (O:List Int) (l:List (List Edg)):Prop where
 ok:SchOk ss
 pre:PreOk ss
 W:WInv ss sets C
 hl:C.length=sets.length
 told:ToldIs (leastS C.length C.flatten).C C.length (fun o=>∃ j,j < C.length∧o=co C j) O l
 len:O.length=l.length
 pos:0 < C.length
 le:C.length≤64
theorem co_zero (C:List (List Int)):co C 0=0:=by unfold co;rw[if_pos rfl]
section
variable {ss:List Shp} {sets:List Al} {C:List (List Int)} (W:WInv ss sets C) (hl:C.length=sets.length)
include W hl
theorem nxtC_co {j x:Nat} (hj:j < C.length) (hx:x < 256):nxtC C j x=if 0≤nxt C j x then co C (nxt C j x).toNat else nxt C j x:=by
 unfold nxtC
 split
 ·next h=>
  have:=W.deeper hl hj hx h
  unfold co;rw[if_neg (by omega)]
 ·rfl
end
theorem auto_is {ss:List Shp} {l:List (List Edg)} (hok:SchOk ss) (hpre:PreOk ss) (h:autoS ss=some l):∃ sets C O,LIs ss sets C O l:=by
 unfold autoS at h
 rw[Option.map_eq_some_iff] at h
 obtain⟨⟨sets,C⟩,hw,rfl⟩:=h
 obtain⟨W,hl⟩:=walk0_sem hok.len (fun s hs=>(hok.shp s hs).lo) hw
 have W:WInv ss sets C:=W
 have hl:C.length=sets.length:=hl
 have hm:=W.minv hl
 have h0:0 < C.length:=by rw[hl];exact (List.getElem?_eq_some_iff.1 W.first).1
 have h64:C.length≤64:=by rw[hl];exact W.ok.1
 have hrow:∀ j x,j < C.length→x < 256→(rowAt (leastS C.length C.flatten).C (co C j).toNat).getD x 0=nxtC C j x:=fun j x hj hx=>co_row W hl hj hx
 obtain⟨O,h1,h2⟩:=told_is (n:=C.length) (J:=fun o=>∃ j,j < C.length∧o=co C j) (D:=(leastS C.length C.flatten).C) hm.hC (by
  intro c hc
  obtain⟨p,hp,rfl⟩:=List.getElem_of_mem hc
  have hpl:p < C.length * 256:=by rw[← hm.hC];exact hp
  have e1:(leastS C.length C.flatten).C[p]=(rowAt (leastS C.length C.flatten).C (p / 256)).getD (p % 256) 0:=by
   rw[List.getD_eq_getElem?_getD,rowAt_get (Nat.mod_lt _ (by omega))]
   have:p / 256 * 256+p % 256=p:=by omega
   rw[this,List.getElem?_eq_getElem hp];rfl
  rw[e1,W.crow hl (by omega) (Nat.mod_lt _ (by omega))]
  have hb:=W.bound hl (k:=p / 256) (x:=p % 256) (by omega) (Nat.mod_lt _ (by omega))
  unfold nxtC
  split
  ·exact (hm.like_rep (j:=(nxt C (p / 256) (p % 256)).toNat) (by omega)).2.1
  ·exact hb.2) (by
  rintro o ⟨j,hj,rfl⟩ _ _ x hx h3
  rw[hrow j x hj hx,nxtC_co W hl hj hx] at h3 ⊢
  have hb:=W.bound hl hj hx
  split at h3
  ·next h4=>rw[if_pos h4];exact⟨_,by omega,rfl⟩
  ·omega) h64 h0 ⟨0,h0,(co_zero C).symm⟩
 exact⟨sets,C,O,hok,hpre,W,hl,h1,h2,h0,h64⟩
section
variable {ss:List Shp} {sets:List Al} {C:List (List Int)} {O:List Int} {l:List (List Edg)}
theorem LIs.first (h:LIs ss sets C O l):O[0]? =some (co C 0):=by rw[co_zero];exact h.told.first
theorem LIs.row (h:LIs ss sets C O l) {k j:Nat} (hk:O[k]? =some (co C j)) (hj:j < C.length):∃ row,l[k]? =some (edgesS row)∧
 ∀ x,x < 256→(nxt C j x < 0→row.getD x 0=nxt C j x)∧(0≤nxt C j x→∃ k':Nat,row.getD x 0=(k':Int)∧0 < k'∧O[k']? =some (co C (nxt C j x).toNat)):=by
 have hkl:=(List.getElem?_eq_some_iff.1 hk).1
 have hle:=h.len
 have he:l[k]? =some l[k]:=List.getElem?_eq_getElem (by omega)
 obtain⟨row,h1,h2⟩:=(h.told.rows k _ _ hk he).ex
 refine⟨row,by rw[he,h1],fun x hx=> ?_⟩
 have h3:=h2 x hx
 rw[co_row h.W h.hl hj hx,nxtC_co h.W h.hl hj hx] at h3
 constructor
 ·intro h4
  rw[if_neg (by omega)] at h3
  exact h3.1 h4
 ·intro h4
  rw[if_pos h4] at h3
  have hd:=h.W.deeper h.hl hj hx h4
  have hb:=h.W.bound h.hl hj hx
  have hc:0≤co C (nxt C j x).toNat:=by
   unfold co;split
   ·omega
   ·exact ((h.W.minv h.hl).like_rep (by omega)).1
  obtain⟨k',e1,e2⟩:=h3.2 hc
  refine⟨k',e1,?_,e2⟩
  rcases Nat.eq_zero_or_pos k' with rfl | h5
  ·rw[h.first,co_zero] at e2
   injection e2 with e2
   unfold co at e2
   rw[if_neg (by omega)] at e2
   exact absurd e2.symm (cls_pos h.ok h.pre h.W h.hl (by omega) (by omega))
  ·exact h5
end
end Go.AM.B1
namespace Go.AM.B1
open Go.AM Go.AM.So
section
variable {ss:List Shp} {sets:List Al} {C:List (List Int)} {O:List Int} {l:List (List Edg)} (h:LIs ss sets C O l)
include h
theorem LIs.step {k j:Nat} (hk:O[k]? =some (co C j)) (hj:j < C.length) {x:Nat} (hx:x < 256):
 (nxt C j x= -2∧stepS l (k:Int) (x:Int)=(0,false))∨(nxt C j x= -1∧stepS l (k:Int) (x:Int)=(-1,true))∨
 (0≤nxt C j x∧nxt C j x < C.length∧∃ k':Nat,stepS l (k:Int) (x:Int)=((k':Int),true)∧0 < k'∧O[k']? =some (co C (nxt C j x).toNat)):=by
 obtain⟨row,h1,h2⟩:=h.row hk hj
 have h3:=(edges_inv row).step x hx
 obtain⟨h4,h5⟩:=h2 x hx
 have hb:=h.W.bound h.hl hj hx
 have hs:stepS l (k:Int) (x:Int)=match stepEd (x:Int) (edgesS row) with
  |some t=>(t,true)
  |none=>(0,false):=by
  unfold stepS
  rw[if_neg (by omega),Int.toNat_natCast,h1] <;> rfl
 rw[h3] at hs
 by_cases c0:0≤nxt C j x
 ·obtain⟨k',e1,e2,e3⟩:=h5 c0
  rw[e1,if_neg (by omega)] at hs
  exact .inr (.inr ⟨c0,hb.2,k',hs,e2,e3⟩)
 ·have h6:=h4 (by omega)
  rw[h6] at hs
  by_cases c1:nxt C j x= -2
  ·rw[if_pos c1] at hs;exact .inl ⟨c1,hs⟩
  ·have c2:nxt C j x= -1:=by omega
   rw[if_neg c1,c2] at hs;exact .inr (.inl ⟨c2,hs⟩)
theorem LIs.match:∀ (bs:List Nat) (i k j:Nat),Bytes bs→O[k]? =some (co C j)→j < C.length→
 ∃ m:Nat,m≤bs.length∧((matchS l i (k:Int) (bs.map fun (n:Nat)=>(n:Int))=(((i+m:Nat):Int),1)∧0 < m∧runT C j (bs.take m)= -1)∨
  (matchS l i (k:Int) (bs.map fun (n:Nat)=>(n:Int))=(((i+m:Nat):Int),2)∧m=bs.length∧0≤runT C j bs)∨
  (matchS l i (k:Int) (bs.map fun (n:Nat)=>(n:Int))=(((i+m:Nat):Int),3)∧m < bs.length∧0≤runT C j (bs.take m)∧runT C j (bs.take (m+1))= -2))
 | [],i,k,j,_,hk,hj=>⟨0,by simp,.inr (.inl ⟨rfl,rfl,Int.natCast_nonneg j⟩)⟩
 |x::bs,i,k,j,hb,hk,hj=>by
  have hx:x < 256:=hb x (by simp)
  have hbs:Bytes bs:=fun y hy=>hb y (by simp[hy])
  have hj0:¬((j:Int) < 0):=by omega
  rw[List.map_cons,matchS]
  rcases h.step hk hj hx with⟨h1,h2⟩ | ⟨h1,h2⟩ | ⟨h1,h1',k',h2,h3,h4⟩
  ·rw[h2]
   refine⟨0,by simp,.inr (.inr ⟨rfl,by simp,Int.natCast_nonneg j,?_⟩)⟩
   show runT C j [x]= -2
   rw[runT,if_neg hj0,Int.toNat_natCast,h1];rfl
  ·rw[h2]
   refine⟨1,by simp,.inl ⟨rfl,by omega,?_⟩⟩
   show runT C j [x]= -1
   rw[runT,if_neg hj0,Int.toNat_natCast,h1];rfl
  ·rw[h2]
   simp only[Bool.true_eq_false,if_false]
   rw[if_neg (by omega)]
   obtain⟨m,hm,hc⟩:=LIs.match bs (i+1) k' (nxt C j x).toNat hbs h4 (by omega)
   have hr:∀ w,runT C j (x::w)=runT C ((nxt C j x).toNat:Nat) w:=by
    intro w
    rw[runT,if_neg hj0,Int.toNat_natCast,Int.toNat_of_nonneg h1]
   have he:i+1+m=i+(m+1):=by omega
   rw[he] at hc
   refine⟨m+1,by simp;omega,?_⟩
   rcases hc with⟨c1,c2,c3⟩ | ⟨c1,c2,c3⟩ | ⟨c1,c2,c3,c4⟩
   ·exact .inl ⟨c1,by omega,by rw[List.take_succ_cons,hr];exact c3⟩
   ·exact .inr (.inl ⟨c1,by simp[c2],by rw[hr];exact c3⟩)
   ·exact .inr (.inr ⟨c1,by simp;omega,by rw[List.take_succ_cons,hr];exact c3,by rw[List.take_succ_cons,hr];exact c4⟩)
end
end Go.AM.B1
