/- What functions of the program compute. -/
import Derived.Test.YtdglpnpkgngcdaaGreatM2
import Derived.Test.YtdglpnpkgngcdaaGreatProg
import Derived.Test.YtdglpnpkgngcdaaGreatA3
import Derived.RangeFuncNested
import Derived.RangeFuncBound
import Derived.RangeFuncCalls
import Derived.RangeFuncLeaves
import Derived.Shelf.Abstract
import Derived.Shelf.RegionOpen
import Derived.WalkKit
import Derived.OwnWalkIn
import Derived.TacticsInMore
import Derived.LoopNIn
import Derived.LoopIn
import Derived.Test.YtdglpnpkgngcdaaGreatM1
set_option linter.unusedVariables false
namespace Go.AM.B1
open Go.AM
end Go.AM.B1
namespace Go.AM.B1
open Go.AM
def b_shape_Count:AFn:=⟨1,[.tmp 2],(.seq (.region [Co 1 (.boxR 2 (.t 0)),Co 2 (.move (.c (.int .i64 0)))]) (.seq (.seq (.region [Cp 3 (.load true 2 (.t 1)),Co 4 (.callP F_shape_Valid [(.t 3)]),Co 5 (.un .not (.t 4))]) (.cond (.t 5) (.seq (.region [Co 2 (.move (.c (.int .i64 0)))]) (.ret)) (.skip))) (.seq (.region [Cp 6 (.load true 2 (.t 1)),Co 7 (.callP F_shape_steps [(.t 6)]),Co 8 (.iaddr 1 (.t 7) (.c (.int .i64 0))),Co 9 (.load false 1 (.t 8)),Cv 2 9]) (.ret))))⟩
theorem fn_shape_Count:FnOk P fo 66 b_shape_Count:=fM Go.Proofs.Tryz.func66 (dC p_shape_Valid (dC p_shape_steps dN)) (by kernel_rfl) (by kernel_rfl)
def F_shape_Count:List PV→Option PV:=pureF (fun _=>none) b_shape_Count
theorem p_shape_Count:PureFn P 66 F_shape_Count:=pureF_ok noTable fn_shape_Count
end Go.AM.B1
set_option linter.unusedSimpArgs false
namespace Go.AM.B1
open Go.AM
def pairV:PV→Option (Int×Int)
 | .agg [.int .i64 a,.int .i64 b]=>some (a,b)
 |_=>none
def pairsL:PV→Option (List (Int×Int))
 | .nils=>some []
 | .lit 2 es=>mapO pairV es
 |_=>none
def memFrom (fr:Int) (p:Int×Int):List Int:=if p.2 < fr then [] else (List.range (p.2 - max p.1 fr+1).toNat).map fun (i:Nat)=>max p.1 fr+(i:Int)
def smallP (p:Int×Int):Bool:=decide (-4611686018427387904≤p.1∧p.1≤p.2∧p.2≤4611686018427387904)
def I_sets_All:List PV→Option (List (List PV))
 | [.rp [l] 0,.rp [.int .i64 fr] 0]=>(pairsL l).bind fun ps=>if ps.all smallP&&decide (-4611686018427387904≤fr∧fr≤4611686018427387904∧ps.length≤4611686018427387904) then some ((ps.flatMap (memFrom fr)).map fun x=>[.int .i64 x]) else none
 |_=>none
theorem caps_inv {caps:List PV} {xs:List (List PV)} (h:I_sets_All caps=some xs):∃ l fr ps,caps=[.rp [l] 0,.rp [.int .i64 fr] 0]∧pairsL l=some ps∧(∀ p∈ps,-4611686018427387904≤p.1∧p.1≤p.2∧p.2≤4611686018427387904)∧(-4611686018427387904≤fr∧fr≤4611686018427387904∧ps.length≤4611686018427387904)∧xs=(ps.flatMap (memFrom fr)).map fun x=>[.int .i64 x]:=by
 unfold I_sets_All at h
 split at h
 ·rename_i l fr
  rw[Option.bind_eq_some_iff] at h
  obtain⟨ps,h1,h2⟩:=h
  split at h2
  ·rename_i hc
   simp only[Bool.and_eq_true,decide_eq_true_eq,List.all_eq_true,smallP] at hc
   injection h2 with h2
   exact⟨l,fr,ps,rfl,h1,hc.1,hc.2,h2.symm⟩
  ·cases h2
 ·cases h
theorem list_inv {R:Rd} {l:PV} {ps:List (Int×Int)} {v:Value} (hp:pairsL l=some ps) (h:PRel R l v):∃ a cap,v= .slice a ps.length cap∧
 ∀ (R':Rd),(PRel R' l v)→∀ (k:Nat) (p:Int×Int),ps[k]? =some p→∃ b o,a=some ⟨b,o,none⟩∧R' b (o+k * 2)=some (.int .i64 p.1)∧R' b (o+k * 2+1)=some (.int .i64 p.2):=by
 unfold pairsL at hp
 split at hp
 ·injection hp with hp;subst hp
  cases h
  exact⟨none,0,rfl,fun _ _ k p hk=>by simp at hk⟩
 ·rename_i es
  have hlen:es.length=ps.length:=by
   clear h
   induction es generalizing ps with
   |nil=>simp[mapO] at hp;subst hp;rfl
   |cons e es ih=>
    simp only[mapO,Option.bind_eq_some_iff,Option.some.injEq] at hp
    obtain⟨q,_,qs,h2,rfl⟩:=hp
    simp[ih h2]
  have hget:∀ (k:Nat) (p:Int×Int),ps[k]? =some p→es[k]? =some (.agg [.int .i64 p.1,.int .i64 p.2]):=by
   clear h hlen
   induction es generalizing ps with
   |nil=>simp[mapO] at hp;subst hp;intro k p h;simp at h
   |cons e es ih=>
    simp only[mapO,Option.bind_eq_some_iff,Option.some.injEq] at hp
    obtain⟨q,h1,qs,h2,rfl⟩:=hp
    intro k p h
    cases k with
    |zero=>
     simp at h;subst h
     unfold pairV at h1
     split at h1
     ·injection h1 with h1;subst h1;rfl
     ·cases h1
    |succ k=>simpa using ih h2 k p (by simpa using h)
  have cells:∀ (R':Rd) (b o:Nat),RRel R' (flat es) b o→∀ (k:Nat) (p:Int×Int),ps[k]? =some p→R' b (o+k * 2)=some (.int .i64 p.1)∧R' b (o+k * 2+1)=some (.int .i64 p.2):=by
   intro R' b o hr k p hk
   have he:=hget k p hk
   have hfl:∀ e∈es,e.cells.length=2:=by
    intro e hem
    obtain⟨j,hj⟩:=List.mem_iff_getElem?.1 hem
    have hlt:=getElem?_lt hj
    obtain⟨q,hq⟩:∃ q,ps[j]? =some q:=⟨ps[j]'(by omega),List.getElem?_eq_getElem _⟩
    have:=hget j q hq
    rw[hj] at this
    injection this with this
    subst this;rfl
   have h0:=flat_get hfl he
   have g0:(flat es)[k * 2]? =some (.int .i64 p.1):=by
    have:=congrArg (fun l=>l[0]?) h0
    simpa[List.getElem?_take,PV.cells] using this
   have g1:(flat es)[k * 2+1]? =some (.int .i64 p.2):=by
    have:=congrArg (fun l=>l[1]?) h0
    simpa[List.getElem?_take,PV.cells] using this
   obtain⟨v0,a1,a2⟩:=hr.get g0
   obtain⟨v1,b1,b2⟩:=hr.get g1
   cases a2;cases b2
   exact⟨a1,b1⟩
  cases h with
  |lit _ _ b o cap h1 h2 h3=>
   refine⟨some ⟨b,o,none⟩,cap,by rw[hlen],fun R' hR' k p hk=>⟨b,o,rfl,?_⟩⟩
   generalize hv:Value.slice (some (⟨b,o,none⟩:Addr)) es.length cap=v at hR'
   cases hR' with
   |lit _ _ b' o' cap' _ _ h3'=>cases hv;exact cells R' b o h3' k p hk
   |lit0 _ a=>simp at hlen;have:=getElem?_lt hk;omega
  |lit0 _ a=>
   refine⟨some a,0,by rw[← hlen];rfl,fun R' hR' k p hk=> ?_⟩
   have:=getElem?_lt hk
   simp at hlen
   omega
 ·cases hp
theorem box_inv {R:Rd} {c:PV} {v:Value} (h:PRel R (.rp [c] 0) v):∃ b o u,v= .pointer (some ⟨b,o,none⟩)∧R b o=some u∧PRel R c u∧∀ R':Rd,PRel R' (.rp [c] 0) v→∃ u',R' b o=some u'∧PRel R' c u':=by
 cases h with
 |rp _ _ b o hr=>
  cases hr with
  |cons _ _ _ _ u h1 h2 h3 h4=>
   refine⟨b,o,u,rfl,h1,h3,fun R' h'=> ?_⟩
   generalize hv:Value.pointer (some (⟨b,o+0,none⟩:Addr))=v at h'
   cases h' with
   |rp _ _ b' o' hr'=>
    cases hr' with
    |cons _ _ _ _ u' k1 k2 k3 k4=>
     simp at hv
     obtain⟨rfl,rfl⟩:=hv
     exact⟨u',k1,k3⟩
end Go.AM.B1
namespace Go.Proofs
open Go.RowKit Go.Shelf
attribute [local go_sem] Oper.semAt_some
set_option maxRecDepth 100000 in
set_option maxHeartbeats 2000000 in
theorem all_iter:AM.IterFn Tryz.prog 162 AM.B1.I_sets_All:=by
 refine⟨⟨_,_,Tryz.func162,rfl,by kernel_rfl⟩,fun caps vs xs hF hfl R l J Jx W hLR hsub hJ hJx hRd hY h0=> ?_⟩
 obtain⟨lv,fr,ps,rfl,hps,hb,hfr,hxs⟩:=AM.B1.caps_inv hF
 obtain⟨v1,v2,rfl,hv1,hv2⟩:∃ v1 v2,vs=[v1,v2]∧AM.PRel R (.rp [lv] 0) v1∧AM.PRel R (.rp [.int .i64 fr] 0) v2:=by
  cases hLR with | cons _ _ v1 _ h1 h2=>cases h2 with | cons _ _ v2 _ h3 h4=>cases h4;exact⟨v1,v2,rfl,h1,h3⟩
 have hv1':=hv1
 have hv2':=hv2
 obtain⟨b1,o1,sl,rfl,hR1,hsl,hbx1⟩:=AM.B1.box_inv hv1
 obtain⟨b2,o2,fv,rfl,hR2,hfv,hbx2⟩:=AM.B1.box_inv hv2
 cases hfv
 obtain⟨a,cap,rfl,hels⟩:=AM.B1.list_inv hps hsl
 have hfrom:∀ i T A,J i T A→A.cell? ⟨b2,o2,none⟩=some (.int .i64 fr):=by
  intro i T A h
  obtain⟨R',hs,hp⟩:=hRd i T A h
  obtain⟨u,h1,h2⟩:=hbx2 R' (hp _ _ hv2')
  cases h2
  exact hs _ _ _ h1
 have hread:∀ i T A,J i T A→∀ (k:Nat) (p:Int×Int),ps[k]? =some p→∃ b o,a=some ⟨b,o,none⟩∧A.cell? ⟨b,o+k * 2,none⟩=some (.int .i64 p.1)∧A.cell? ⟨b,o+k * 2+1,none⟩=some (.int .i64 p.2):=by
  intro i T A h k p hk
  obtain⟨R',hs,hp⟩:=hRd i T A h
  obtain⟨b,o,h1,h2,h3⟩:=hels R' (hp _ _ hsl) k p hk
  exact⟨b,o,h1,hs _ _ _ h2,hs _ _ _ h3⟩
 have hlist:W.cell? ⟨b1,o1,none⟩=some (.slice a ps.length cap):=hsub _ _ _ hR1
 refine (callsIn_wide (n:=1)).1 (callsIn_of_wp Tryz.func162 rfl trivial ?_ rfl)
 simp only[Tryz.ntmps162,List.size_toArray,List.length_cons,List.length_nil,Nat.reduceAdd,Nat.reduceSub,Array.replicate_succ,Array.replicate_zero,List.push_toArray,List.append_toArray,List.nil_append,List.cons_append]
 refine wpIn_wide.2 (wp_scope_straight ((wpIn_wide (n:=1)).1 ?_))
 gi_wp2
 refine wpIn_label ?_
 gi_wp2
 gi_loopw [9] (fun iv wr=>∃ (k:Nat) (T:Nat→Prop),iv= .int .i64 (k:Int)∧k≤ps.length∧J ((ps.take k).flatMap (AM.B1.memFrom fr)).length T wr) (fun iv _=>ps.length - (intOf iv).toNat)
 case atStart=>exact⟨0,_,rfl,Nat.zero_le _,h0⟩
 case round=>
  obtain⟨k,T,rfl,hk,hJk⟩:=hrel
  obtain⟨w0,hw0⟩:∃ w0,w0=wr:=⟨_,rfl⟩
  subst hw0
  rcases Nat.lt_or_ge k ps.length with hlt | hge
  ·have hpk:=List.getElem?_eq_getElem hlt
   have hbd:=hb _ (List.getElem_mem hlt)
   have htake:ps.take (k+1)=ps.take k++[ps[k]]:=by rw[List.take_add_one,hpk];rfl
   obtain⟨b,o,rfl,hc1,hc2⟩:=hread _ T w0 hJk k _ hpk
   generalize ps[k]=p at hc1 hc2 hbd htake hpk
   obtain⟨lo,hi⟩:=p
   dsimp only at hc1 hc2 hbd
   have hlen:((ps.take (k+1)).flatMap (AM.B1.memFrom fr)).length=((ps.take k).flatMap (AM.B1.memFrom fr)).length+(AM.B1.memFrom fr (lo,hi)).length:=by rw[htake];simp
   have hi1:(k:Int) < (ps.length:Int):=by omega
   obtain⟨W2,hW2⟩:∃ W2,W2=w0.alloc (.cells #[.int .i64 lo,.int .i64 hi] 258):=⟨_,rfl⟩
   have hB2:Below w0.heap.size w0 W2:=by rw[hW2];exact (Below.refl _ w0).alloc (Nat.le_refl _) _
   have hJ2:J ((ps.take k).flatMap (AM.B1.memFrom fr)).length (fun q=>T q∨q=w0.heap.size) W2:=hJ _ T w0 W2 _ hJk hB2 fun q hq=>hq.imp id fun e=>by subst e;rw[hW2];simp
   have hcf:=hfrom _ _ W2 hJ2
   have hx2:W2.heap[w0.heap.size]? =some (.cells #[.int .i64 lo,.int .i64 hi] 258):=by rw[hW2];show (w0.heap.push _)[w0.heap.size]? =_;simp
   rw[hW2] at hcf
   by_cases hfh:hi < fr
   ·have hm0:(AM.B1.memFrom fr (lo,hi)).length=0:=by simp[AM.B1.memFrom,hfh]
    gi_wp2
    rw[hm0,Nat.add_zero] at hlen
    rw[hW2] at hJ2
    exact⟨⟨k+1,_,by simp,by omega,by rw[hlen];exact hJ2⟩,by simp[intOf];omega⟩
   ·have hmem:AM.B1.memFrom fr (lo,hi)=(List.range (hi - max lo fr+1).toNat).map fun (i:Nat)=>max lo fr+(i:Int):=by simp[AM.B1.memFrom,hfh]
    have hmlen:(AM.B1.memFrom fr (lo,hi)).length=(hi - max lo fr+1).toNat:=by rw[hmem];simp
    have hget:∀ j:Nat,j < (hi - max lo fr+1).toNat→xs[((ps.take k).flatMap (AM.B1.memFrom fr)).length+j]? =some [.int .i64 (max lo fr+j)]:=by
     intro j hj
     have hsp:ps=ps.take k++(lo,hi)::ps.drop (k+1):=by
      rw[List.getElem?_eq_getElem hlt] at hpk
      injection hpk with hpk
      rw[← hpk,←List.drop_eq_getElem_cons hlt,List.take_append_drop]
     rw[hxs,List.getElem?_map]
     have:(ps.flatMap (AM.B1.memFrom fr))[((ps.take k).flatMap (AM.B1.memFrom fr)).length+j]? =(AM.B1.memFrom fr (lo,hi))[j]? :=by
      conv=>lhs;arg 1;rw[hsp]
      rw[List.flatMap_append,List.flatMap_cons,List.getElem?_append_right (by omega),Nat.add_sub_cancel_left,List.getElem?_append_left (by rw[hmlen];exact hj)]
     rw[this,hmem,List.getElem?_map,List.getElem?_range hj]
     rfl
    generalize hbase:((ps.take k).flatMap (AM.B1.memFrom fr)).length=base at *
    obtain⟨M,hM⟩:∃ M,max lo fr=M:=⟨_,rfl⟩
    rw[hM] at hget hmlen
    gi_wp2
    gi_loopw [6] (fun xv wq=>∃ j:Nat,xv= .int .i64 (M+j)∧j≤(hi - M+1).toNat∧J (base+j) (fun q=>T q∨q=w0.heap.size) wq∧wq.heap[w0.heap.size]? =some (.cells #[.int .i64 lo,.int .i64 hi] 258)) (fun xv _=>(hi+1 - intOf xv).toNat)
    case atStart=>
     exact⟨0,by simp,Nat.zero_le _,by rw[← hW2];exact hJ2,by rw[← hW2];exact hx2⟩
    case round=>
     obtain⟨j,rfl,hj,hJj,hbx⟩:=hrel
     have hcell:wr.cell? ⟨w0.heap.size,1,none⟩=some (.int .i64 hi):=by simp[World.cell?,hbx]
     by_cases hxle:M+j≤hi
     ·have hj':j < (hi - M+1).toNat:=by omega
      obtain⟨fn,tmps,assign,body,hy,hR⟩:=hY (base+j) _ _ wr (hget j hj') hJj
      dsimp only[AM.encVs,AM.encV] at hy
      gi_wp2
      refine hR.mono ?_
      rintro e W3 (⟨rfl,hJ3,hk3⟩ | ⟨rfl,hJx3⟩)
      ·gi_wp2
       exact⟨⟨j+1,congrArg _ (by omega),by omega,hJ3,by rw[hk3 _ (.inr rfl)];exact hbx⟩,by simp[intOf];omega⟩
      ·gi_wp2
       simp only[Exit.noGoto]
       exact⟨rfl,_,results_none rfl _ _ _,⟨_,rfl⟩,.inr hJx3⟩
     ·gi_wp2
      have hje:j=(hi - M+1).toNat:=by omega
      rw[hmlen,←hje] at hlen
      exact⟨⟨k+1,_,congrArg _ (by omega),by omega,by rw[hlen];exact hJj⟩,by simp[intOf];omega⟩
  ·obtain rfl:k=ps.length:=by omega
   gi_wp2
   simp only[Exit.noGoto]
   refine⟨rfl,_,results_none rfl _ _ _,⟨_,rfl⟩,.inl ⟨T,?_⟩⟩
   rw[hxs,List.length_map]
   rw[List.take_length] at hJk
   exact hJk
end Go.Proofs
namespace Go.Proofs
open Go.Shelf Go.RowKit Go.Lib Go.Sort
shelf_lay_g SlLaysF0.n6 Slsf 6 at Tryz 68 as Tryz.sortRow
theorem encI3 (r:List Int):∃ a b c:Int,AM.encI 3 r=[.int .i64 a,.int .i64 b,.int .i64 c]∧AM.keyI 3 0 r=a:=by
 unfold AM.encI AM.keyI
 by_cases h:r.length=3
 ·match r,h with
  | [a,b,c],_=>exact⟨a,b,c,rfl,rfl⟩
 ·rw[if_neg h,if_neg h];exact⟨0,0,0,rfl,rfl⟩
set_option maxHeartbeats 1000000 in
theorem rowCmp (a b c d e f:Int) (W:World):Calls Tryz.prog 69 #[.agg #[.int .i64 a,.int .i64 b,.int .i64 c],.agg #[.int .i64 d,.int .i64 e,.int .i64 f]] W fun x w'=>x= .returned (.int .i64 (Lib.compareInt a d))∧∃ q os',w'=grow (W.drewN q) os':=by
 have hcon:=fun W'=>AnyG.cmp_Compare_int Tryz.cmpInt a d W'
 change ∀ W',Calls Tryz.prog 70 _ _ _ at hcon
 generalize Lib.compareInt a d=r at hcon ⊢
 go_enter Tryz.func69,Tryz.ntmps69
 go_wp2_with (go_at_call 70;refine (hcon _).mono ?_;rintro e w' ⟨rfl,rfl⟩)
 go_ret
 exact⟨rfl,0,_,by rw[alloc_eq_grow,alloc_eq_grow,grow_grow];rfl⟩
theorem rowSort:AM.SortFn Tryz.prog 68 69 3 0 where
 call:=⟨_,_,Tryz.func68,rfl,by kernel_rfl⟩
 many:=by
  intro blk ofs cap D w hH hb hs
  refine AnyQ.slices_SortFunc_eq Tryz.sortRow 3 Tryz.isAgg57 Tryz.sizeOf57 (AM.encI 3) (fun x=>by obtain⟨a,b,c,h,_⟩:=encI3 x;rw[h];rfl) (fun x v hv=>by
   obtain⟨a,b,c,h,_⟩:=encI3 x
   rw[h] at hv
   simp at hv
   rcases hv with rfl | rfl | rfl <;> rfl) (AM.cfI 3 0) (AM.swoI 3 0) 69 #[] blk ofs cap D w (enters_of Tryz.func69 (by kernel_rfl) rfl) (fun m os dk _ x y=> ?_) hH hb hs
  obtain⟨a,b,c,h1,h2⟩:=encI3 x
  obtain⟨d,e,f,h3,h4⟩:=encI3 y
  rw[h1,h3]
  unfold AM.cfI
  rw[h2,h4]
  exact rowCmp a b c d e f _
 none:=fun p cap w=>AnyF.slices_SortFunc_none Tryz.sortRow p cap _ w
end Go.Proofs
