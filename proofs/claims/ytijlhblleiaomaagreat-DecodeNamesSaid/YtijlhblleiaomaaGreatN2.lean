/- What functions of the program compute. -/
import Derived.Test.YtijlhblleiaomaaGreatN1
import Derived.Test.YtijlhblleiaomaaGreatProg
import Derived.Test.YtijlhblleiaomaaGreatJ3
import Derived.RangeFuncNested
import Derived.RangeFuncBound
import Derived.RangeFuncCalls
import Derived.RangeFuncLeaves
import Derived.Shelf.Abstract
import Derived.Shelf.RegionOpen
import Derived.WalkKit
import Derived.OwnWalkIn
import Derived.TacticsInMore
import Derived.LoopNIn
import Derived.LoopIn
set_option linter.unusedVariables false
namespace Go.AM.B1
open Go.AM
def Mb:Ia:=(jQ [jK 35 .lss 34 256] (.seq (jX 35 2) (.seq (.block 3 (jQ [Cv 36 34,Co 37 (.fR 256 1 false (.t 33) (.t 34)),Cv 6 36,Cv 7 37] (jQ [Cv 38 7,jK 39 .geq 38 0] (jC 39 (.region [Cv 40 0,jz 41 40,jf 42 3 41,jl 43 1 42,Cv 44 5,Cv 45 6,Cv 46 3,Cv 47 7,ji 48 1 46 47,jl 49 1 48,ji 50 256 43 44,Co 51 (.kA 256 1 50 45),jS 1 51 49]) .skip)))) (.region [jK 52 .add 34 1,Cv 34 52]))))
def Jc:Ia:=(.seq (jQ [Cv 23 5,jK 24 .geq 23 0] (jX 24 0)) (.seq (.block 1 (.seq (jQ [Cv 27 0,jz 28 27,jf 29 3 28,jl 30 1 29,Cv 31 5,ji 32 256 30 31,jL 33 256 32,jk 34 0] (.block 2 (.Ll [0,3,4,5,33,34] Mb))) (jQ [Cv 54 4,Cv 55 0,jz 56 55,jf 57 3 56,jl 58 1 57,Cv 59 5,ji 60 256 58 59,jL 61 256 60,Co 62 (.lookup (.row (List.replicate 256 1)) (.int .i64 0) true (.t 54) (.t 61)),Cv 53 62,jx 63 0 53,jx 64 1 53,Cv 8 63,Cv 9 64] (.seq (jQ [Cv 65 9,jt 66 65] (jC 66 (jQ [Cv 67 5,Cv 8 67] (.region [Cv 68 4,Cv 69 0,jz 70 69,jf 71 3 70,jl 72 1 71,Cv 73 5,ji 74 256 72 73,jL 75 256 74,Cv 76 5,Ce (.Jq (.row (List.replicate 256 1)) (.t 68) (.t 75) (.t 76))])) .skip)) (.region [Cv 77 3,Cv 78 5,Cv 79 8,ji 80 1 77 78,jS 1 80 79]))))) (.region [Cv 25 5,jK 26 .sub 25 1,Cv 5 26])))
def xg:re:=⟨1,[.tmp 2],(jQ [jc 2 .qa] (jQ [Cv 10 0,jz 11 10,jf 12 2 11,jl 13 1 12,jn 14 0 13,Co 15 (.ye .own 1 false [(.int .i64 0)] 8 (.t 14) (.t 14)),Cv 3 15] (jQ [Co 16 (.AA),Cv 4 16] (.seq (jQ [Cv 17 0,jz 18 17,jf 19 2 18,jl 20 1 19,jn 21 0 20,jK 22 .sub 21 1,Cv 5 22] (.block 0 (.Ll [0,3,4,5] Jc))) (jr [Cv 81 3,Cv 2 81])))))⟩
theorem ur:zc P fo 92 xg:=fM Go.Proofs.Tryz.func92 dN
def mc:Ia:=(jQ [jK 9 .lss 8 256] (.seq (jX 9 0) (.seq (.block 1 (jQ [Cv 10 8,Co 11 (.fR 256 1 false (.t 7) (.t 8)),Cv 4 10,Cv 5 11] (.seq (jQ [Cv 12 5,jK 13 .eql 12 (-2)] (jC 13 (.exit 1) .skip)) (.seq (jQ [Cv 14 3,jn 15 0 14,Cv 6 15] (jQ [Cv 16 6,jK 17 .gtr 16 0,Cv 18 17,jT 19 18 (.km 3),jT 20 18 (.km 6),jT 21 18 (.kK .sub 20 1),jT 22 18 (.ki 3 19 21),jT 23 18 (.kf 2 22),jT 24 18 (.kl 1 23),jT 25 18 (.km 5),jT 26 18 (.kB .eql 24 25),ja 27 18 26,Cv 28 27,jT 29 28 (.km 3),jT 30 28 (.km 6),jT 31 28 (.kK .sub 30 1),jT 32 28 (.ki 3 29 31),jT 33 28 (.kf 1 32),jT 34 28 (.kl 1 33),jT 35 28 (.km 4),jT 36 28 (.kK .sub 35 1),jT 37 28 (.kB .eql 34 36),ja 38 28 37] (jC 38 (jQ [Cv 39 3,Cv 40 6,jK 41 .sub 40 1,Cv 42 4,ji 43 3 39 41,jf 44 1 43,jS 1 44 42] (.exit 1)) .skip))) (.region [Cv 45 3,Cv 46 4,Cv 47 4,Cv 48 5,Co 49 (.build [(.int .i64 0),(.int .i64 0),(.int .i64 0)] [(0,1,(.t 46)),(1,1,(.t 47)),(2,1,(.t 48))]),Co 50 (.Hb .lit 3 true 1 [(.int .i64 0),(.int .i64 0),(.int .i64 0)] [(0,(.t 49))]),Co 51 (.append true .own 3 true 24 (.t 45) (.t 50)),Cv 3 51]))))) (.region [jK 52 .add 8 1,Cv 8 52]))))
def qq:re:=⟨1,[.tmp 2],(jQ [jR 1 256 0,jc 2 .qa] (jQ [jc 3 .qa] (.ghost (.gK 3 3 true) (.seq (jQ [JL 7 256 1,jk 8 0] (.block 0 (.Ll [3,7,8] mc))) (jr [Cv 53 3,Cv 2 53])))))⟩
theorem pB:zc P fo 121 qq:=fM Go.Proofs.Tryz.func121 dN
def xm:=fc (fun _=>none) qq
theorem dD:Ga P 121 xm:=Na Lb pB
def Jb:Ia:=(jQ [jK 33 .lss 32 256] (.seq (jX 33 2) (.seq (.block 3 (jQ [Cv 34 32,Co 35 (.fR 256 1 false (.t 31) (.t 32)),Cv 8 34,Cv 9 35] (.seq (jQ [Cv 36 9,jK 37 .lss 36 0] (jC 37 (.exit 3) .skip)) (jQ [Cv 39 3,Cv 40 9,Co 41 (.lookup (.one 1) (.int .i64 0) true (.t 39) (.t 40)),Cv 38 41,jx 42 0 38,jx 43 1 38,Cv 10 42,Cv 11 43] (.seq (jQ [Cv 44 11,jt 45 44] (jC 45 (jQ [Cv 46 4,jn 47 0 46,Cv 10 47] (jQ [Cv 48 3,Cv 49 9,Cv 50 10,Ce (.Jq (.one 1) (.t 48) (.t 49) (.t 50))] (.region [Cv 51 4,Cv 52 9,Co 53 (.Hb .lit 1 false 1 [(.int .i64 0)] [(0,(.t 52))]),Co 54 (.ku 1 false 8 51 53),Cv 4 54]))) .skip)) (.region [Cv 55 8,Cv 56 10,Co 57 (.kA 256 1 7 55),jS 1 57 56])))))) (.region [jK 58 .add 32 1,Cv 32 58]))))
def oc:Ia:=(.seq (jQ [Cv 15 6,Cv 16 4,jn 17 0 16,jB 18 .lss 15 17] (jX 18 0)) (.seq (.block 1 (jQ [Cv 21 0,jz 22 21,jf 23 3 22,jl 24 1 23,Cv 25 4,Cv 26 6,ji 27 1 25 26,jl 28 1 27,ji 29 256 24 28,jL 30 256 29,Co 7 (.alloc (List.replicate 256 (.int .i64 0))),jS 256 7 30] (.seq (jQ [jL 31 256 7,jk 32 0] (.block 2 (.Ll [0,2,3,4,5,6,7,31,32] Jb))) (.region [jf 59 0 5,jl 60 1 59,jL 61 256 7,jp 62 xm 61,Co 63 (.Hb .lit 1 false 1 [.qa] [(0,(.t 62))]),Co 64 (.ku 1 false 24 60 63),jf 65 0 5,jS 1 65 64])))) (.region [Cv 19 6,jK 20 .add 19 1,Cv 6 20])))
def Wg:re:=⟨1,[.cell 2 true 1],(jQ [Co 2 (.alloc [.qa])] (jQ [Co 12 (.AA),Ce (.Jq (.one 1) (.t 12) (.c (.int .i64 0)) (.c (.int .i64 0))),Cv 13 12,Cv 3 13] (jQ [Co 14 (.Hb .uq 1 false 1 [(.int .i64 0)] [(0,(.c (.int .i64 0)))]),Cv 4 14] (jQ [Co 5 (.alloc [.qa])] (.ghost (.sy 5 0 1) (.seq (jQ [jk 6 0] (.block 0 (.Ll [0,2,3,4,5,6] oc))) (jr [jL 66 1 5,jS 1 2 66])))))))⟩
theorem Bs:zc P fo 93 Wg:=fM Go.Proofs.Tryz.func93 (dC dD dN)
def Ki:re:=⟨1,[.cell 2 true 1,.tmp 3],(jQ [jR 1 1 0,Co 2 (.alloc [.qa]),jk 3 0] (jQ [JL 8 1 1,jp 9 Gd 8,Cv 7 9,jx 10 0 7,jx 11 1 7,Co 4 (.alloc [(.bool false),(.int .i64 0),(.int .i64 0)]),jS 3 4 10,Cv 5 11] (.seq (.block 0 (jQ [Cv 13 5,jK 14 .neq 13 0,Cv 12 14] (jC 12 (jr [Co 15 (.build [.qa] []),Cv 16 5,jS 1 2 15,Cv 3 16]) (jQ [jf 18 0 4,jl 19 1 18,jt 20 19,Cv 17 20] (jC 17 (jr [Co 21 (.build [.qa] []),jS 1 2 21,jk 3 110]) .skip))))) (jQ [JL 22 1 1,jp 23 Pg 22,Co 24 (.AA),Co 25 (.build [.qa,.pq,.qa,.qa] [(0,1,(.t 23)),(1,1,(.t 24))]),Co 26 (.box 4 (.t 25)),Cv 6 26] (.ghost (.sy 26 2 2) (.ghost (.XD 26 3 256 true) (.seq (jQ [Cv 27 6,Co 28 (.Bd 28 [(.t 27)]),jt 29 28] (jC 29 (jr [Co 30 (.build [.qa] []),jS 1 2 30,jk 3 130]) .skip)) (jQ [Cv 31 6,Co 32 (.Bd 29 [(.t 31)])] (jr [Cv 33 6,Co 34 (.Bd 30 [(.t 33)]),jS 1 2 34,jk 3 0])))))))))⟩
theorem mB:zc P fo 62 Ki:=fM Go.Proofs.Tryz.func62 (dC Dz (dC mu dN))
def ua:Nat→Option re
 |26=>some Sc
 |27=>some jg
 |28=>some Je
 |29=>some xg
 |30=>some Wg
 |_=>none
theorem yz:Xh P fo ua:=by
 intro ix af h
 unfold ua at h
 split at h
 ·injection h with h;subst h;exact Rt
 ·injection h with h;subst h;exact Bq
 ·injection h with h;subst h;exact Es
 ·injection h with h;subst h;exact ur
 ·injection h with h;subst h;exact Bs
 ·cases h
def qd:=fc ua Ki
theorem fE:Ga P 62 qd:=Na yz mB
end Go.AM.B1
namespace Go.AM.B1
open Go.AM
end Go.AM.B1
namespace Go.AM.B1
open Go.AM
end Go.AM.B1
namespace Go.AM.B1
open Go.AM
def Zn:re:=⟨1,[.tmp 2],(jQ [jR 1 2 0,jk 2 0] (.seq (jQ [JL 3 2 1,jp 4 Rg 3,jt 5 4] (jC 5 (jr [jk 2 0]) .skip)) (jr [JL 6 2 1,jp 7 cj 6,Co 8 (.kj 1 7 0),jl 9 1 8,Cv 2 9])))⟩
theorem fA:zc P fo 65 Zn:=fM Go.Proofs.Tryz.func65 (dC Xk (dC ju dN))
def bl:=fc (fun _=>none) Zn
theorem gB:Ga P 65 bl:=Na Lb fA
end Go.AM.B1
set_option linter.unusedSimpArgs false
namespace Go.AM.B1
open Go.AM
def XC:PV→Option (Int×Int)
 | .agg [.int .i64 a,.int .i64 b]=>some (a,b)
 |_=>none
def rA:PV→Option (List (Int×Int))
 | .qa=>some []
 | .lit 2 es=>Va XC es
 |_=>none
def Zd (fr:Int) (p:Int×Int):List Int:=if p.2 < fr then [] else (List.range (p.2 - max p.1 fr+1).toNat).map fun (i:Nat)=>max p.1 fr+(i:Int)
def UD (p:Int×Int):Bool:=decide (-4611686018427387904≤p.1∧p.1≤p.2∧p.2≤4611686018427387904)
def Ei:List PV→Option (List (List PV))
 | [.rp [l] 0,.rp [.int .i64 fr] 0]=>(rA l).bind fun ps=>if ps.all UD&&decide (-4611686018427387904≤fr∧fr≤4611686018427387904∧ps.length≤4611686018427387904) then some ((ps.flatMap (Zd fr)).map fun x=>[.int .i64 x]) else none
 |_=>none
theorem eP {caps:List PV} {xs:List (List PV)} (h:Ei caps=some xs):∃ l fr ps,caps=[.rp [l] 0,.rp [.int .i64 fr] 0]∧rA l=some ps∧(∀ p∈ps,-4611686018427387904≤p.1∧p.1≤p.2∧p.2≤4611686018427387904)∧(-4611686018427387904≤fr∧fr≤4611686018427387904∧ps.length≤4611686018427387904)∧xs=(ps.flatMap (Zd fr)).map fun x=>[.int .i64 x]:=by
 unfold Ei at h
 split at h
 ·rename_i l fr
  rw[Option.bind_eq_some_iff] at h
  obtain⟨ps,h1,h2⟩:=h
  split at h2
  ·rename_i hc
   simp only[Bool.and_eq_true,decide_eq_true_eq,List.all_eq_true,UD] at hc
   injection h2 with h2
   exact⟨l,fr,ps,rfl,h1,hc.1,hc.2,h2.symm⟩
  ·cases h2
 ·cases h
theorem FN {R:Rd} {l:PV} {ps:List (Int×Int)} {v:Value} (hp:rA l=some ps) (h:Ea R l v):∃ a cap,v= .slice a ps.length cap∧
 ∀ (R':Rd),(Ea R' l v)→∀ (k:Nat) (p:Int×Int),ps[k]? =some p→∃ b o,a=some ⟨b,o,none⟩∧R' b (o+k * 2)=some (.int .i64 p.1)∧R' b (o+k * 2+1)=some (.int .i64 p.2):=by
 unfold rA at hp
 split at hp
 ·injection hp with hp;subst hp
  cases h
  exact⟨none,0,rfl,fun _ _ k p hk=>by simp at hk⟩
 ·rename_i es
  have hlen:es.length=ps.length:=by
   clear h
   induction es generalizing ps with
   |nil=>simp[Va] at hp;subst hp;rfl
   |cons e es ih=>
    simp only[Va,Option.bind_eq_some_iff,Option.some.injEq] at hp
    obtain⟨q,_,qs,h2,rfl⟩:=hp
    simp[ih h2]
  have hget:∀ (k:Nat) (p:Int×Int),ps[k]? =some p→es[k]? =some (.agg [.int .i64 p.1,.int .i64 p.2]):=by
   clear h hlen
   induction es generalizing ps with
   |nil=>simp[Va] at hp;subst hp;intro k p h;simp at h
   |cons e es ih=>
    simp only[Va,Option.bind_eq_some_iff,Option.some.injEq] at hp
    obtain⟨q,h1,qs,h2,rfl⟩:=hp
    intro k p h
    cases k with
    |zero=>
     simp at h;subst h
     unfold XC at h1
     split at h1
     ·injection h1 with h1;subst h1;rfl
     ·cases h1
    |succ k=>simpa using ih h2 k p (by simpa using h)
  have cells:∀ (R':Rd) (b o:Nat),we R' (flat es) b o→∀ (k:Nat) (p:Int×Int),ps[k]? =some p→R' b (o+k * 2)=some (.int .i64 p.1)∧R' b (o+k * 2+1)=some (.int .i64 p.2):=by
   intro R' b o hr k p hk
   have he:=hget k p hk
   have hfl:∀ e∈es,e.cells.length=2:=by
    intro e hem
    obtain⟨j,hj⟩:=List.mem_iff_getElem?.1 hem
    have hlt:=getElem?_lt hj
    obtain⟨q,hq⟩:∃ q,ps[j]? =some q:=⟨ps[j]'(by omega),List.getElem?_eq_getElem _⟩
    have:=hget j q hq
    rw[hj] at this
    injection this with this
    subst this;rfl
   have h0:=IF hfl he
   have g0:(flat es)[k * 2]? =some (.int .i64 p.1):=by
    have:=congrArg (fun l=>l[0]?) h0
    simpa[List.getElem?_take,PV.cells] using this
   have g1:(flat es)[k * 2+1]? =some (.int .i64 p.2):=by
    have:=congrArg (fun l=>l[1]?) h0
    simpa[List.getElem?_take,PV.cells] using this
   obtain⟨v0,a1,a2⟩:=hr.get g0
   obtain⟨v1,b1,b2⟩:=hr.get g1
   cases a2;cases b2
   exact⟨a1,b1⟩
  cases h with
  |lit _ _ b o cap h1 h2 h3=>
   refine⟨some ⟨b,o,none⟩,cap,by rw[hlen],fun R' hR' k p hk=>⟨b,o,rfl,?_⟩⟩
   generalize hv:Value.slice (some (⟨b,o,none⟩:Addr)) es.length cap=v at hR'
   cases hR' with
   |lit _ _ b' o' cap' _ _ h3'=>cases hv;exact cells R' b o h3' k p hk
   |Oy _ a=>simp at hlen;have:=getElem?_lt hk;omega
  |Oy _ a=>
   refine⟨some a,0,by rw[← hlen];rfl,fun R' hR' k p hk=> ?_⟩
   have:=getElem?_lt hk
   simp at hlen
   omega
 ·cases hp
theorem UJ {R:Rd} {c:PV} {v:Value} (h:Ea R (.rp [c] 0) v):∃ b o u,v= .pointer (some ⟨b,o,none⟩)∧R b o=some u∧Ea R c u∧∀ R':Rd,Ea R' (.rp [c] 0) v→∃ u',R' b o=some u'∧Ea R' c u':=by
 cases h with
 |rp _ _ b o hr=>
  cases hr with
  |cons _ _ _ _ u h1 h2 h3 h4=>
   refine⟨b,o,u,rfl,h1,h3,fun R' h'=> ?_⟩
   generalize hv:Value.pointer (some (⟨b,o+0,none⟩:Addr))=v at h'
   cases h' with
   |rp _ _ b' o' hr'=>
    cases hr' with
    |cons _ _ _ _ u' k1 k2 k3 k4=>
     simp at hv
     obtain⟨rfl,rfl⟩:=hv
     exact⟨u',k1,k3⟩
end Go.AM.B1
namespace Go.Proofs
open Go.RowKit Go.Shelf
attribute [local go_sem] Oper.semAt_some
set_option maxRecDepth 100000 in
set_option maxHeartbeats 2000000 in
theorem ZN:AM.Vl Tryz.prog 151 AM.B1.Ei:=by
 refine⟨⟨_,_,Tryz.func151,rfl,by kernel_rfl⟩,fun caps vs xs hF hfl R l J Jx W hLR hsub hJ hJx hRd hY h0=> ?_⟩
 obtain⟨lv,fr,ps,rfl,hps,hb,hfr,hxs⟩:=AM.B1.eP hF
 obtain⟨v1,v2,rfl,hv1,hv2⟩:∃ v1 v2,vs=[v1,v2]∧AM.Ea R (.rp [lv] 0) v1∧AM.Ea R (.rp [.int .i64 fr] 0) v2:=by
  cases hLR with | cons _ _ v1 _ h1 h2=>cases h2 with | cons _ _ v2 _ h3 h4=>cases h4;exact⟨v1,v2,rfl,h1,h3⟩
 have hv1':=hv1
 have hv2':=hv2
 obtain⟨b1,o1,sl,rfl,hR1,hsl,hbx1⟩:=AM.B1.UJ hv1
 obtain⟨b2,o2,fv,rfl,hR2,hfv,hbx2⟩:=AM.B1.UJ hv2
 cases hfv
 obtain⟨a,cap,rfl,hels⟩:=AM.B1.FN hps hsl
 have hfrom:∀ i T A,J i T A→A.cell? ⟨b2,o2,none⟩=some (.int .i64 fr):=by
  intro i T A h
  obtain⟨R',hs,hp⟩:=hRd i T A h
  obtain⟨u,h1,h2⟩:=hbx2 R' (hp _ _ hv2')
  cases h2
  exact hs _ _ _ h1
 have hread:∀ i T A,J i T A→∀ (k:Nat) (p:Int×Int),ps[k]? =some p→∃ b o,a=some ⟨b,o,none⟩∧A.cell? ⟨b,o+k * 2,none⟩=some (.int .i64 p.1)∧A.cell? ⟨b,o+k * 2+1,none⟩=some (.int .i64 p.2):=by
  intro i T A h k p hk
  obtain⟨R',hs,hp⟩:=hRd i T A h
  obtain⟨b,o,h1,h2,h3⟩:=hels R' (hp _ _ hsl) k p hk
  exact⟨b,o,h1,hs _ _ _ h2,hs _ _ _ h3⟩
 have hlist:W.cell? ⟨b1,o1,none⟩=some (.slice a ps.length cap):=hsub _ _ _ hR1
 refine (callsIn_wide (n:=1)).1 (callsIn_of_wp Tryz.func151 rfl trivial ?_ rfl)
 simp only[Tryz.ntmps151,List.size_toArray,List.length_cons,List.length_nil,Nat.reduceAdd,Nat.reduceSub,Array.replicate_succ,Array.replicate_zero,List.push_toArray,List.append_toArray,List.nil_append,List.cons_append]
 refine wpIn_wide.2 (wp_scope_straight ((wpIn_wide (n:=1)).1 ?_))
 gi_wp2
 refine wpIn_label ?_
 gi_wp2
 gi_loopw [9] (fun iv wr=>∃ (k:Nat) (T:Nat→Prop),iv= .int .i64 (k:Int)∧k≤ps.length∧J ((ps.take k).flatMap (AM.B1.Zd fr)).length T wr) (fun iv _=>ps.length - (intOf iv).toNat)
 case atStart=>exact⟨0,_,rfl,Nat.zero_le _,h0⟩
 case round=>
  obtain⟨k,T,rfl,hk,hJk⟩:=hrel
  obtain⟨w0,hw0⟩:∃ w0,w0=wr:=⟨_,rfl⟩
  subst hw0
  rcases Nat.lt_or_ge k ps.length with hlt | hge
  ·have hpk:=List.getElem?_eq_getElem hlt
   have hbd:=hb _ (List.getElem_mem hlt)
   have htake:ps.take (k+1)=ps.take k++[ps[k]]:=by rw[List.take_add_one,hpk];rfl
   obtain⟨b,o,rfl,hc1,hc2⟩:=hread _ T w0 hJk k _ hpk
   generalize ps[k]=p at hc1 hc2 hbd htake hpk
   obtain⟨lo,hi⟩:=p
   dsimp only at hc1 hc2 hbd
   have hlen:((ps.take (k+1)).flatMap (AM.B1.Zd fr)).length=((ps.take k).flatMap (AM.B1.Zd fr)).length+(AM.B1.Zd fr (lo,hi)).length:=by rw[htake];simp
   have hi1:(k:Int) < (ps.length:Int):=by omega
   obtain⟨W2,hW2⟩:∃ W2,W2=w0.alloc (.cells #[.int .i64 lo,.int .i64 hi] 244):=⟨_,rfl⟩
   have hB2:Below w0.heap.size w0 W2:=by rw[hW2];exact (Below.refl _ w0).alloc (Nat.le_refl _) _
   have hJ2:J ((ps.take k).flatMap (AM.B1.Zd fr)).length (fun q=>T q∨q=w0.heap.size) W2:=hJ _ T w0 W2 _ hJk hB2 fun q hq=>hq.imp id fun e=>by subst e;rw[hW2];simp
   have hcf:=hfrom _ _ W2 hJ2
   have hx2:W2.heap[w0.heap.size]? =some (.cells #[.int .i64 lo,.int .i64 hi] 244):=by rw[hW2];show (w0.heap.push _)[w0.heap.size]? =_;simp
   rw[hW2] at hcf
   by_cases hfh:hi < fr
   ·have hm0:(AM.B1.Zd fr (lo,hi)).length=0:=by simp[AM.B1.Zd,hfh]
    gi_wp2
    rw[hm0,Nat.add_zero] at hlen
    rw[hW2] at hJ2
    exact⟨⟨k+1,_,by simp,by omega,by rw[hlen];exact hJ2⟩,by simp[intOf];omega⟩
   ·have hmem:AM.B1.Zd fr (lo,hi)=(List.range (hi - max lo fr+1).toNat).map fun (i:Nat)=>max lo fr+(i:Int):=by simp[AM.B1.Zd,hfh]
    have hmlen:(AM.B1.Zd fr (lo,hi)).length=(hi - max lo fr+1).toNat:=by rw[hmem];simp
    have hget:∀ j:Nat,j < (hi - max lo fr+1).toNat→xs[((ps.take k).flatMap (AM.B1.Zd fr)).length+j]? =some [.int .i64 (max lo fr+j)]:=by
     intro j hj
     have hsp:ps=ps.take k++(lo,hi)::ps.drop (k+1):=by
      rw[List.getElem?_eq_getElem hlt] at hpk
      injection hpk with hpk
      rw[← hpk,←List.drop_eq_getElem_cons hlt,List.take_append_drop]
     rw[hxs,List.getElem?_map]
     have:(ps.flatMap (AM.B1.Zd fr))[((ps.take k).flatMap (AM.B1.Zd fr)).length+j]? =(AM.B1.Zd fr (lo,hi))[j]? :=by
      conv=>lhs;arg 1;rw[hsp]
      rw[List.flatMap_append,List.flatMap_cons,List.getElem?_append_right (by omega),Nat.add_sub_cancel_left,List.getElem?_append_left (by rw[hmlen];exact hj)]
     rw[this,hmem,List.getElem?_map,List.getElem?_range hj]
     rfl
    generalize hbase:((ps.take k).flatMap (AM.B1.Zd fr)).length=base at *
    obtain⟨M,hM⟩:∃ M,max lo fr=M:=⟨_,rfl⟩
    rw[hM] at hget hmlen
    gi_wp2
    gi_loopw [6] (fun xv wq=>∃ j:Nat,xv= .int .i64 (M+j)∧j≤(hi - M+1).toNat∧J (base+j) (fun q=>T q∨q=w0.heap.size) wq∧wq.heap[w0.heap.size]? =some (.cells #[.int .i64 lo,.int .i64 hi] 244)) (fun xv _=>(hi+1 - intOf xv).toNat)
    case atStart=>
     exact⟨0,by simp,Nat.zero_le _,by rw[← hW2];exact hJ2,by rw[← hW2];exact hx2⟩
    case round=>
     obtain⟨j,rfl,hj,hJj,hbx⟩:=hrel
     have hcell:wr.cell? ⟨w0.heap.size,1,none⟩=some (.int .i64 hi):=by simp[World.cell?,hbx]
     by_cases hxle:M+j≤hi
     ·have hj':j < (hi - M+1).toNat:=by omega
      obtain⟨fn,tmps,assign,body,hy,hR⟩:=hY (base+j) _ _ wr (hget j hj') hJj
      dsimp only[AM.Pm,AM.dO] at hy
      gi_wp2
      refine hR.mono ?_
      rintro e W3 (⟨rfl,hJ3,hk3⟩ | ⟨rfl,hJx3⟩)
      ·gi_wp2
       exact⟨⟨j+1,congrArg _ (by omega),by omega,hJ3,by rw[hk3 _ (.inr rfl)];exact hbx⟩,by simp[intOf];omega⟩
      ·gi_wp2
       simp only[Exit.noGoto]
       exact⟨rfl,_,results_none rfl _ _ _,⟨_,rfl⟩,.inr hJx3⟩
     ·gi_wp2
      have hje:j=(hi - M+1).toNat:=by omega
      rw[hmlen,←hje] at hlen
      exact⟨⟨k+1,_,congrArg _ (by omega),by omega,by rw[hlen];exact hJj⟩,by simp[intOf];omega⟩
  ·obtain rfl:k=ps.length:=by omega
   gi_wp2
   simp only[Exit.noGoto]
   refine⟨rfl,_,results_none rfl _ _ _,⟨_,rfl⟩,.inl ⟨T,?_⟩⟩
   rw[hxs,List.length_map]
   rw[List.take_length] at hJk
   exact hJk
end Go.Proofs
namespace Go.Proofs
open Go.Shelf Go.RowKit Go.Lib Go.Sort
shelf_lay_g SlLaysF0.n6 Slsf 6 at Tryz 67 as Tryz.Hn
theorem rJ (r:List Int):∃ a b c:Int,AM.encI 3 r=[.int .i64 a,.int .i64 b,.int .i64 c]∧AM.Kr 3 0 r=a:=by
 unfold AM.encI AM.Kr
 by_cases h:r.length=3
 ·match r,h with
  | [a,b,c],_=>exact⟨a,b,c,rfl,rfl⟩
 ·rw[if_neg h,if_neg h];exact⟨0,0,0,rfl,rfl⟩
set_option maxHeartbeats 1000000 in
theorem MR (a b c d e f:Int) (W:World):Calls Tryz.prog 68 #[.agg #[.int .i64 a,.int .i64 b,.int .i64 c],.agg #[.int .i64 d,.int .i64 e,.int .i64 f]] W fun x w'=>x= .returned (.int .i64 (Lib.compareInt a d))∧∃ q os',w'=grow (W.drewN q) os':=by
 have hcon:=fun W'=>AnyG.cmp_Compare_int Tryz.cmpInt a d W'
 change ∀ W',Calls Tryz.prog 69 _ _ _ at hcon
 generalize Lib.compareInt a d=r at hcon ⊢
 go_enter Tryz.func68,Tryz.ntmps68
 go_wp2_with (go_at_call 69;refine (hcon _).mono ?_;rintro e w' ⟨rfl,rfl⟩)
 go_ret
 exact⟨rfl,0,_,by rw[alloc_eq_grow,alloc_eq_grow,grow_grow];rfl⟩
theorem pQ:AM.bJ Tryz.prog 67 68 3 0 where
 call:=⟨_,_,Tryz.func67,rfl,by kernel_rfl⟩
 many:=by
  intro blk ofs cap D w hH hb hs
  refine AnyQ.slices_SortFunc_eq Tryz.Hn 3 Tryz.isAgg131 Tryz.sizeOf131 (AM.encI 3) (fun x=>by obtain⟨a,b,c,h,_⟩:=rJ x;rw[h];rfl) (fun x v hv=>by
   obtain⟨a,b,c,h,_⟩:=rJ x
   rw[h] at hv
   simp at hv
   rcases hv with rfl | rfl | rfl <;> rfl) (AM.ER 3 0) (AM.OR 3 0) 68 #[] blk ofs cap D w (enters_of Tryz.func68 (by kernel_rfl) rfl) (fun m os dk _ x y=> ?_) hH hb hs
  obtain⟨a,b,c,h1,h2⟩:=rJ x
  obtain⟨d,e,f,h3,h4⟩:=rJ y
  rw[h1,h3]
  unfold AM.ER
  rw[h2,h4]
  exact MR a b c d e f _
 none:=fun p cap w=>AnyF.slices_SortFunc_none Tryz.Hn p cap _ w
end Go.Proofs
