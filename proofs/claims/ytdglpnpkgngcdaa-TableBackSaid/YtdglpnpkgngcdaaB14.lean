/- What functions of the program compute. -/
import Derived.Test.YtdglpnpkgngcdaaB13
import Derived.Test.YtdglpnpkgngcdaaB4
import Derived.Test.YtdglpnpkgngcdaaB11
import Derived.Test.YtdglpnpkgngcdaaA3
import Derived.Test.YtdglpnpkgngcdaaRows
set_option linter.unusedVariables false
set_option linter.unusedSimpArgs false
namespace Go.AM.B1
open Go.AM Go.AM.So
theorem matS_take {s:Shp} {w:List Nat} (h:matS s w) (m:Nat):matS s (w.take m):=matS_pre (u:=w.drop m) (by rw[List.take_append_drop];exact h)
theorem knows_sem {ss:List Shp} {l:List (List Edg)} (hok:SchOk ss) (hpre:PreOk ss) (ha:autoS ss=some l) {w:List Nat} (hw:Bytes w) {s:Shp} (hs:s∈ss) (hf:Full s w):
 (∀ more,Bytes more→matchS l 0 0 (nts (w++more))=((w.length:Int),1))∧∀ i,i < w.length→matchS l 0 0 (nts (w.take i))=((i:Int),2):=by
 have hno:∀ q∈ss,∀ u,Bytes u→Full q u→∀ v,matS s (u++v)→¬u.length < w.length:=by
  intro q hq u hu h1 v h2 h3
  refine pre_no hok hpre hq hs hu h1 (matS_pre h2) ?_
  have:=hf.2;have:=h1.2;omega
 have hno2:∀ q∈ss,∀ v,matS q (w++v)→v≠[]→False:=by
  intro q hq v h2 h3
  refine pre_no hok hpre hs hq hw hf (matS_pre h2) ?_
  have h4:=matS_len h2
  rw[List.length_append] at h4
  have:=hf.2
  have:0 < v.length:=by cases v with | nil=>exact absurd rfl h3 | cons=>simp
  omega
 have hlo:=(hok.shp s hs).lo
 have hl:=hf.2
 constructor
 ·intro more hm
  have hb:Bytes (w++more):=fun x hx=>by rcases List.mem_append.1 hx with h | h;exact hw x h;exact hm x h
  obtain⟨m,hmle,hc⟩:=match_sem hok hpre ha _ hb
  have htk:∀ k,w.length < k→k≤(w++more).length→∃ v,(w++more).take k=w++v∧v≠[]:=by
   intro k h1 h2
   refine⟨more.take (k - w.length),by rw[List.take_append,List.take_of_length_le (by omega)],fun e=> ?_⟩
   have h3:(more.take (k - w.length)).length=0:=by rw[e];rfl
   rw[List.length_append] at h2
   rw[List.length_take] at h3;omega
  have htl:∀ k,k≤w.length→(w++more).take k=w.take k:=fun k hk=>by rw[List.take_append_of_le_length hk]
  rcases hc with⟨h1,q,h2,h3⟩ | ⟨h1,h2,h3,h4⟩ | ⟨h1,h2,h3,h4,h5⟩
  ·have:m=w.length:=by
    rcases Nat.lt_trichotomy m w.length with h6 | h6 | h6
    ·rw[htl m (by omega)] at h3
     exact absurd (by rw[List.length_take];omega) (hno q h2 (w.take m) (fun x hx=>hw x (List.mem_of_mem_take hx)) h3 (w.drop m) (by rw[List.take_append_drop];exact hf.1))
    ·exact h6
    ·obtain⟨v,e,hv⟩:=htk m h6 hmle
     rw[e] at h3;exact (hno2 q h2 v h3.1 hv).elim
   rw[← this];exact h1
  ·exfalso
   by_cases hm0:more=[]
   ·subst hm0;rw[List.append_nil] at h4;exact h4 s hs hf
   ·rcases h3 with h3 | ⟨q,h5,h6⟩
    ·have:=congrArg List.length h3;simp at this;exact hm0 this.2
    ·exact hno2 q h5 more h6 hm0
  ·exfalso
   have h6:w.length≤m:=by
    rcases Nat.lt_or_ge m w.length with h7 | h7
    ·exact absurd (by rw[htl _ (by omega)];exact matS_take hf.1 _) (h5 s hs)
    ·exact h7
   rcases Nat.lt_or_ge w.length m with h7 | h7
   ·obtain⟨v,e,hv⟩:=htk m h7 hmle
    rw[e] at h3
    rcases h3 with h3 | ⟨q,h8,h9⟩
    ·have:=congrArg List.length h3;simp at this;exact hv this.2
    ·exact hno2 q h8 v h9 hv
   ·have:m=w.length:=by omega
    subst this
    rw[htl _ (Nat.le_refl _),List.take_length] at h4
    exact h4 s hs hf
 ·intro i hi
  have hb:Bytes (w.take i):=fun x hx=>hw x (List.mem_of_mem_take hx)
  obtain⟨m,hmle,hc⟩:=match_sem hok hpre ha _ hb
  have hil:(w.take i).length=i:=by rw[List.length_take];omega
  have hm1:matS s (w.take i):=matS_take hf.1 i
  rcases hc with⟨h1,q,h2,h3⟩ | ⟨h1,h2,h3,h4⟩ | ⟨h1,h2,h3,h4,h5⟩
  ·exact absurd (by rw[List.length_take,hil];omega) (hno q h2 ((w.take i).take m) (fun x hx=>hb x (List.mem_of_mem_take hx)) h3 ((w.take i).drop m++w.drop i) (by rw[← List.append_assoc,List.take_append_drop,List.take_append_drop];exact hf.1))
  ·rw[h2,hil] at h1;exact h1
  ·exact absurd (matS_take hm1 _) (h5 s hs)
end Go.AM.B1
namespace Go.AM.B1
open Go.AM Go.AM.So
theorem inj_one {ss:List Shp} (hok:SchOk ss) (hinj:InjOk ss) {i j:Nat} (hi:i < ss.length) (hj:j < ss.length) {w:List Nat} (hw:Bytes w) (h1:Full ss[i] w) (h2:Full ss[j] w):i=j:=by
 have key:∀ i j (hi:i < ss.length) (hj:j < ss.length),i < j→Full ss[i] w→Full ss[j] w→False:=by
  intro i j hi hj hlt h1 h2
  have e:ss[i].parts.length=ss[j].parts.length:=by rw[← h1.2,←h2.2]
  have:=hinj i j hi hj hlt e
  rw[meets_of (hok.shp _ (List.getElem_mem hi)) (hok.shp _ (List.getElem_mem hj)) (by omega) hw h1 h2.1] at this
  cases this
 rcases Nat.lt_trichotomy i j with h | h | h
 ·exact (key i j hi hj h h1 h2).elim
 ·exact h
 ·exact (key j i hj hi h h2 h1).elim
theorem decT_at {b:List Int}:∀ {ss:List Shp} {i:Nat} (hi:i < ss.length) {k:Int},rankS ss[i] b=some k→(∀ j (hj:j < ss.length),(rankS ss[j] b).isSome→j=i)→decT b ss=some (ss[i].first+k)
 |s::ss,0,_,k,hk,_=>by
  have hk:rankS s b=some k:=hk
  rw[decT,hk];rfl
 |s::ss,i+1,hi,k,hk,h=>by
  have hn:rankS s b=none:=by
   cases hr:rankS s b with
   |none=>rfl
   |some x=>have:=h 0 (by simp) (by show (rankS s b).isSome=true;rw[hr];rfl);omega
  rw[decT,hn]
  exact decT_at (ss:=ss) (i:=i) (by simpa using hi) hk fun j hj hs=>by have:=h (j+1) (by simpa using hj) hs;omega
theorem rank_unrank:∀ (ls:List (List (Int×Int))) (bs:List Int) (n r:Int),(∀ l∈ls,PartOk l)→bs.length=ls.length→rankGo ls bs n=some r→unrankGo ls (r - n)=bs
 | [],bs,n,r,_,hl,h=>by
   cases bs with
   |nil=>rfl
   |cons=>cases hl
 |l::ls,[],n,r,_,hl,_=>by cases hl
 |l::ls,x::bs,n,r,hp,hl,h=>by
  have hpl:=hp l (by simp)
  have hpr:=fun y (hy:y∈ls)=>hp y (by simp[hy])
  rw[rankGo] at h
  split at h
  ·next hc=>
   have hb:=rankR_bound (x:=x) (n:=0) hpl.2 hc
   have hp1:=prodS_pos hpr
   obtain⟨b1,b2⟩:=rankGo_bound ls bs _ _ hpr h
   have ih:=rank_unrank ls bs _ r hpr (by simpa using hl) h
   obtain⟨d,hd⟩:∃ d,d=(rankR x 0 l).1:=⟨_,rfl⟩
   rw[← hd] at hb b1 b2 ih h
   have hm0:0≤d * prodS ls:=Int.mul_nonneg hb.1 (by omega)
   have e1:(r - n).tdiv (prodS ls)=d:=by
    rw[Int.tdiv_eq_ediv_of_nonneg (by omega)]
    have:r - n=(r - (n+d * prodS ls))+d * prodS ls:=by omega
    rw[this,Int.add_mul_ediv_right _ _ (by omega),Int.ediv_eq_zero_of_lt (by omega) (by omega),Int.zero_add]
   have e2:(r - n).tmod (prodS ls)=r - (n+d * prodS ls):=by
    rw[Int.tmod_eq_emod_of_nonneg (by omega)]
    have:r - n=(r - (n+d * prodS ls))+d * prodS ls:=by omega
    rw[this,Int.add_mul_emod_self_right,Int.emod_eq_of_lt (by omega) (by omega)]
   rw[unrankGo,e1,e2,ih]
   congr 1
   obtain⟨y,q1,_,_,_,q5⟩:=selR_some hpl.2 (k:=d) hb.1 (by omega)
   rw[q1,Option.getD_some]
   obtain⟨k1,g1,g2⟩:=memP_of_rank (n:=0) hpl.2 hc
   obtain⟨k2,g3,g4⟩:=memP_of_rank (n:=0) (x:=y) hpl.2 (by rw[q5])
   rw[q5] at g4
   simp only at g4
   have:k1=k2:=by omega
   subst this
   rw[g1] at g3
   exact (Option.some.inj g3).symm
  ·cases h
theorem rankS_some {s:Shp} (h:ShpOk s) {b:List Int} {k:Int} (hk:rankS s b=some k):has s (s.first+k)∧unrankGo s.parts k=b:=by
 unfold rankS at hk
 split at hk
 ·next hl=>
  obtain⟨h1,h2⟩:=rankGo_bound _ _ _ _ h.parts hk
  have:=rank_unrank _ _ _ _ h.parts hl hk
  rw[Int.sub_zero] at this
  exact⟨⟨by omega,by omega⟩,this⟩
 ·cases hk
theorem rankS_one {ss:List Shp} (hok:SchOk ss) (hinj:InjOk ss) {w:List Nat} (hw:Bytes w) {i:Nat} (hi:i < ss.length) (h:(rankS ss[i] (nts w)).isSome) (j:Nat) (hj:j < ss.length) (h2:(rankS ss[j] (nts w)).isSome):j=i:=
 inj_one hok hinj hj hi hw ((rankS_full (hok.shp _ (List.getElem_mem hj)) w).1 h2) ((rankS_full (hok.shp _ (List.getElem_mem hi)) w).1 h)
theorem dec_enc {ss:List Shp} (hok:SchOk ss) (hinj:InjOk ss) {u:Int} {w:List Nat} (hw:Bytes w) (h:cdS u ss=some (nts w)):decT (nts w) ss=some u∧∃ s∈ss,Full s w:=by
 obtain⟨s,hs,h1,h2,h3,h4,_,_⟩:=cdS_some hok.shp h
 obtain⟨i,hi,rfl⟩:=List.getElem_of_mem hs
 have hsome:(rankS ss[i] (nts w)).isSome:=by rw[h4];rfl
 have:=decT_at hi h4 (rankS_one hok hinj hw hi hsome)
 rw[this]
 exact⟨by congr 1;omega,_,hs,(rankS_full (hok.shp _ hs) w).1 hsome⟩
theorem enc_dec {ss:List Shp} (hok:SchOk ss) (hinj:InjOk ss) {w:List Nat} (hw:Bytes w) {s:Shp} (hs:s∈ss) (hf:Full s w):∃ v,decT (nts w) ss=some v∧cdS v ss=some (nts w):=by
 obtain⟨i,hi,rfl⟩:=List.getElem_of_mem hs
 have hsome:=(rankS_full (hok.shp _ hs) w).2 hf
 obtain⟨k,hk⟩:=Option.isSome_iff_exists.1 hsome
 obtain⟨h1,h2⟩:=rankS_some (hok.shp _ hs) hk
 refine⟨ss[i].first+k,decT_at hi hk (rankS_one hok hinj hw hi hsome),?_⟩
 rw[cdS_at hok hi h1,show ss[i].first+k - ss[i].first=k by omega,h2]
theorem most_le {ss:List Shp} {s:Shp} (hs:s∈ss):s.parts.length≤mostN ss:=by
 have key:∀ (ss:List Shp) (m:Nat),m≤ss.foldl (fun m s=>if s.parts.length > m then s.parts.length else m) m∧∀ s∈ss,s.parts.length≤ss.foldl (fun m s=>if s.parts.length > m then s.parts.length else m) m:=by
  intro ss
  induction ss with
  |nil=>intro m;exact⟨Nat.le_refl _,by simp⟩
  |cons a ss ih=>
   intro m
   rw[List.foldl_cons]
   obtain⟨x,hx,hm,ha⟩:∃ x,x=(if a.parts.length > m then a.parts.length else m)∧m≤x∧a.parts.length≤x:=⟨_,rfl,by split <;> omega,by split <;> omega⟩
   rw[← hx]
   obtain⟨h1,h2⟩:=ih x
   refine⟨by omega,fun s hs=> ?_⟩
   rcases List.mem_cons.1 hs with rfl | hs
   ·omega
   ·exact h2 s hs
 exact (key ss 0).2 s hs
theorem bytes_str (w:List Nat):∃ x:ByteArray,∀ H,b2sA H (.pv (.lit 1 ((nts w).map u8)))=some x:=by
 have key:∀ w:List Nat,∃ l,bytesOf ((nts w).map u8)=some l:=by
  intro w
  induction w with
  |nil=>exact⟨[],rfl⟩
  |cons a w ih=>
   obtain⟨l,hl⟩:=ih
   refine⟨UInt8.ofNat (a:Int).toNat::l,?_⟩
   show (bytesOf ((nts w).map u8)).map _=_
   rw[hl];rfl
 obtain⟨l,hl⟩:=key w
 refine⟨⟨l.toArray⟩,fun H=> ?_⟩
 show (bytesOf ((nts w).map u8)).map _=_
 rw[hl];rfl
theorem str_self (x:ByteArray):(x.data.toList==x.data.toList)=true:=by simp
end Go.AM.B1
namespace Go.AM.B1
open Go.AM Go.AM.So
theorem encShps_held {ss:List Shp} (h:∀ s∈ss,∀ l∈s.parts,l.length≤1000) (h2:∀ s∈ss,s.parts.length≤1000) (h3:ss.length≤1000):HeldSch (.lit 2 (ss.map encShp)) ss (ss.map encShp):=by
 refine⟨.inr rfl,by rw[List.length_map],fun k e s he hs=> ?_,by unfold maxLen;omega⟩
 rw[List.getElem?_map,hs] at he
 injection he with he
 have hm:=List.mem_of_getElem? hs
 refine⟨_,_,he.symm,.inr rfl,by rw[List.length_map],fun j v l hv hl=> ?_,by have:=h2 s hm;unfold maxLen;omega⟩
 rw[List.getElem?_map,hl] at hv
 injection hv with hv
 have:=h s hm l (List.mem_of_getElem? hl)
 exact⟨.inr hv.symm,by omega⟩
theorem compiled_of {ss:List Shp} {l:List (List Edg)} {a b c d:Int} (hh:HeldSch (.lit 2 (ss.map encShp)) ss (ss.map encShp)) (hv:F_scheme_Valid [.agg [.lit 2 (ss.map encShp)]]=some (.bool true)) (hp:F_clash_Prefix [.agg [.lit 2 (ss.map encShp)]]=some (.tup [.agg [.bool true,i64 a,i64 b],i64 0]))
 (hi:F_clash_Inject [.agg [.lit 2 (ss.map encShp)]]=some (.tup [.agg [.bool true,i64 c,i64 d],i64 0])) (ha:autoS ss=some l):
 SchOk ss∧∃ T,F_table_Compile [.agg [.lit 2 (ss.map encShp)]]=some (.tup [T,i64 0])∧TblIs T ss l∧∀ e∈l,EdgesOk e:=by
 obtain⟨x,h1,h2⟩:=scheme_valid_run hh
 rw[hv] at h1
 injection h1 with h1
 injection h1 with h1
 have hok:=h2.1 h1.symm
 obtain⟨y,a',b',h3,h4⟩:=(prefix_run hh).2 hok
 rw[hp] at h3
 injection h3 with h3
 injection h3 with h3
 injection h3 with h3 _
 injection h3 with h3
 injection h3 with h3 _
 injection h3 with h3
 have hpre:=h4.1 h3.symm
 obtain⟨T,t1,t2⟩:=compile_ok hh hok hpre ha hi
 exact⟨hok,T,t1,t2,edges_ok hok hpre ha⟩
def doc15:List Shp:=[⟨[[(194,223)],[(128,191)]],128⟩,⟨[[(0,127)]],0⟩]
theorem doc15_valid:F_scheme_Valid [.agg [.lit 2 (doc15.map encShp)]]=some (.bool true):=by kernel_rfl
theorem doc15_prefix:F_clash_Prefix [.agg [.lit 2 (doc15.map encShp)]]=some (.tup [.agg [.bool true,i64 0,i64 0],i64 0]):=by kernel_rfl
theorem doc15_inject:F_clash_Inject [.agg [.lit 2 (doc15.map encShp)]]=some (.tup [.agg [.bool true,i64 0,i64 0],i64 0]):=by kernel_rfl
theorem doc15_auto:autoS doc15=some [[⟨0,127,-1⟩,⟨194,223,1⟩],[⟨128,191,-1⟩]]:=by kernel_rfl
theorem doc15_rows:rowsD doc15=[[0,127,1],[128,2047,0]]:=by kernel_rfl
end Go.AM.B1
namespace Go.AM.B1
open Go.AM
def b_leadtraillaw15_TableBack:AFn:=⟨3,[.tmp 6],(.seq (.region [Co 3 (.boxR 1 (.t 0)),Co 6 (.move (.c (.bool false)))]) (.seq (.seq (.region [Co 21 (.callP F_leadtraillaw15_fixed []),Co 22 (.un .not (.t 21))]) (.cond (.t 22) (.seq (.region [Co 6 (.move (.c (.bool false)))]) (.ret)) (.skip))) (.seq (.region [Cp 24 (.load true 1 (.t 3)),Co 25 (.callP F_table_Compile [(.t 24)]),Cv 23 25,Co 26 (.ext 0 (.t 23)),Co 27 (.ext 1 (.t 23)),Cv 7 26,Cv 8 27]) (.seq (.seq (.region [Cv 28 8,Co 29 (.bin .neq (.t 28) (.c (.int .i64 0))),Cv 30 29,Cg 31 30 false (.move (.t 7)),Cg 32 30 false (.eq 1 false (.t 31) (.c .nilp)),Co 33 (.pick (.t 30) (.c (.bool true)) (.t 32))]) (.cond (.t 33) (.seq (.region [Cv 34 7,Co 35 (.eq 1 false (.t 34) (.c .nilp)),Cv 36 35,Cg 37 36 true (.move (.t 8)),Cg 38 36 true (.bin .neq (.t 37) (.c (.int .i64 0))),Co 39 (.pick (.t 36) (.t 38) (.c (.bool false))),Cv 6 39]) (.ret)) (.skip))) (.seq (.region [Cv 41 7,Cv 42 1,Co 43 (.callP F_table_Table_Encode [(.t 41),(.t 42)]),Cv 40 43,Co 44 (.ext 0 (.t 40)),Co 45 (.ext 1 (.t 40)),Cv 9 44,Cv 10 45]) (.seq (.seq (.region [Cv 46 10]) (.cond (.t 46) (.seq (.region [Cv 48 7,Cv 49 9,Co 50 (.callP F_table_Table_Match [(.t 48),(.t 49)]),Cv 47 50,Co 51 (.ext 0 (.t 47)),Co 52 (.ext 1 (.t 47)),Cv 11 51,Cv 12 52]) (.seq (.region [Cv 54 7,Cv 55 9,Co 56 (.callP F_table_Table_Decode [(.t 54),(.t 55)]),Cv 53 56,Co 57 (.ext 0 (.t 53)),Co 58 (.ext 1 (.t 53)),Cv 13 57,Cv 14 58]) (.seq (.region [Cv 59 14,Co 60 (.un .not (.t 59)),Cv 61 60,Cg 62 61 false (.move (.t 13)),Cg 63 61 false (.move (.t 1)),Cg 64 61 false (.bin .neq (.t 62) (.t 63)),Co 65 (.pick (.t 61) (.c (.bool true)) (.t 64)),Cv 66 65,Cg 67 66 false (.move (.t 11)),Cg 68 66 false (.move (.t 9)),Cg 69 66 false (.len 0 (.t 68)),Cg 70 66 false (.bin .neq (.t 67) (.t 69)),Co 71 (.pick (.t 66) (.c (.bool true)) (.t 70)),Cv 72 71,Cg 73 72 false (.move (.t 12)),Cg 74 72 false (.bin .neq (.t 73) (.c (.int .i64 1))),Co 75 (.pick (.t 72) (.c (.bool true)) (.t 74)),Cv 76 75,Cg 77 76 false (.move (.t 11)),Cg 78 76 false (.move (.t 7)),Cg 79 76 false (.callP F_table_Table_Longest [(.t 78)]),Cg 80 76 false (.bin .gtr (.t 77) (.t 79)),Co 81 (.pick (.t 76) (.c (.bool true)) (.t 80))]) (.cond (.t 81) (.seq (.region [Co 6 (.move (.c (.bool false)))]) (.ret)) (.skip))))) (.skip))) (.seq (.region [Cv 83 7,Cv 84 2,Co 85 (.callP F_table_Table_Match [(.t 83),(.t 84)]),Cv 82 85,Co 86 (.ext 0 (.t 82)),Co 87 (.ext 1 (.t 82)),Cv 15 86,Cv 16 87]) (.seq (.seq (.region [Cv 88 16,Co 89 (.bin .neq (.t 88) (.c (.int .i64 1)))]) (.cond (.t 89) (.seq (.region [Co 6 (.move (.c (.bool true)))]) (.ret)) (.skip))) (.seq (.region [Cv 91 7,Cv 92 2,Cv 93 15,Co 94 (.slice 1 (.t 92) none (some (.t 93))),Co 95 (.callP F_table_Table_Decode [(.t 91),(.t 94)]),Cv 90 95,Co 96 (.ext 0 (.t 90)),Co 97 (.ext 1 (.t 90)),Cv 17 96,Cv 18 97]) (.seq (.region [Cv 99 7,Cv 100 17,Co 101 (.callP F_table_Table_Encode [(.t 99),(.t 100)]),Cv 98 101,Co 102 (.ext 0 (.t 98)),Co 103 (.ext 1 (.t 98)),Cv 19 102,Cv 20 103]) (.seq (.region [Cv 104 18,Cv 105 104,Cg 106 105 true (.move (.t 20)),Co 107 (.pick (.t 105) (.t 106) (.c (.bool false))),Cv 108 107,Cg 109 108 true (.move (.t 19)),Cq 110 108 true (.b2s (.t 109)),Cg 111 108 true (.move (.t 2)),Cg 112 108 true (.move (.t 15)),Cq 113 108 true (.slice 1 (.t 111) none (some (.t 112))),Cq 114 108 true (.b2s (.t 113)),Cg 115 108 true (.bin .eql (.t 110) (.t 114)),Co 116 (.pick (.t 108) (.t 115) (.c (.bool false))),Cv 6 116]) (.ret))))))))))))⟩
theorem fn_leadtraillaw15_TableBack:FnOk P fo 3 b_leadtraillaw15_TableBack:=fM Go.Proofs.Try.func3 (dC p_leadtraillaw15_fixed (dC p_table_Compile (dC p_table_Table_Encode (dC p_table_Table_Match (dC p_table_Table_Decode (dC p_table_Table_Longest (dC p_table_Table_Match (dC p_table_Table_Decode (dC p_table_Table_Encode dN))))))))) (by kernel_rfl) (by kernel_rfl)
def F_leadtraillaw15_TableBack:List PV→Option PV:=pureF (fun _=>none) b_leadtraillaw15_TableBack
theorem p_leadtraillaw15_TableBack:PureFn P 3 F_leadtraillaw15_TableBack:=pureF_ok noTable fn_leadtraillaw15_TableBack
end Go.AM.B1
namespace Go.AM.B1
open Go.AM Go.AM.So
theorem fixed15_run:F_leadtraillaw15_fixed []=some (.bool true):=by
 obtain⟨hok,T,h1,hT,_⟩:=compiled_of (encShps_held (by decide) (by decide) (by decide)) doc15_valid doc15_prefix doc15_inject doc15_auto
 have he:=tenc_run hT hok 233
 rw[show cdS 233 doc15=some [195,169] from by decide] at he
 have hB:HeldB (.lit 1 [u8 195,u8 169]) [195,169]:=⟨.inr rfl,by decide⟩
 have hd:=tdec_run hT hok hB
 rw[show decT [195,169] doc15=some 233 from by decide] at hd
 obtain⟨RW,hr,hRW⟩:=trows_run hT hok
 rw[doc15_rows] at hRW
 have hRW:RW= .lit 3 [.agg [i64 0,i64 127,i64 1],.agg [i64 128,i64 2047,i64 0]]:=by
  rcases hRW with⟨_,h⟩ | h
  ·cases h
  ·exact h
 subst hRW
 have hl:=tlong_run hT
 rw[show mostN doc15=2 from by decide] at hl
 have hdoc:(.lit 2 (doc15.map encShp):PV)= .lit 2 [.agg [.lit 1 [.lit 2 [.agg [i64 194,i64 223]],.lit 2 [.agg [i64 128,i64 191]]],i64 128],.agg [.lit 1 [.lit 2 [.agg [i64 0,i64 127]]],i64 0]]:=rfl
 rw[hdoc] at h1
 have he:F_table_Table_Encode [T,i64 233]=some (.tup [.lit 1 [u8 195,u8 169],.bool true]):=he
 obtain⟨S',NX,DG,RW,rfl,_⟩:=hT.ex
 generalize ([S',encSt [[⟨0,127,-1⟩,⟨194,223,1⟩],[⟨128,191,-1⟩]],NX,DG,RW,i64 (mostN doc15)]:List PV)=R at *
 have hb2:∀ H,b2sA H (.pv (.lit 1 [u8 195,u8 169]))=some ⟨#[195,169]⟩:=fun H=>rfl
 have z:strBin .eql ⟨#[195,169]⟩ ⟨#[195,169]⟩=some (.bool true):=rfl
 have i0:idxOk 0 2=True:=eq_true (by unfold idxOk;decide)
 have i1:idxOk 1 2=True:=eq_true (by unfold idxOk;decide)
 have k1:eqKd (.row [1,1,1]) (.agg [i64 0,i64 127,i64 1]) (.agg [.int .i64 0,.int .i64 127,.int .i64 1])=some true:=rfl
 have k2:eqKd (.row [1,1,1]) (.agg [i64 128,i64 2047,i64 0]) (.agg [.int .i64 128,.int .i64 2047,.int .i64 0])=some true:=rfl
 simp (implicitDefEqProofs:=false) only[F_leadtraillaw15_fixed,SP,SA,SQ,WP,WQ,sevalprocAttr,-List.reduceReplicate,b_leadtraillaw15_fixed,h1,he,hd,hr,hl,eqA,hb2,z,i0,i1,k1,k2]
theorem str_eq (x:ByteArray):strBin .eql x x=some (.bool true):=by
 show some (PV.bool (x.data.toList==x.data.toList))=_
 rw[str_self]
theorem nts_held (w:List Nat) (hw:Bytes w):HeldB (.lit 1 ((nts w).map u8)) (nts w):=⟨.inr rfl,fun b hb=>by
 obtain⟨n,hn,rfl⟩:=List.mem_map.1 hb
 have:=hw n hn
 omega⟩
theorem back_run {S:PV} {ss:List Shp} {es:List PV} (hS:HeldSch S ss es) (u:Int) {B:PV} {bs:List Int} (hB:HeldB B bs) (hw:bs.length≤maxLen):
 pureF (fun _=>none) b_leadtraillaw15_TableBack [.agg [S],i64 u,B]=some (.bool true):=by
 have hS1:(AV.pv S).one=true:=by rcases hS.is with⟨h,_⟩ | h <;> rw[h] <;> rfl
 have hfx:=fixed15_run
 have hB1:=hB.one
 obtain⟨T,n,hc,⟨h0,rfl⟩ | ⟨rfl,hok,hpre,hinj,l,ha,hT,ho⟩⟩:=table_ans hS
 ·have d1:(n != 0)=true:=by simp[h0]
  simp (implicitDefEqProofs:=false) only[SP,SA,WP,sevalprocAttr,-List.reduceReplicate,b_leadtraillaw15_TableBack,hfx,hS1,rp1_loadA,hc,d1,eqA]
 ·have z0:((0:Int) != 0)=false:=rfl
  have hl:=tlong_run hT
  have henc:=tenc_run hT hok u
  have hdec:=fun {B:PV} {bs:List Int} (hB:HeldB B bs)=>tdec_run hT hok hB
  have hmat:=fun {B:PV} {bs:List Int} (hB:HeldB B bs) (hw:bs.length≤maxLen)=>tmatch_run hT ho hB hw
  have hencv:=fun v=>tenc_run hT hok v
  obtain⟨R,hR⟩:∃ R,T= .rp R 0:=by
   obtain⟨S',NX,DG,RW,h,_⟩:=hT.ex
   exact⟨_,h⟩
  subst hR
  obtain⟨w,rfl,hwb⟩:=nts_of hB.rng
  have hwl:w.length≤maxLen:=by simpa using hw
  have hmr:=hmat hB hw
  obtain⟨m,hm,hcs⟩:=match_sem hok hpre ha w hwb
  have first:∃ V is,F_table_Table_Encode [.rp R 0,i64 u]=some (.tup [V,.bool is])∧(AV.pv V).one=true∧(is=true→∃ (es:List PV) (k:Nat),V= .lit 1 es∧es.length=k∧F_table_Table_Match [.rp R 0,.lit 1 es]=some (.tup [i64 k,i64 1])∧F_table_Table_Decode [.rp R 0,.lit 1 es]=some (.tup [i64 u,.bool true])∧k≤mostN ss):=by
   cases hcd:cdS u ss with
   |none=>exact⟨.nils,false,by rw[henc,hcd],rfl,fun h=>by cases h⟩
   |some b=>
    refine⟨.lit 1 (b.map u8),true,by rw[henc,hcd],rfl,fun _=> ?_⟩
    obtain⟨s,hs,_,_,_,_,hrng,hne⟩:=cdS_some hok.shp hcd
    obtain⟨w1,rfl,hw1⟩:=nts_of hrng
    obtain⟨k1,s',hs',hf⟩:=dec_enc hok hinj hw1 hcd
    have hB1:=nts_held w1 hw1
    have hk:=(knows_sem hok hpre ha hw1 hs' hf).1 [] (by intro x hx;cases hx)
    rw[List.append_nil] at hk
    have h8:=(hok.shp s' hs').hi
    refine⟨_,w1.length,rfl,by simp,?_,?_,?_⟩
    ·rw[hmat hB1 (by rw[List.length_map,hf.2];unfold maxLen;omega),hk]
    ·rw[hdec hB1,k1]
    ·rw[hf.2];exact most_le hs'
  obtain⟨V,is,f1,f2,f3⟩:=first
  have z1:((1:Int) != 1)=false:=rfl
  have zu:(u != u)=false:=by simp
  rcases hcs with⟨c1,s',hs',hf⟩ | ⟨c1,_⟩ | ⟨c1,_⟩
  ·rw[c1] at hmr
   obtain⟨B',b1,b2,b3⟩:=hB.take (n:=m) (by simpa using hm)
   rw[show (nts w).take m=nts (w.take m) from by simp[List.map_take]] at b2
   have hwm:Bytes (w.take m):=fun x hx=>hwb x (List.mem_of_mem_take hx)
   obtain⟨v,v1,v2⟩:=enc_dec hok hinj hwm hs' hf
   have hd2:=hdec b2
   rw[v1] at hd2
   have hd2:F_table_Table_Decode [.rp R 0,B']=some (.tup [i64 v,.bool true]):=hd2
   have he2:=hencv v
   rw[v2] at he2
   have hne:nts (w.take m)≠[]:=by
    intro e
    have h1:(nts (w.take m)).length=0:=by rw[e];rfl
    rw[List.length_map,hf.2] at h1
    have:=(hok.shp s' hs').lo
    omega
   have hBl:B'= .lit 1 ((nts (w.take m)).map u8):=by
    rcases b2.is with⟨_,h⟩ | h
    ·exact absurd (List.map_eq_nil_iff.1 h) hne
    ·exact h
   have he2:F_table_Table_Encode [.rp R 0,i64 v]=some (.tup [B',.bool true]):=by rw[hBl];exact he2
   obtain⟨x,hx⟩:=bytes_str (w.take m)
   rw[← hBl] at hx
   have hse:=str_eq x
   cases is with
   |false=>
    simp (implicitDefEqProofs:=false) only[SP,SA,WP,sevalprocAttr,-List.reduceReplicate,b_leadtraillaw15_TableBack,hfx,hS1,rp1_loadA,hc,z0,z1,eqA,f1,hmr,b1,hd2,he2,hx,hse]
   |true=>
    obtain⟨es,k,rfl,g1,g2,g3,g4⟩:=f3 rfl
    have zk:((k:Int) != (k:Int))=false:=by simp
    have zl:decide ((k:Int) > (mostN ss:Int))=false:=dec_f (by omega)
    simp (implicitDefEqProofs:=false) only[SP,SA,WP,sevalprocAttr,-List.reduceReplicate,b_leadtraillaw15_TableBack,hfx,hS1,rp1_loadA,hc,z0,z1,zu,zk,zl,eqA,f1,g1,g2,g3,hl,hmr,b1,hd2,he2,hx,hse]
  all_goals
   rw[c1] at hmr
   have zf:((2:Int) != 1)=true:=rfl
   have zg:((3:Int) != 1)=true:=rfl
   cases is with
   |false=>
    simp (implicitDefEqProofs:=false) only[SP,SA,WP,sevalprocAttr,-List.reduceReplicate,b_leadtraillaw15_TableBack,hfx,hS1,rp1_loadA,hc,z0,z1,zf,zg,eqA,f1,hmr]
   |true=>
    obtain⟨es,k,rfl,g1,g2,g3,g4⟩:=f3 rfl
    have zk:((k:Int) != (k:Int))=false:=by simp
    have zl:decide ((k:Int) > (mostN ss:Int))=false:=dec_f (by omega)
    simp (implicitDefEqProofs:=false) only[SP,SA,WP,sevalprocAttr,-List.reduceReplicate,b_leadtraillaw15_TableBack,hfx,hS1,rp1_loadA,hc,z0,z1,zf,zg,zu,zk,zl,eqA,f1,g1,g2,g3,hl,hmr]
end Go.AM.B1
set_option maxRecDepth 100000
namespace Go.Proofs.Ytdglpnpkgngcdaa
open Go.ChangeShapes Go.WideShapes Go.ChangeAt Go.RowKit Go.AM
theorem cells41:Try.prog.cellsOf 41=2:=by kernel_rfl
theorem bytes41:Try.prog.bytesOf 41=16:=by kernel_rfl
theorem cells42:Try.prog.cellsOf 42=1:=by kernel_rfl
theorem bytes42:Try.prog.bytesOf 42=24:=by kernel_rfl
theorem cells45:Try.prog.cellsOf 45=2:=by kernel_rfl
theorem bytes45:Try.prog.bytesOf 45=32:=by kernel_rfl
theorem sh_span {g:Nat} {row:List PV} (h:Sh Try.prog (g+2) 41 row):∃ p:Int×Int,elPV Try.prog 41 row=B1.pr p:=by
 rw[el_struct Try.underlying41]
 obtain⟨rows,hl,rfl,hr⟩:=sh_struct Try.underlying41 h
 match rows,hl with
 | [x,y],_=>
   obtain⟨a,rfl,_⟩:=sh_int Try.underlying3 (hr 0 _ x rfl rfl)
   obtain⟨b,rfl,_⟩:=sh_int Try.underlying3 (hr 1 _ y rfl rfl)
   exact⟨(a,b),rfl⟩
theorem listOf {α β:Type} {f:α→β}:∀ {es:List β},(∀ e∈es,∃ a,e=f a)→∃ l:List α,es=l.map f
 | [],_=>⟨[],rfl⟩
 |e::es,h=>by
  obtain⟨a,ha⟩:=h e (by simp)
  obtain⟨l,hl⟩:=listOf (es:=es) fun e he=>h e (by simp[he])
  exact⟨a::l,by rw[ha,hl];rfl⟩
theorem sh_spans {g:Nat} {row:List PV} (h:Sh Try.prog (g+3) 42 row):∃ (V:PV) (l:List (Int×Int)),row=[V]∧B1.HeldPart V l:=by
 rcases sh_slice Try.underlying42 h with rfl | ⟨es,rfl,h1,h2,h3⟩
 ·exact⟨_,[],rfl,.inl ⟨rfl,rfl⟩,Nat.zero_le _⟩
 ·obtain⟨l,hl⟩:=listOf (f:=B1.pr) (es:=es.map (elPV Try.prog 41)) (by
   intro e he
   obtain⟨r,hr,rfl⟩:=List.mem_map.1 he
   exact sh_span (h3 r hr))
  have hlen:l.length=es.length:=by have:=congrArg List.length hl;simpa using this.symm
  refine⟨_,l,rfl,.inr (by rw[cells41,hl]),?_⟩
  rw[hlen]
  rw[bytes41] at h2
  exact Nat.le_trans h2 (by decide)
theorem sh_each {R A:Type} {f:R→PV} {Q:PV→A→Prop}:∀ (es:List R),(∀ r∈es,∃ a,Q (f r) a)→∃ l:List A,l.length=es.length∧∀ (k:Nat) v a,(es.map f)[k]? =some v→l[k]? =some a→Q v a
 | [],_=>⟨[],rfl,by simp⟩
 |r::es,h=>by
  obtain⟨a,ha⟩:=h r (by simp)
  obtain⟨l,h1,h2⟩:=sh_each es fun x hx=>h x (by simp[hx])
  refine⟨a::l,by simp[h1],?_⟩
  intro k v b hv hb
  match k with
  |0=>simp at hv hb;subst hv hb;exact ha
  |k+1=>exact h2 k v b (by simpa using hv) (by simpa using hb)
theorem sh_parts {g:Nat} {row:List PV} (h:Sh Try.prog (g+4) 43 row):∃ (P:PV) (ls:List (List (Int×Int))) (ps:List PV),row=[P]∧B1.HeldParts P ls ps∧ls.length * 24≤140737488355328:=by
 rcases sh_slice Try.underlying43 h with rfl | ⟨es,rfl,h1,h2,h3⟩
 ·exact⟨_,[],[],rfl,⟨.inl ⟨rfl,rfl⟩,rfl,by simp,by simp⟩,by simp⟩
 ·obtain⟨l,hl,hq⟩:=sh_each (f:=elPV Try.prog 42) (Q:=B1.HeldPart) es (by
   intro r hr
   obtain⟨V,l,rfl,hV⟩:=sh_spans (h3 r hr)
   rw[el_slice Try.underlying42]
   exact⟨l,hV⟩)
  have hz:l.length * 24≤140737488355328:=by rw[bytes42] at h2;rw[hl];exact Nat.le_trans h2 (by decide)
  exact⟨_,l,es.map (elPV Try.prog 42),rfl,⟨.inr (by rw[cells42]),by rw[List.length_map,hl],hq,by unfold maxLen;omega⟩,hz⟩
theorem sh_shape {g:Nat} {row:List PV} (h:Sh Try.prog (g+5) 45 row):∃ (s:B1.Shp),(∃ P ps,B1.HeldShp (elPV Try.prog 45 row) s P ps)∧s.parts.length * 24≤140737488355328:=by
 rw[el_struct Try.underlying45]
 obtain⟨rows,hl,rfl,hr⟩:=sh_struct Try.underlying45 h
 match rows,hl with
 | [x,y],_=>
   obtain⟨P,ls,ps,rfl,hP,hz⟩:=sh_parts (hr 0 _ x rfl rfl)
   obtain⟨b,rfl,_⟩:=sh_int Try.underlying3 (hr 1 _ y rfl rfl)
   exact⟨⟨ls,b⟩,⟨P,ps,rfl,hP⟩,hz⟩
theorem sh_shapes {g:Nat} {row:List PV} (h:Sh Try.prog (g+6) 22 row):∃ (S:PV) (ss:List B1.Shp) (es:List PV),row=[S]∧B1.HeldSch S ss es∧B1.HeldSz ss:=by
 rcases sh_slice Try.underlying22 h with rfl | ⟨es,rfl,h1,h2,h3⟩
 ·exact⟨_,[],[],rfl,⟨.inl ⟨rfl,rfl⟩,rfl,by simp,by simp⟩,⟨by simp,by simp⟩⟩
 ·obtain⟨l,hl,hq⟩:=sh_each (f:=elPV Try.prog 45) (Q:=fun e s=>(∃ P ps,B1.HeldShp e s P ps)∧s.parts.length * 24≤140737488355328) es (fun r hr=>sh_shape (h3 r hr))
  have hz:l.length * 32≤140737488355328:=by rw[bytes45] at h2;rw[hl];exact Nat.le_trans h2 (by decide)
  refine⟨_,l,es.map (elPV Try.prog 45),rfl,⟨.inr (by rw[cells45]),by rw[List.length_map,hl],fun k e s he hs=>(hq k e s he hs).1,by unfold maxLen;omega⟩,hz,?_⟩
  intro s hs
  obtain⟨k,hk,rfl⟩:=List.getElem_of_mem hs
  exact (hq k _ _ (List.getElem?_eq_getElem (by rw[List.length_map];omega)) (List.getElem?_eq_getElem hk)).2
theorem sh_scheme {g:Nat} {row:List PV} (h:Sh Try.prog (g+7) 24 row):∃ (S:PV) (ss:List B1.Shp) (es:List PV),row=[S]∧B1.HeldSch S ss es∧B1.HeldSz ss:=by
 obtain⟨rows,hl,rfl,hr⟩:=sh_struct Try.underlying24 h
 match rows,hl with
 | [x],_=>
   obtain⟨S,ss,es,rfl,h1,h2⟩:=sh_shapes (hr 0 _ x rfl rfl)
   exact⟨S,ss,es,rfl,h1,h2⟩
theorem own:ownKnob Try.prog.godebug=none:=by kernel_rfl
theorem laidOut:laidOutB Try.prog=true:=by kernel_rfl
theorem cells5:Try.prog.cellsOf 5=1:=by kernel_rfl
theorem bytes5:Try.prog.bytesOf 5=1:=by kernel_rfl
theorem wf_u8 {n:Int} (h:(Lit.int .u8 n).wf=true):0≤n∧n≤255:=by
 simp only[Lit.wf,Bool.and_eq_true,decide_eq_true_eq] at h
 exact h
theorem sh_heldB {g:Nat} {row:List PV} (h:Sh Try.prog (g+2) 25 row):∃ (B:PV) (bs:List Int),row=[B]∧B1.HeldB B bs∧bs.length≤reachBytes:=by
 rcases sh_ints Try.underlying25 Try.underlying5 h with rfl | ⟨l,rfl,_,hl,hw⟩
 ·exact⟨_,[],rfl,⟨.inl ⟨rfl,rfl⟩,by simp⟩,Nat.zero_le _⟩
 ·rw[bytes5,Nat.mul_one] at hl
  exact⟨_,l,rfl,⟨.inr (by rw[cells5]),fun b hb=>wf_u8 (hw b hb)⟩,hl⟩
end Go.Proofs.Ytdglpnpkgngcdaa
