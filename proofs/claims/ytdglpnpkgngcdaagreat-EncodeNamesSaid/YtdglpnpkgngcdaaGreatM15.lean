/- What functions of the program compute. -/
import Derived.Test.YtdglpnpkgngcdaaGreatM12
import Derived.Test.YtdglpnpkgngcdaaGreatM7
import Derived.Test.YtdglpnpkgngcdaaGreatM8
import Derived.Test.YtdglpnpkgngcdaaGreatM11
import Derived.Test.YtdglpnpkgngcdaaGreatM13
import Derived.Test.YtdglpnpkgngcdaaGreatM14
import Derived.Test.YtdglpnpkgngcdaaGreatA3
import Derived.Test.YtdglpnpkgngcdaaGreatRows
set_option linter.unusedVariables false
set_option linter.unusedSimpArgs false
namespace Go.AM.B1
open Go.AM Go.AM.So
theorem HeldB.take {B:PV} {bs:List Int} (h:HeldB B bs) {n:Nat} (hn:n≤bs.length):∃ B',(∀ H,sliceA H 1 (.pv B) none (some (n:Int))=some (.pv B'))∧HeldB B' (bs.take n)∧(AV.pv B').one=true:=by
 rcases h.is with⟨rfl,hb⟩ | rfl
 ·have:bs=[]:=by simpa using hb
  subst this
  have:n=0:=by simpa using hn
  subst this
  exact⟨.nils,fun H=>rfl,⟨.inl ⟨rfl,rfl⟩,by simp⟩,rfl⟩
 ·refine⟨.lit 1 ((bs.take n).map (PV.int .u8)),fun H=> ?_,⟨.inr rfl,fun b hb=>h.rng b (List.mem_of_mem_take hb)⟩,rfl⟩
  simp only[sliceA,Option.getD_some,Option.getD_none]
  rw[if_pos ⟨by omega,trivial,by omega,by omega,by simp;omega⟩]
  simp[List.map_take]
end Go.AM.B1
namespace Go.AM.B1
open Go.AM Go.AM.So
end Go.AM.B1
namespace Go.AM.B1
open Go.AM Go.AM.So
end Go.AM.B1
namespace Go.AM.B1
open Go.AM Go.AM.So
theorem encShps_held {ss:List Shp} (h:∀ s∈ss,∀ l∈s.parts,l.length≤1000) (h2:∀ s∈ss,s.parts.length≤1000) (h3:ss.length≤1000):HeldSch (.lit 2 (ss.map encShp)) ss (ss.map encShp):=by
 refine⟨.inr rfl,by rw[List.length_map],fun k e s he hs=> ?_,by unfold maxLen;omega⟩
 rw[List.getElem?_map,hs] at he
 injection he with he
 have hm:=List.mem_of_getElem? hs
 refine⟨_,_,he.symm,.inr rfl,by rw[List.length_map],fun j v l hv hl=> ?_,by have:=h2 s hm;unfold maxLen;omega⟩
 rw[List.getElem?_map,hl] at hv
 injection hv with hv
 have:=h s hm l (List.mem_of_getElem? hl)
 exact⟨.inr hv.symm,by omega⟩
theorem compiled_of {ss:List Shp} {l:List (List Edg)} {a b c d:Int} (hh:HeldSch (.lit 2 (ss.map encShp)) ss (ss.map encShp)) (hv:F_scheme_Valid [.agg [.lit 2 (ss.map encShp)]]=some (.bool true)) (hp:F_clash_Prefix [.agg [.lit 2 (ss.map encShp)]]=some (.tup [.agg [.bool true,i64 a,i64 b],i64 0]))
 (hi:F_clash_Inject [.agg [.lit 2 (ss.map encShp)]]=some (.tup [.agg [.bool true,i64 c,i64 d],i64 0])) (ha:autoS ss=some l):
 SchOk ss∧∃ T,F_table_Compile [.agg [.lit 2 (ss.map encShp)]]=some (.tup [T,i64 0])∧TblIs T ss l∧∀ e∈l,EdgesOk e:=by
 obtain⟨x,h1,h2⟩:=scheme_valid_run hh
 rw[hv] at h1
 injection h1 with h1
 injection h1 with h1
 have hok:=h2.1 h1.symm
 obtain⟨y,a',b',h3,h4⟩:=(prefix_run hh).2 hok
 rw[hp] at h3
 injection h3 with h3
 injection h3 with h3
 injection h3 with h3 _
 injection h3 with h3
 injection h3 with h3 _
 injection h3 with h3
 have hpre:=h4.1 h3.symm
 obtain⟨T,t1,t2⟩:=compile_ok hh hok hpre ha hi
 exact⟨hok,T,t1,t2,edges_ok hok hpre ha⟩
end Go.AM.B1
namespace Go.AM.B1
open Go.AM Go.AM.So
def newE (cd:Int→Option (List Int)) (un repl:Int):Int:=if un < 1∨un > 3 then 180 else if un=2∧cd repl=none then 190 else 0
def rbOf (cd:Int→Option (List Int)) (un repl:Int):List Int:=if un=2 then (cd repl).getD [] else []
theorem EncT.of {T:PV} {ss:List Shp} {l:List (List Edg)} (hT:TblIs T ss l) (hok:SchOk ss):EncT T fun u=>cdS u ss:=by
 refine⟨fun u=>tenc_run hT hok u,fun u b h=> ?_,?_⟩
 ·obtain⟨s,hs,h1,h2,rfl,_⟩:=cdS_some hok.shp h
  have hk:=hok.shp s hs
  have:=(unrank_rank s.parts (u - s.first) 0 hk.parts (by omega) (by omega)).2.1
  have:=hk.hi
  omega
 ·obtain⟨S',NX,DG,RW,h,_⟩:=hT.ex
  exact⟨_,h⟩
section
variable {H:List AObj} {T:PV} {cd:Int→Option (List Int)} {call:CallF}
theorem new_nil (un repl:Int):runF call b_encode_New [.pv .nilp,.pv (i64 un),.pv (i64 repl)] H=some (.pv (.tup [.nilp,i64 2]),H):=by
 have e1:eqA H 1 (.pv .nilp) (.pv .nilp)=some true:=rfl
 simp (implicitDefEqProofs:=false) only[SP,SA,WP,sevalprocAttr,-List.reduceReplicate,b_encode_New,e1]
theorem new_err (hT:EncT T cd) {un repl:Int} (h:newE cd un repl≠0):∃ X,runF call b_encode_New [.pv T,.pv (i64 un),.pv (i64 repl)] H=some (.pv (.tup [.nilp,i64 (newE cd un repl)]),H++X)∧∀ n,∀ o∈X,cutObj n o=some o:=by
 obtain⟨R,rfl⟩:=hT.ptr
 have e1:eqA H 1 (.pv (.rp R 0)) (.pv .nilp)=some false:=rfl
 have hm:∀ a b:PV,mkTup [.pv a,.pv b]= .pv (.tup [a,b]):=fun _ _=>rfl
 by_cases h1:un < 1∨un > 3
 ·refine⟨[],?_,by simp⟩
  rw[newE,if_pos h1]
  by_cases h2:un < 1
  ·have d1:decide (un < 1)=true:=decide_eq_true h2
   simp (implicitDefEqProofs:=false) only[SP,SA,WP,sevalprocAttr,-List.reduceReplicate,b_encode_New,e1,d1,hm,List.append_nil]
  ·have d1:decide (un < 1)=false:=decide_eq_false h2
   have d2:decide (un > 3)=true:=decide_eq_true (by omega)
   simp (implicitDefEqProofs:=false) only[SP,SA,WP,sevalprocAttr,-List.reduceReplicate,b_encode_New,e1,d1,d2,hm,List.append_nil]
 ·rw[newE,if_neg h1] at h ⊢
  by_cases h2:un=2∧cd repl=none
  ·rw[if_pos h2]
   obtain⟨rfl,h3⟩:=h2
   have hen:=hT.enc repl
   rw[h3] at hen
   have d1:decide ((2:Int) < 1)=false:=rfl
   have d2:decide ((2:Int) > 3)=false:=rfl
   have d3:((2:Int)==2)=true:=rfl
   refine⟨[encB (.rp R 0) .nils 2 0 0 false false],?_,fun n o ho=>by
    simp only[List.mem_cons,List.not_mem_nil,or_false] at ho
    subst ho;exact boxP_cut _ _⟩
   simp (implicitDefEqProofs:=false) only[SP,SA,WP,sevalprocAttr,-List.reduceReplicate,b_encode_New,e1,d1,d2,d3,hen,hm,setRow.eq_1,setRow.eq_2,List.set,allPV,encB_eq]
  ·rw[if_neg h2] at h;exact absurd rfl h
theorem new_ok (hT:EncT T cd) {un repl:Int} (h:newE cd un repl=0):∃ R,runF call b_encode_New [.pv T,.pv (i64 un),.pv (i64 repl)] H=some (.tup [.ptr H.length 0,.pv (i64 0)],H++[encB T R un 0 0 false false])∧
 (un=2→R= .lit 1 ((rbOf cd un repl).map u8))∧(un≠2→rbOf cd un repl=[])∧(rbOf cd un repl).length≤8∧1≤un∧un≤3∧(un=2→cd repl=some (rbOf cd un repl)):=by
 obtain⟨R,rfl⟩:=hT.ptr
 have e1:eqA H 1 (.pv (.rp R 0)) (.pv .nilp)=some false:=rfl
 have hm:mkTup [.ptr H.length 0,.pv (i64 0)]= .tup [.ptr H.length 0,.pv (i64 0)]:=rfl
 rw[newE] at h
 by_cases h1:un < 1∨un > 3
 ·rw[if_pos h1] at h;cases h
 ·rw[if_neg h1] at h
  have d1:decide (un < 1)=false:=decide_eq_false (by omega)
  have d2:decide (un > 3)=false:=decide_eq_false (by omega)
  by_cases h2:un=2
  ·cases h3:cd repl with
   |none=>rw[if_pos ⟨h2,h3⟩] at h;cases h
   |some b=>
    have hen:=hT.enc repl
    rw[h3] at hen
    subst h2
    have d3:((2:Int)==2)=true:=rfl
    have hr:rbOf cd 2 repl=b:=by rw[rbOf,if_pos rfl,h3];rfl
    rw[hr]
    have g1:(H++[AObj.box [.pv (.rp R 0),.pv (i64 2),.pv .nils,.pv (i64 0),.pv (i64 0),.pv (.bool false),.pv (.bool false)]])[H.length]? =some (.box [.pv (.rp R 0),.pv (i64 2),.pv .nils,.pv (i64 0),.pv (i64 0),.pv (.bool false),.pv (.bool false)]):=by simp
    have p1:=fun d=>box_place g1 d 0
    have s1:storeA (H++[AObj.box [.pv (.rp R 0),.pv (i64 2),.pv .nils,.pv (i64 0),.pv (i64 0),.pv (.bool false),.pv (.bool false)]]) 1 (.ptr H.length 2) (.pv (.lit 1 (b.map u8)))=some (H++[encB (.rp R 0) (.lit 1 (b.map u8)) 2 0 0 false false]):=by
     simp only[storeA,g1]
     rw[if_pos ⟨rfl,rfl⟩,if_pos (by simp)]
     simp[encB_eq,AV.cells,PV.cells,setRow]
    refine⟨.lit 1 (b.map u8),?_,fun _=>rfl,fun h=>absurd rfl h,hT.len _ _ h3,by omega,by omega,fun _=>rfl⟩
    simp (implicitDefEqProofs:=false) only[SP,SA,WP,sevalprocAttr,-List.reduceReplicate,b_encode_New,e1,d1,d2,d3,hen,hm,setRow.eq_1,setRow.eq_2,List.set,allPV,p1,s1]
  ·have d3:(un==2)=false:=beq_false_of_ne h2
   have hr:rbOf cd un repl=[]:=by rw[rbOf,if_neg h2]
   refine⟨.nils,?_,fun h=>absurd h h2,fun _=>hr,by rw[hr];exact Nat.zero_le _,by omega,by omega,fun h=>absurd h h2⟩
   simp (implicitDefEqProofs:=false) only[SP,SA,WP,sevalprocAttr,-List.reduceReplicate,b_encode_New,e1,d1,d2,d3,hm,setRow.eq_1,setRow.eq_2,List.set,allPV,encB_eq]
end
theorem enc_toPV {H:List AObj} {c:Nat} {T R:PV} {un tot out:Int} {st fin:Bool} (hc:H[c]? =some (encB T R un tot out st fin)):toPV H 6 (.ptr c 0)=some (.rp [T,i64 un,R,i64 tot,i64 out,.bool st,.bool fin] 0):=by
 show (match H[c]? with | some (.box cells)=>(mapO (toPV H 5) cells).map fun ps=>PV.rp ps 0 | _=>none)=_
 rw[hc];rfl
theorem tot_run {T R:PV} {un tot out:Int} {st fin:Bool}:F_encode_Encoder_Total [.rp [T,i64 un,R,i64 tot,i64 out,.bool st,.bool fin] 0]=some (i64 tot):=by kernel_rfl
theorem out_run {T R:PV} {un tot out:Int} {st fin:Bool}:F_encode_Encoder_Out [.rp [T,i64 un,R,i64 tot,i64 out,.bool st,.bool fin] 0]=some (i64 out):=by kernel_rfl
theorem feed_err {A:List AObj} {c:Nat} {call:CallF} {call':CallF} (hcall:∀ H n,call 62 [.ptr c 0,.pv (i64 n)] H=runF call' b_encode_Encoder_fault [.ptr c 0,.pv (i64 n)] H) {T R:PV} {un tot out:Int} {st fin:Bool} {U:AV} {us:List Int} {n0:Nat} (hU:UsIs U us n0) (ht0:0≤tot) (ht1:tot≤65536) (hb:A[c]? =some (encB T R un tot out st fin))
 {e:Int} (he:e=if fin then 181 else if st then 182 else if (us.length:Int) > 65536 - tot then 183 else 0) (h0:e≠0):
 runF call b_encode_Encoder_Feed [.ptr c 0,U] A=some (.pv (.tup [.nils,.nils,i64 e]),A):=by
 have hf:=hcall A us.length
 rw[fault_run hb ht0 ht1,←he] at hf
 have lU:=hU.len
 have d1:(e != 0)=true:=by simp[h0]
 have hm:∀ a b c:PV,mkTup [.pv a,.pv b,.pv c]= .pv (.tup [a,b,c]):=fun _ _ _=>rfl
 simp (implicitDefEqProofs:=false) only[SP,SA,WP,sevalprocAttr,-List.reduceReplicate,b_encode_Encoder_Feed,hf,lU,d1,hm]
def doc19:List Shp:=[⟨[[(0,127)]],0⟩,⟨[[(194,223)],[(128,191)]],128⟩,⟨[[(225,225)],[(128,191)],[(128,191)]],4096⟩]
theorem doc19_valid:F_scheme_Valid [.agg [.lit 2 (doc19.map encShp)]]=some (.bool true):=by kernel_rfl
theorem doc19_prefix:F_clash_Prefix [.agg [.lit 2 (doc19.map encShp)]]=some (.tup [.agg [.bool true,i64 0,i64 0],i64 0]):=by kernel_rfl
theorem doc19_inject:F_clash_Inject [.agg [.lit 2 (doc19.map encShp)]]=some (.tup [.agg [.bool true,i64 0,i64 0],i64 0]):=by kernel_rfl
theorem doc19_auto:(autoS doc19).isSome=true:=by kernel_rfl
theorem two_run:∃ T,F_leadtraillaw19_two []=some T∧EncT T fun u=>cdS u doc19:=by
 obtain⟨l,hl⟩:=Option.isSome_iff_exists.1 doc19_auto
 obtain⟨hok,T,h1,hT,_⟩:=compiled_of (encShps_held (by decide) (by decide) (by decide)) doc19_valid doc19_prefix doc19_inject hl
 refine⟨T,?_,EncT.of hT hok⟩
 have hdoc:(.lit 2 (doc19.map encShp):PV)= .lit 2 [.agg [.lit 1 [.lit 2 [.agg [i64 0,i64 127]]],i64 0],.agg [.lit 1 [.lit 2 [.agg [i64 194,i64 223]],.lit 2 [.agg [i64 128,i64 191]]],i64 128],.agg [.lit 1 [.lit 2 [.agg [i64 225,i64 225]],.lit 2 [.agg [i64 128,i64 191]],.lit 2 [.agg [i64 128,i64 191]]],i64 4096]]:=rfl
 rw[hdoc] at h1
 obtain⟨R,hR⟩:=(EncT.of hT hok).ptr
 subst hR
 simp (implicitDefEqProofs:=false) only[F_leadtraillaw19_two,SP,SA,WP,sevalprocAttr,-List.reduceReplicate,b_leadtraillaw19_two,h1,setRow.eq_1,setRow.eq_2,List.set,allPV]
end Go.AM.B1
namespace Go.AM.B1
open Go.AM Go.AM.So
theorem hpE_HGood {A:List AObj} {c:Nat} (hA:HGood A) {T R:PV} {un tot out:Int} {st fin:Bool} (k1:Nat) (n1:Bool) (k5:Nat) (n5:Bool):HGood (hpE A c (encB T R un tot out st fin) k1 n1 k5 n5):=by
 intro n hn o ho
 rw[hpE_len] at hn
 unfold hpE at ho
 rcases List.mem_append.1 ho with h | h
 ·rcases List.mem_or_eq_of_mem_set h with h | rfl
  ·exact hA _ (by omega) _ h
  ·exact boxP_cut _ _
 ·simp only[List.mem_cons,List.not_mem_nil,or_false] at h
  rcases h with rfl | rfl <;> rfl
theorem enc_HGood {T R:PV} {un tot out:Int} {st fin:Bool}:HGood [encB T R un tot out st fin]:=by
 intro n hn o ho
 simp only[List.mem_cons,List.not_mem_nil,or_false] at ho
 subst ho;exact boxP_cut _ _
theorem UsIs.lit (us:List Int) (n0:Nat):UsIs (.pv (.lit 1 (us.map i64))) us n0:=by
 refine⟨fun H=>by simp[lenA],fun H i h=> ?_,fun n hn=>cut_pv⟩
 simp only[iaddrA']
 rw[if_pos ⟨trivial,by unfold idxOk;rw[List.length_map];omega⟩,Int.toNat_natCast,List.getElem?_map,List.getElem?_eq_getElem h];rfl
theorem UsIs.nils (n0:Nat):UsIs (.pv .nils) [] n0:=⟨fun H=>rfl,fun H i h=>by simp at h,fun n hn=>cut_pv⟩
theorem UsIs.uq (us:List Int) {id n0:Nat} (nl:Bool) (h:id < n0):UsIs (.uq id nl 1 (us.map i64)) us n0:=by
 refine⟨fun H=>by simp[lenA],fun H i h=> ?_,fun n hn=>cut_uq (by omega)⟩
 simp only[iaddrA']
 rw[if_pos ⟨trivial,by unfold idxOk;rw[List.length_map];omega⟩,Int.toNat_natCast,List.getElem?_map,List.getElem?_eq_getElem h];rfl
theorem cd_65:cdS 65 doc19=some [65]:=by decide
theorem cd_66:cdS 66 doc19=some [66]:=by decide
theorem cd_0:cdS 0 doc19=some [0]:=by decide
theorem cd_233:cdS 233 doc19=some [195,169]:=by decide
theorem cd_3000:cdS 3000 doc19=none:=by decide
theorem fixed_go1:feedGo (fun u=>cdS u doc19) 2 [63] 0 0 0 [] [] [65,233]=([65,195,169],[],false):=by
 simp only[feedGo,cd_65,cd_233];rfl
theorem fixed_go2:feedGo (fun u=>cdS u doc19) 2 [63] 2 3 0 [] [] [3000,66]=([63,66],[evP 2 3000 3],false):=by
 simp only[feedGo,cd_3000,cd_66];rfl
theorem fixed19_run:F_leadtraillaw19_fixed []=some (.bool true):=by
 obtain⟨T,htw,hT⟩:=two_run
 have hn:=new_ok (H:=[]) (call:=callL t_leadtraillaw19_fixed 7) hT (un:=2) (repl:=63) (by kernel_rfl)
 rw[show rbOf (fun u=>cdS u doc19) 2 63=[63] by kernel_rfl] at hn
 obtain⟨R,hn,hR,hR2,hR3,_⟩:=hn
 have h62:∀ c H n,callL t_leadtraillaw19_fixed 7 62 [.ptr c 0,.pv (i64 n)] H=runF (callL t_leadtraillaw19_fixed 6) b_encode_Encoder_fault [.ptr c 0,.pv (i64 n)] H:=fun _ _ _=>rfl
 obtain⟨r,hr,acc,evs,st,n1,n5,rfl,hgo,hn1,hn5,_⟩:=wpO_spec (feed_run (c:=0) (call:=callL t_leadtraillaw19_fixed 7) (h62 0) enc_HGood (by simp) hT hR hR2 hR3 (UsIs.lit [65,233] 1) (tot:=0) (out:=0) (by decide) (by decide) (by decide) (by decide) (A:=[encB T R 2 0 0 false false]) rfl)
 replace hgo:=fixed_go1.symm.trans hgo
 have q1:[65,195,169]=acc:=congrArg (fun x=>x.1) hgo
 have q2:[]=evs:=congrArg (fun x=>x.2.1) hgo
 have q3:false=st:=congrArg (fun x=>x.2.2) hgo
 subst q1 q2 q3
 have hn1:n1=false:=by cases n1 with | false=>rfl | true=>cases hn1 rfl
 subst hn1
 obtain⟨A2,hA2⟩:∃ A,A=hpE [encB T R 2 0 0 false false] 0 (encB T R 2 2 3 false false) 3 false 0 n5:=⟨_,rfl⟩
 have hA2g:HGood A2:=by rw[hA2];exact hpE_HGood enc_HGood _ _ _ _
 obtain⟨r,hr2,acc,evs,st,m1,m5,rfl,hgo,hm1,hm5,_⟩:=wpO_spec (feed_run (c:=0) (call:=callL t_leadtraillaw19_fixed 7) (h62 0) hA2g (by rw[hA2];simp[hpE]) hT hR hR2 hR3 (UsIs.lit [3000,66] _) (tot:=2) (out:=3) (by decide) (by decide) (by decide) (by decide) (by rw[hA2];rfl))
 replace hgo:=fixed_go2.symm.trans hgo
 have q1:[63,66]=acc:=congrArg (fun x=>x.1) hgo
 have q2:[evP 2 3000 3]=evs:=congrArg (fun x=>x.2.1) hgo
 have q3:false=st:=congrArg (fun x=>x.2.2) hgo
 subst q1 q2 q3
 have hm1:m1=false:=by cases m1 with | false=>rfl | true=>cases hm1 rfl
 have hm5:m5=false:=by cases m5 with | false=>rfl | true=>cases hm5 rfl
 subst hm1 hm5
 rw[show hpE [encB T R 2 0 0 false false] 0 (encB T R 2 (0+([65,233]:List Int).length) (0+([65,195,169]:List Int).length) false false) ([65,195,169]:List Int).length false ([]:List PV).length n5=A2 from hA2.symm] at hr
 have hA2l:A2.length=3:=by rw[hA2];rfl
 rw[hA2l] at hr2
 obtain⟨A3,hA3⟩:∃ A,A=hpE A2 0 (encB T R 2 4 5 false false) 2 false 1 false:=⟨_,rfl⟩
 rw[show hpE A2 0 (encB T R 2 (2+([3000,66]:List Int).length) (3+([63,66]:List Int).length) false false) ([63,66]:List Int).length false [evP 2 3000 3].length false=A3 from hA3.symm] at hr2
 have hA3c:A3[0]? =some (encB T R 2 4 5 false false):=by rw[hA3];exact hpE_c (by omega) _ _ _ _ _
 have htp:=enc_toPV hA3c
 have htot:=tot_run (T:=T) (R:=R) (un:=2) (tot:=4) (out:=5) (st:=false) (fin:=false)
 have hout:=out_run (T:=T) (R:=R) (un:=2) (tot:=4) (out:=5) (st:=false) (fin:=false)
 have hsm:F_leadtrailref17_Same [.lit 5 [evP 2 3000 3],.lit 5 [.agg [.int .i64 4,.int .i64 2,.int .i64 1,.int .i64 3000,.int .i64 3]]]=some (.bool true):=by kernel_rfl
 have e0:∀ H:List AObj,H=[encB T R 2 0 0 false false]→eqA H 1 (.ptr 0 0) (.pv .nilp)=some false:=fun H h=>by subst h;rfl
 have e1:eqA [encB T R 2 0 0 false false] 1 (.ptr 0 0) (.pv .nilp)=some false:=rfl
 have z0:((0:Int) != 0)=false:=rfl
 have z1:((0:Int)==0)=true:=rfl
 have z2:((4:Int)==4)=true:=rfl
 have z3:((5:Int)==5)=true:=rfl
 have y1:strBin .eql ⟨#[65,195,169]⟩ ⟨#[65,195,169]⟩=some (.bool true):=rfl
 have y2:strBin .eql ⟨#[63,66]⟩ ⟨#[63,66]⟩=some (.bool true):=rfl
 have b1:∀ H,b2sA H (.uq 1 false 1 [u8 65,u8 195,u8 169])=some ⟨#[65,195,169]⟩:=fun H=>rfl
 have b2:∀ H,b2sA H (.uq 3 false 1 [u8 63,u8 66])=some ⟨#[63,66]⟩:=fun H=>rfl
 have u1:∀ H n,toPV H 6 (.uq n false 5 [evP 2 3000 3])=some (.lit 5 [evP 2 3000 3]):=fun H n=>rfl
 obtain⟨call,hcall⟩:∃ x,x=callL t_leadtraillaw19_fixed 8:=⟨_,rfl⟩
 have k60:∀ un repl,call 60 [.pv T,.pv (i64 un),.pv (i64 repl)] []=runF (callL t_leadtraillaw19_fixed 7) b_encode_New [.pv T,.pv (i64 un),.pv (i64 repl)] []:=fun _ _=>by rw[hcall];rfl
 have k61:∀ c U H,call 61 [.ptr c 0,U] H=runF (callL t_leadtraillaw19_fixed 7) b_encode_Encoder_Feed [.ptr c 0,U] H:=fun _ _ _=>by rw[hcall];rfl
 rw[← k60] at hn
 rw[← k61] at hr hr2
 replace hr:call 61 [.ptr 0 0,.pv (.lit 1 [.int .i64 65,.int .i64 233])] [encB T R 2 0 0 false false]=some (.tup [.uq 1 false 1 [u8 65,u8 195,u8 169],.uq 2 n5 5 [],.pv (.int .i64 0)],A2):=hr
 replace hr2:call 61 [.ptr 0 0,.pv (.lit 1 [.int .i64 3000,.int .i64 66])] A2=some (.tup [.uq 3 false 1 [u8 63,u8 66],.uq 4 false 5 [evP 2 3000 3],.pv (.int .i64 0)],A3):=hr2
 rw[F_leadtraillaw19_fixed,pureF,←hcall]
 clear k60 k61 hcall hA2 hA3
 obtain⟨B,hB⟩:∃ B,B=[encB T R 2 0 0 false false]:=⟨_,rfl⟩
 rw[List.nil_append,List.length_nil,←hB] at hn
 rw[← hB] at hr e1
 simp (implicitDefEqProofs:=false) only[SP,SA,WP,sevalprocAttr,-List.reduceReplicate,b_leadtraillaw19_fixed,htw,hn,hr,hr2,htot,hout,htp,hsm,e1,z0,z1,z2,z3,y1,y2,b1,b2,u1,setRow.eq_1,setRow.eq_2,List.set,allPV]
theorem feed_noughts {cd:Int→Option (List Int)} (h0:cd 0=some [0]) (un:Int) (rb:List Int) (base out:Int):∀ (n i:Nat) (acc:List Int) (evs:List PV),feedGo cd un rb base out i acc evs (List.replicate n 0)=(acc++List.replicate n 0,evs,false)
 |0,i,acc,evs=>by simp[feedGo]
 |n+1,i,acc,evs=>by
  rw[List.replicate_succ,feedGo,h0]
  show feedGo cd un rb base out (i+1) (acc++[0]) evs (List.replicate n 0)=_
  rw[feed_noughts h0 un rb base out n,List.append_assoc];rfl
theorem allPV_rep:∀ n,allPV (repZ [.int .i64 0] n)=some (List.replicate n (i64 0))
 |0=>rfl
 |n+1=>by
  show (allPV (repZ [.int .i64 0] n)).map (i64 0:: ·)=_
  rw[allPV_rep n];rfl
theorem chunk_rep (p:PV):∀ n,chunk 1 false n (List.replicate n p)=List.replicate n p
 |0=>rfl
 |n+1=>by rw[chunk,List.replicate_succ,List.drop_one,List.tail_cons,chunk_rep p n];rfl
theorem long_fresh (H:List AObj) (n:Nat):fresh H .lit 1 false n (repZ [.int .i64 0] n)=some (.pv (.lit 1 ((List.replicate n 0).map i64)),H):=by
 rw[fresh,allPV_rep,Option.map_some,chunk_rep,List.map_replicate]
theorem mk_lit (call:CallF) (e:Tr) (H:List AObj) (n:Int) (hn:0≤n) (hr:roomOk n.toNat 8):evalOp call e H (.mkslice .lit 1 false [.int .i64 0] 8 (.c (.int .i64 n)) (.c (.int .i64 n)))=some (.pv (.lit 1 ((List.replicate n.toNat 0).map i64)),H):=by
 have:=long_fresh H n.toNat
 simp only[evalOp,AO.ev,asInt,Option.bind_some]
 rw[if_pos ⟨hn,Int.le_refl _,hr⟩,this]
theorem encnames_run:F_leadtraillaw19_EncodeNames []=some (.bool true):=by
 obtain⟨T,htw,hT⟩:=two_run
 have hfx:=fixed19_run
 rw[F_leadtraillaw19_EncodeNames,pureF]
 obtain⟨call,hcall⟩:∃ x,x=callL t_leadtraillaw19_EncodeNames 8:=⟨_,rfl⟩
 rw[← hcall]
 have k60:∀ T un repl H,call 60 [.pv T,.pv (i64 un),.pv (i64 repl)] H=runF (callL t_leadtraillaw19_EncodeNames 7) b_encode_New [.pv T,.pv (i64 un),.pv (i64 repl)] H:=fun _ _ _ _=>by rw[hcall];rfl
 have k61:∀ c U H,call 61 [.ptr c 0,U] H=runF (callL t_leadtraillaw19_EncodeNames 7) b_encode_Encoder_Feed [.ptr c 0,U] H:=fun _ _ _=>by rw[hcall];rfl
 have h62:∀ c H n,callL t_leadtraillaw19_EncodeNames 7 62 [.ptr c 0,.pv (i64 n)] H=runF (callL t_leadtraillaw19_EncodeNames 6) b_encode_Encoder_fault [.ptr c 0,.pv (i64 n)] H:=fun _ _ _=>rfl
 have n1:=new_nil (H:=[]) (call:=callL t_leadtraillaw19_EncodeNames 7) 0 0
 have w2:newE (fun u=>cdS u doc19) 4 65=180:=by kernel_rfl
 have w3:newE (fun u=>cdS u doc19) 2 3000=190:=by kernel_rfl
 have w4:newE (fun u=>cdS u doc19) 1 3000=0:=by kernel_rfl
 obtain⟨X2,n2,g2⟩:=new_err (H:=[]) (call:=callL t_leadtraillaw19_EncodeNames 7) hT (un:=4) (repl:=65) (by rw[w2];decide)
 obtain⟨X3,n3,g3⟩:=new_err (H:=X2) (call:=callL t_leadtraillaw19_EncodeNames 7) hT (un:=2) (repl:=3000) (by rw[w3];decide)
 obtain⟨R,n4,hR,hR2,hR3,_⟩:=new_ok (H:=X2++X3) (call:=callL t_leadtraillaw19_EncodeNames 7) hT (un:=1) (repl:=3000) w4
 rw[w2] at n2
 rw[w3] at n3
 obtain⟨A,hA⟩:∃ A,A=X2++X3++[encB T R 1 0 0 false false]:=⟨_,rfl⟩
 obtain⟨c,hc⟩:∃ c,c=(X2++X3).length:=⟨_,rfl⟩
 have hAg:HGood A:=by
  rw[hA]
  intro n hn o ho
  rcases List.mem_append.1 ho with h | h
  ·rcases List.mem_append.1 h with h | h
   ·exact g2 n o h
   ·exact g3 n o h
  ·simp only[List.mem_cons,List.not_mem_nil,or_false] at h
   subst h;exact boxP_cut _ _
 have hcA:c < A.length:=by rw[hA,hc];simp
 have hAc:A[c]? =some (encB T R 1 0 0 false false):=by rw[hA,hc];simp
 rw[← hc,←hA] at n4
 obtain⟨L,hL⟩:∃ L,L=List.replicate (65536:Int).toNat (0:Int):=⟨_,rfl⟩
 have hLl:L.length=65536:=by rw[hL,List.length_replicate];rfl
 obtain⟨r,r1,acc,evs,st,m1,m5,rfl,hgo,hm1,hm5,_⟩:=wpO_spec (feed_run (c:=c) (call:=callL t_leadtraillaw19_EncodeNames 7) (h62 c) hAg hcA hT hR hR2 hR3 (UsIs.lit L _) (tot:=0) (out:=0) (by decide) (by rw[hLl];decide) (by decide) (by decide) hAc)
 have hgo1:=feed_noughts (cd:=fun u=>cdS u doc19) cd_0 1 (rbOf (fun u=>cdS u doc19) 1 3000) 0 0 (65536:Int).toNat 0 [] []
 rw[← hL] at hgo1
 replace hgo:=hgo1.symm.trans hgo
 have q1:L=acc:=congrArg (fun x=>x.1) hgo
 have q2:[]=evs:=congrArg (fun x=>x.2.1) hgo
 have q3:false=st:=congrArg (fun x=>x.2.2) hgo
 subst q1 q2 q3
 obtain⟨A2,hA2⟩:∃ x,x=hpE A c (encB T R 1 65536 65536 false false) 65536 m1 0 m5:=⟨_,rfl⟩
 have hA2g:HGood A2:=by rw[hA2];exact hpE_HGood hAg _ _ _ _
 have hA2c:A2[c]? =some (encB T R 1 65536 65536 false false):=by rw[hA2];exact hpE_c hcA _ _ _ _ _
 have hcA2:c < A2.length:=by rw[hA2,hpE_len];omega
 rw[hLl,show (0:Int)+((65536:Nat):Int)=65536 from rfl,show ([]:List PV).length=0 from rfl,←hA2] at r1
 have r2:=feed_err (A:=A2) (c:=c) (call:=callL t_leadtraillaw19_EncodeNames 7) (h62 c) (UsIs.lit [0] 0) (by decide) (by decide) hA2c (e:=183) (by decide) (by decide)
 obtain⟨r,r3,acc,evs,st,m2,m6,rfl,hgo,hm1,hm5,_⟩:=wpO_spec (feed_run (c:=c) (call:=callL t_leadtraillaw19_EncodeNames 7) (h62 c) hA2g hcA2 hT hR hR2 hR3 (UsIs.nils _) (tot:=65536) (out:=65536) (by decide) (by decide) (by decide) (by decide) hA2c)
 have q1:[]=acc:=congrArg (fun x=>x.1) hgo
 have q2:[]=evs:=congrArg (fun x=>x.2.1) hgo
 have q3:false=st:=congrArg (fun x=>x.2.2) hgo
 subst q1 q2 q3
 obtain⟨A3,hA3⟩:∃ x,x=hpE A2 c (encB T R 1 65536 65536 false false) 0 m2 0 m6:=⟨_,rfl⟩
 have hA3c:A3[c]? =some (encB T R 1 65536 65536 false false):=by rw[hA3];exact hpE_c hcA2 _ _ _ _ _
 replace r3:runF (callL t_leadtraillaw19_EncodeNames 7) b_encode_Encoder_Feed [.ptr c 0,.pv .nils] A2=some (.tup [.uq A2.length m2 1 [],.uq (A2.length+1) m6 5 [],.pv (i64 0)],A3):=by rw[hA3];exact r3
 have htp:=enc_toPV hA3c
 have htot:=tot_run (T:=T) (R:=R) (un:=1) (tot:=65536) (out:=65536) (st:=false) (fin:=false)
 rw[← k60] at n1 n2 n3 n4
 rw[← k61] at r1 r2 r3
 have hmkE:=fun (call:CallF) e H=>mk_lit call e H 65536 (by decide) (by unfold roomOk;decide)
 rw[← hL] at hmkE
 have hLs:∀ H,sliceA H 1 (.pv (.lit 1 (L.map i64))) none (some 1)=some (.pv (.lit 1 (([0]:List Int).map i64))):=fun H=>by
  rw[hL]
  simp only[sliceA]
  rw[if_pos ⟨by decide,trivial,by decide,by decide,by rw[List.length_map,List.length_replicate];decide⟩]
  rfl
 have e1:eqA A 1 (.ptr c 0) (.pv .nilp)=some false:=by simp only[eqA,hAc,encB_eq]
 have e2:eqA A 1 (.pv .nilp) (.pv .nilp)=some true:=rfl
 have lu:∀ H,lenA H 0 (.uq A.length m1 1 (L.map u8))=some 65536:=fun H=>by simp only[lenA,List.length_map,hLl]
 have z1:((2:Int) != 2)=false:=rfl
 have z2:((180:Int) != 180)=false:=rfl
 have z3:((190:Int) != 190)=false:=rfl
 have z4:((0:Int) != 0)=false:=rfl
 have z5:((0:Int)==0)=true:=rfl
 have z6:(((65536:Nat):Int)==65536)=true:=rfl
 have z6':((65536:Int)==65536)=true:=rfl
 have z7:((183:Int)==183)=true:=rfl
 rw[List.nil_append] at n2
 generalize hLi:L.map i64=Li at *
 generalize hLu:L.map u8=Lu at *
 have r2':call 61 [.ptr c 0,.pv (.lit 1 [.int .i64 0])] A2=some (.pv (.tup [.nils,.nils,.int .i64 183]),A2):=r2
 have hLs':∀ H,sliceA H 1 (.pv (.lit 1 Li)) none (some 1)=some (.pv (.lit 1 [.int .i64 0])):=hLs
 clear hLs r2 hcall k60 k61 h62 hLi hLu hgo1
 simp (implicitDefEqProofs:=false) only[SP,SA,WP,sevalprocAttr,-List.reduceReplicate,b_leadtraillaw19_EncodeNames,htw,hfx,n1,n2,n3,n4,r1,r2',r3,hLs',↓hmkE,htp,htot,e1,e2,lu,z1,z2,z3,z4,z5,z6,z6',z7]
end Go.AM.B1
set_option maxRecDepth 100000
namespace Go.Proofs.YtdglpnpkgngcdaaGreat
open Go.ChangeShapes Go.WideShapes Go.ChangeAt Go.RowKit Go.AM
theorem own:ownKnob Tryz.prog.godebug=none:=by kernel_rfl
theorem laidOut:laidOutB Tryz.prog=true:=by kernel_rfl
end Go.Proofs.YtdglpnpkgngcdaaGreat
