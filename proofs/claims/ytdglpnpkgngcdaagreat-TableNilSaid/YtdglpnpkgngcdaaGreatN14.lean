/- What functions of the program compute. -/
import Derived.Test.YtdglpnpkgngcdaaGreatN13
import Derived.Test.YtdglpnpkgngcdaaGreatN4
import Derived.Test.YtdglpnpkgngcdaaGreatN11
import Derived.Test.YtdglpnpkgngcdaaGreatA3
import Derived.Test.YtdglpnpkgngcdaaGreatRows
set_option linter.unusedVariables false
set_option linter.unusedSimpArgs false
namespace Go.AM.B1
open Go.AM Go.AM.So
end Go.AM.B1
namespace Go.AM.B1
open Go.AM Go.AM.So
end Go.AM.B1
namespace Go.AM.B1
open Go.AM Go.AM.So
theorem encShps_held {ss:List Shp} (h:∀ s∈ss,∀ l∈s.parts,l.length≤1000) (h2:∀ s∈ss,s.parts.length≤1000) (h3:ss.length≤1000):HeldSch (.lit 2 (ss.map encShp)) ss (ss.map encShp):=by
 refine⟨.inr rfl,by rw[List.length_map],fun k e s he hs=> ?_,by unfold maxLen;omega⟩
 rw[List.getElem?_map,hs] at he
 injection he with he
 have hm:=List.mem_of_getElem? hs
 refine⟨_,_,he.symm,.inr rfl,by rw[List.length_map],fun j v l hv hl=> ?_,by have:=h2 s hm;unfold maxLen;omega⟩
 rw[List.getElem?_map,hl] at hv
 injection hv with hv
 have:=h s hm l (List.mem_of_getElem? hl)
 exact⟨.inr hv.symm,by omega⟩
theorem compiled_of {ss:List Shp} {l:List (List Edg)} {a b c d:Int} (hh:HeldSch (.lit 2 (ss.map encShp)) ss (ss.map encShp)) (hv:F_scheme_Valid [.agg [.lit 2 (ss.map encShp)]]=some (.bool true)) (hp:F_clash_Prefix [.agg [.lit 2 (ss.map encShp)]]=some (.tup [.agg [.bool true,i64 a,i64 b],i64 0]))
 (hi:F_clash_Inject [.agg [.lit 2 (ss.map encShp)]]=some (.tup [.agg [.bool true,i64 c,i64 d],i64 0])) (ha:autoS ss=some l):
 SchOk ss∧∃ T,F_table_Compile [.agg [.lit 2 (ss.map encShp)]]=some (.tup [T,i64 0])∧TblIs T ss l∧∀ e∈l,EdgesOk e:=by
 obtain⟨x,h1,h2⟩:=scheme_valid_run hh
 rw[hv] at h1
 injection h1 with h1
 injection h1 with h1
 have hok:=h2.1 h1.symm
 obtain⟨y,a',b',h3,h4⟩:=(prefix_run hh).2 hok
 rw[hp] at h3
 injection h3 with h3
 injection h3 with h3
 injection h3 with h3 _
 injection h3 with h3
 injection h3 with h3 _
 injection h3 with h3
 have hpre:=h4.1 h3.symm
 obtain⟨T,t1,t2⟩:=compile_ok hh hok hpre ha hi
 exact⟨hok,T,t1,t2,edges_ok hok hpre ha⟩
def doc15:List Shp:=[⟨[[(194,223)],[(128,191)]],128⟩,⟨[[(0,127)]],0⟩]
theorem doc15_valid:F_scheme_Valid [.agg [.lit 2 (doc15.map encShp)]]=some (.bool true):=by kernel_rfl
theorem doc15_prefix:F_clash_Prefix [.agg [.lit 2 (doc15.map encShp)]]=some (.tup [.agg [.bool true,i64 0,i64 0],i64 0]):=by kernel_rfl
theorem doc15_inject:F_clash_Inject [.agg [.lit 2 (doc15.map encShp)]]=some (.tup [.agg [.bool true,i64 0,i64 0],i64 0]):=by kernel_rfl
theorem doc15_auto:autoS doc15=some [[⟨0,127,-1⟩,⟨194,223,1⟩],[⟨128,191,-1⟩]]:=by kernel_rfl
theorem doc15_rows:rowsD doc15=[[0,127,1],[128,2047,0]]:=by kernel_rfl
end Go.AM.B1
namespace Go.AM.B1
open Go.AM
end Go.AM.B1
namespace Go.AM.B1
open Go.AM Go.AM.So
theorem fixed15_run:F_leadtraillaw15_fixed []=some (.bool true):=by
 obtain⟨hok,T,h1,hT,_⟩:=compiled_of (encShps_held (by decide) (by decide) (by decide)) doc15_valid doc15_prefix doc15_inject doc15_auto
 have he:=tenc_run hT hok 233
 rw[show cdS 233 doc15=some [195,169] from by decide] at he
 have hB:HeldB (.lit 1 [u8 195,u8 169]) [195,169]:=⟨.inr rfl,by decide⟩
 have hd:=tdec_run hT hok hB
 rw[show decT [195,169] doc15=some 233 from by decide] at hd
 obtain⟨RW,hr,hRW⟩:=trows_run hT hok
 rw[doc15_rows] at hRW
 have hRW:RW= .lit 3 [.agg [i64 0,i64 127,i64 1],.agg [i64 128,i64 2047,i64 0]]:=by
  rcases hRW with⟨_,h⟩ | h
  ·cases h
  ·exact h
 subst hRW
 have hl:=tlong_run hT
 rw[show mostN doc15=2 from by decide] at hl
 have hdoc:(.lit 2 (doc15.map encShp):PV)= .lit 2 [.agg [.lit 1 [.lit 2 [.agg [i64 194,i64 223]],.lit 2 [.agg [i64 128,i64 191]]],i64 128],.agg [.lit 1 [.lit 2 [.agg [i64 0,i64 127]]],i64 0]]:=rfl
 rw[hdoc] at h1
 have he:F_table_Table_Encode [T,i64 233]=some (.tup [.lit 1 [u8 195,u8 169],.bool true]):=he
 obtain⟨S',NX,DG,RW,rfl,_⟩:=hT.ex
 generalize ([S',encSt [[⟨0,127,-1⟩,⟨194,223,1⟩],[⟨128,191,-1⟩]],NX,DG,RW,i64 (mostN doc15)]:List PV)=R at *
 have hb2:∀ H,b2sA H (.pv (.lit 1 [u8 195,u8 169]))=some ⟨#[195,169]⟩:=fun H=>rfl
 have z:strBin .eql ⟨#[195,169]⟩ ⟨#[195,169]⟩=some (.bool true):=rfl
 have i0:idxOk 0 2=True:=eq_true (by unfold idxOk;decide)
 have i1:idxOk 1 2=True:=eq_true (by unfold idxOk;decide)
 have k1:eqKd (.row [1,1,1]) (.agg [i64 0,i64 127,i64 1]) (.agg [.int .i64 0,.int .i64 127,.int .i64 1])=some true:=rfl
 have k2:eqKd (.row [1,1,1]) (.agg [i64 128,i64 2047,i64 0]) (.agg [.int .i64 128,.int .i64 2047,.int .i64 0])=some true:=rfl
 simp (implicitDefEqProofs:=false) only[F_leadtraillaw15_fixed,SP,SA,SQ,WP,WQ,sevalprocAttr,-List.reduceReplicate,b_leadtraillaw15_fixed,h1,he,hd,hr,hl,eqA,hb2,z,i0,i1,k1,k2]
end Go.AM.B1
namespace Go.AM.B1
open Go.AM Go.AM.So
theorem nil_step (st b:Int):F_table_Table_Step [.nilp,i64 st,u8 b]=some (.tup [i64 0,.bool false]):=by
 simp (implicitDefEqProofs:=false) only[F_table_Table_Step,SP,SA,WP,sevalprocAttr,-List.reduceReplicate,b_table_Table_Step,eqA]
theorem nil_row (u:Int):F_table_Table_row [.nilp,i64 u]=some (.tup [.agg [i64 0,i64 0,i64 0],.bool false]):=by
 have b0:storeA [AObj.box [.pv (.int .i64 0),.pv (.int .i64 0),.pv (.int .i64 0)]] 3 (.ptr 0 0) (.pv (.agg [.int .i64 0,.int .i64 0,.int .i64 0]))=some [.box [.pv (i64 0),.pv (i64 0),.pv (i64 0)]]:=rfl
 have ld:loadA [AObj.box [.pv (i64 0),.pv (i64 0),.pv (i64 0)]] true 3 (.ptr 0 0)=some (.pv (.agg [i64 0,i64 0,i64 0])):=rfl
 simp (implicitDefEqProofs:=false) only[F_table_Table_row,SP,SA,WP,sevalprocAttr,-List.reduceReplicate,b_table_Table_row,eqA,b0,ld]
theorem nil_enc (u:Int):F_table_Table_Encode [.nilp,i64 u]=some (.tup [.nils,.bool false]):=by
 have h:=nil_row u
 have st:storeA [AObj.box [.pv (.int .i64 0),.pv (.int .i64 0),.pv (.int .i64 0)]] 3 (.ptr 0 0) (.pv (.agg [i64 0,i64 0,i64 0]))=some [.box [.pv (i64 0),.pv (i64 0),.pv (i64 0)]]:=rfl
 simp (implicitDefEqProofs:=false) only[F_table_Table_Encode,SP,SA,WP,sevalprocAttr,-List.reduceReplicate,b_table_Table_Encode,h,st]
theorem nil_dec (B:PV):F_table_Table_Decode [.nilp,B]=some (.tup [i64 0,.bool false]):=by
 simp (implicitDefEqProofs:=false) only[F_table_Table_Decode,SP,SA,WP,sevalprocAttr,-List.reduceReplicate,b_table_Table_Decode,eqA]
theorem nil_rows:F_table_Table_Rows [.nilp]=some .nils:=by kernel_rfl
theorem nil_scheme:F_table_Table_Scheme [.nilp]=some (.agg [.nils]):=by kernel_rfl
theorem nil_auto:F_table_Table_Auto [.nilp]=some (.agg [.nils]):=by kernel_rfl
theorem nil_longest:F_table_Table_Longest [.nilp]=some (i64 0):=by kernel_rfl
theorem nil_match {B:PV} {bs:List Int} (hB:HeldB B bs) (hw:bs.length≤maxLen):F_table_Table_Match [.nilp,B]=some (.tup [i64 0,i64 (if bs.length=0 then 2 else 3)]):=by
 have hs:∀ st b,stepS [] st b=(0,false):=fun st b=>by unfold stepS;split <;> rfl
 have h:=tmatch_gen (T:= .nilp) (l:=[]) (fun st b _ _=>by rw[hs];exact nil_step st b) hB hw
 rw[h]
 cases bs with
 |nil=>rfl
 |cons b bs=>
  rw[matchS,if_pos (by rw[hs])]
  rfl
theorem nil_run (u:Int) {B:PV} {bs:List Int} (hB:HeldB B bs) (hw:bs.length≤maxLen):pureF (fun _=>none) b_leadtraillaw15_TableNil [i64 u,B]=some (.bool true):=by
 have hfx:=fixed15_run
 have lB:=hB.lenA
 have h1:=nil_enc u
 have h2:=nil_dec B
 have h3:=nil_match hB hw
 have h4:=nil_step u 7
 have h5:=nil_rows
 have h6:=nil_scheme
 have h7:=nil_auto
 have h8:=nil_longest
 have hB1:=hB.one
 have z0:((0:Int)==0)=true:=rfl
 have z2:((2:Int)==2)=true:=rfl
 have z3:((3:Int)==3)=true:=rfl
 have pp:partP false 1 [PV.nils] 0=some .nils:=rfl
 by_cases hl:bs.length=0
 ·have zl:((bs.length:Int)==0)=true:=by rw[hl];rfl
  rw[if_pos hl] at h3
  simp (implicitDefEqProofs:=false) only[SP,SA,WP,sevalprocAttr,-List.reduceReplicate,b_leadtraillaw15_TableNil,hfx,lB,h1,h2,h3,h4,h5,h6,h7,h8,z0,z2,z3,zl,pp]
 ·have zl:((bs.length:Int)==0)=false:=beq_false_of_ne (by omega)
  rw[if_neg hl] at h3
  simp (implicitDefEqProofs:=false) only[SP,SA,WP,sevalprocAttr,-List.reduceReplicate,b_leadtraillaw15_TableNil,hfx,lB,h1,h2,h3,h4,h5,h6,h7,h8,z0,z2,z3,zl,pp]
end Go.AM.B1
set_option maxRecDepth 100000
namespace Go.Proofs.YtdglpnpkgngcdaaGreat
open Go.ChangeShapes Go.WideShapes Go.ChangeAt Go.RowKit Go.AM
theorem own:ownKnob Tryz.prog.godebug=none:=by kernel_rfl
theorem laidOut:laidOutB Tryz.prog=true:=by kernel_rfl
theorem cells5:Tryz.prog.cellsOf 5=1:=by kernel_rfl
theorem bytes5:Tryz.prog.bytesOf 5=1:=by kernel_rfl
theorem wf_u8 {n:Int} (h:(Lit.int .u8 n).wf=true):0≤n∧n≤255:=by
 simp only[Lit.wf,Bool.and_eq_true,decide_eq_true_eq] at h
 exact h
theorem sh_heldB {g:Nat} {row:List PV} (h:Sh Tryz.prog (g+2) 47 row):∃ (B:PV) (bs:List Int),row=[B]∧B1.HeldB B bs∧bs.length≤reachBytes:=by
 rcases sh_ints Tryz.underlying47 Tryz.underlying5 h with rfl | ⟨l,rfl,_,hl,hw⟩
 ·exact⟨_,[],rfl,⟨.inl ⟨rfl,rfl⟩,by simp⟩,Nat.zero_le _⟩
 ·rw[bytes5,Nat.mul_one] at hl
  exact⟨_,l,rfl,⟨.inr (by rw[cells5]),fun b hb=>wf_u8 (hw b hb)⟩,hl⟩
end Go.Proofs.YtdglpnpkgngcdaaGreat
