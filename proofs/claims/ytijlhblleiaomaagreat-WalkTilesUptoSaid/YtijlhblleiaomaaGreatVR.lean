/- WalkTiles: the pieces of the events are the bytes, one behind the other, each of its kind (where what it reads is of bounded bulk) -/
import Derived.Test.YtijlhblleiaomaaGreatV17
set_option linter.unusedVariables false
set_option maxRecDepth 100000
namespace Go.Proofs.YtijlhblleiaomaaGreat
open Go.ChangeShapes Go.WideShapes Go.ChangeAt Go.RowKit Go.AM
set_option maxHeartbeats 800000 in
set_option maxRecDepth 100000 in
theorem nB (os:Os) (started:os.Started) (H:Type) (enc:TypeId×Value→H) (Fi:Stop.Interp):
 ReturnsInHanded {} Tryz.checked os 7 .any ((Rows.OpenSpec.upto Rows.walkTilesSpec).pre6 enc Tryz.prog Tryz.f7 Rows.walkTilesUptoRow.domain false) (((Rows.OpenSpec.upto Rows.walkTilesSpec).at Fi).post enc Tryz.prog Tryz.f7 false true false false):=by
 refine vT (C:=Tryz.checked) (s:=Rows.OpenSpec.upto Rows.walkTilesSpec) (k:=Rows.uptoSmall) rfl Fi (ts:=[24,25,3]) (bt:=4) 8 own laidOut started (by kernel_rfl) Tryz.func7
  (OpenSpec.witness (enc:=enc) (C:=Tryz.checked) (s:=Rows.OpenSpec.upto Rows.walkTilesSpec) (k:=Rows.uptoSmall) rfl false ⟨#[],#[.agg #[.slice none 0 0],.slice none 0 0,.int .i64 0],[]⟩ 8 (by kernel_rfl) (by kernel_rfl) (by kernel_rfl)
   (x:=([.agg [.nil],.nil,.lit (.int .i64 0)],[],[])) (by kernel_rfl) rfl (by kernel_rfl))
  rfl rfl rfl Tryz.params7 (by kernel_rfl) Tryz.underlying4 (by kernel_rfl) B1.Lq ?_ ?_
 ·intro ds hd
  match ds,hd with
  | [d0,d1,d2],_=>rfl
 ·intro ds hs hk
  obtain⟨d0,r0,rfl,h0,hs⟩:=UE (P:=Tryz.prog) hs
  obtain⟨d1,r1,rfl,h1,hs⟩:=UE (P:=Tryz.prog) hs
  obtain⟨d2,r2,rfl,h2,hs⟩:=UE (P:=Tryz.prog) hs
  obtain rfl:=vX (P:=Tryz.prog) hs
  have hb:=LM hk
  have hb1:Rows.uptoBulk d1≤1048576:=Nat.le_trans (GR (by simp)) hb
  show Ub (fun _=>none) B1.He [Hn Tryz.prog 24 (rowOf Tryz.prog 8 24 d0),Hn Tryz.prog 25 (rowOf Tryz.prog 8 25 d1),Hn Tryz.prog 3 (rowOf Tryz.prog 8 3 d2)]=_
  obtain⟨Sv0,ss0,es0,e0,hS0,hz0⟩:=OQ h0
  obtain⟨Bv1,bs1,e1,hB1,hw1⟩:=wV h1
  obtain⟨n2,e2,hn2⟩:=TA Tryz.underlying3 h2
  have hl:bs1.length≤1048576:=by
   rcases hB1.is with⟨_,h⟩ | h
   ·have:=congrArg List.length h
    rw[List.length_map] at this
    rw[this];exact Nat.zero_le _
   ·rw[h] at e1
    have:=SN Tryz.underlying25 e1
    rw[List.length_map] at this
    exact Nat.le_trans this hb1
  rw[e0,e1,e2,Yz Tryz.underlying24,BU Tryz.underlying3,uL Tryz.underlying25]
  exact B1.sP hS0 hz0 hB1 (Nat.le_trans hl (by decide)) n2
theorem walkTilesUpto_proved:Rows.WalkTilesUptoSaid:=
 OpenClaim.holds_of_cond 7 Tryz.f7 rfl rfl rfl rfl rfl rfl rfl ⟨rfl,rfl,rfl,rfl,rfl⟩ rfl rfl rfl rfl rfl (by kernel_rfl) Tryz.func7 (by kernel_rfl)
  (of_decide_eq_true (by kernel_rfl)) (by unfold Func.isWrapper;first | (rw[if_pos (by decide +kernel)];kernel_rfl) | (rw[if_neg (by decide +kernel)];exact⟨rfl,rfl⟩))
  (fun os started H enc _ Fi=>nB os started H enc Fi)
#print axioms walkTilesUpto_proved
end Go.Proofs.YtijlhblleiaomaaGreat
