/- DecodeNames: what New refuses, the policies and the limit of a stream (a closed sentence) -/
import Derived.Test.YtijlhblleiaomaaGreatN17
set_option linter.unusedVariables false
set_option maxRecDepth 100000
namespace Go.Proofs.YtijlhblleiaomaaGreat
open Go.ChangeShapes Go.WideShapes Go.ChangeAt Go.RowKit Go.AM
set_option maxHeartbeats 800000 in
set_option maxRecDepth 100000 in
theorem uu (os:Os) (started:os.Started) (H:Type) (enc:TypeId×Value→H):
 ReturnsInHanded {} Tryz.checked os 8 .any (Rows.decodeNamesSpec.pre6 enc Tryz.prog Tryz.f8 Rows.decodeNamesRow.domain false) (Rows.decodeNamesSpec.post enc Tryz.prog Tryz.f8 false true false false):=by
 refine TA (C:=Tryz.checked) (ts:=[]) (bt:=4) 8 own laidOut started (by kernel_rfl) Tryz.func8
  (ChangeSpec.witness6 (enc:=enc) (C:=Tryz.checked) false ⟨#[],#[],[]⟩ 8 (by kernel_rfl) (by kernel_rfl) (by kernel_rfl) (by kernel_rfl))
  rfl rfl Tryz.params8 (by kernel_rfl) Tryz.underlying4 (by kernel_rfl) B1.Yl ?_ ?_
 ·intro ds hd
  match ds,hd with
  | [],_=>rfl
 ·intro ds hs
  obtain rfl:=HJ hs
  exact B1.zy
theorem decodeNames_proved:Rows.DecodeNamesSaid:=
 OpenClaim.holds_of_wide 8 Tryz.f8 rfl rfl rfl rfl rfl rfl rfl ⟨rfl,rfl,rfl,rfl,rfl⟩ rfl rfl rfl rfl rfl (by kernel_rfl) Tryz.func8 (by kernel_rfl)
  (of_decide_eq_true (by kernel_rfl)) (by unfold Func.isWrapper;first | (rw[if_pos (by decide +kernel)];kernel_rfl) | (rw[if_neg (by decide +kernel)];exact⟨rfl,rfl⟩))
  (fun os started H enc _=>uu os started H enc)
#print axioms decodeNames_proved
end Go.Proofs.YtijlhblleiaomaaGreat
