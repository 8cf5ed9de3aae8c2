/- EncodeNames: what New refuses and the limit of a stream -/
import Derived.Test.YtdglpnpkgngcdaaGreatM15
set_option linter.unusedVariables false
set_option maxRecDepth 100000
namespace Go.Proofs.YtdglpnpkgngcdaaGreat
open Go.ChangeShapes Go.WideShapes Go.ChangeAt Go.RowKit Go.AM
set_option maxHeartbeats 800000 in
set_option maxRecDepth 100000 in
theorem encodeNames_lifted (os:Os) (started:os.Started) (H:Type) (enc:TypeId×Value→H):
 ReturnsInHanded {} Tryz.checked os 6 .any (Rows.encodeNamesSpec.pre6 enc Tryz.prog Tryz.f6 Rows.encodeNamesRow.domain false) (Rows.encodeNamesSpec.post enc Tryz.prog Tryz.f6 false true false false):=by
 refine law_lifted (C:=Tryz.checked) (ts:=[]) (bt:=4) 8 own laidOut started (by kernel_rfl) Tryz.func6
  (ChangeSpec.witness6 (enc:=enc) (C:=Tryz.checked) false ⟨#[],#[],[]⟩ 8 (by kernel_rfl) (by kernel_rfl) (by kernel_rfl) (by kernel_rfl))
  rfl rfl Tryz.params6 (by kernel_rfl) Tryz.underlying4 (by kernel_rfl) B1.p_leadtraillaw19_EncodeNames ?_ ?_
 ·intro ds hd
  match ds,hd with
  | [],_=>rfl
 ·intro ds hs
  obtain rfl:=shs_nil hs
  exact B1.encnames_run
theorem encodeNames_proved:Rows.EncodeNamesSaid:=
 OpenClaim.holds_of_wide 6 Tryz.f6 rfl rfl rfl rfl rfl rfl rfl ⟨rfl,rfl,rfl,rfl,rfl⟩ rfl rfl rfl rfl rfl (by kernel_rfl) Tryz.func6 (by kernel_rfl)
  (of_decide_eq_true (by kernel_rfl)) (by unfold Func.isWrapper;first | (rw[if_pos (by decide +kernel)];kernel_rfl) | (rw[if_neg (by decide +kernel)];exact⟨rfl,rfl⟩))
  (fun os started H enc _=>encodeNames_lifted os started H enc)
#print axioms encodeNames_proved
end Go.Proofs.YtdglpnpkgngcdaaGreat
