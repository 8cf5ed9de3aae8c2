/- DecodeCuts: however bytes are cut, a decoder shows the events of the whole -/
import Derived.Test.YtijlhblleiaomaaGreatL9
set_option linter.unusedVariables false
set_option maxRecDepth 100000
namespace Go.Proofs.YtijlhblleiaomaaGreat
open Go.ChangeShapes Go.WideShapes Go.ChangeAt Go.RowKit Go.AM
set_option maxHeartbeats 800000 in
set_option maxRecDepth 100000 in
theorem wad(os:Os)(started:os.Started)(H:Type)(enc:TypeId×Value->H):
 ReturnsInHanded {} Tryz.checked os 10 .any (Rows.decodeCutsSpec.pre6 enc Tryz.prog Tryz.f10 Rows.decodeCutsRow.domain false) (Rows.decodeCutsSpec.post enc Tryz.prog Tryz.f10 false true false false):=by
 refine cal (C:=Tryz.checked) (ts:=[24,25,46]) (bt:=4) 8 own laidOut started (by kernel_rfl) Tryz.func10
  (ChangeSpec.witness6 (enc:=enc) (C:=Tryz.checked) false ⟨#[],#[.agg #[.slice none 0 0],.slice none 0 0,.slice none 0 0],[]⟩ 8 (by kernel_rfl) (by kernel_rfl) (by kernel_rfl) (by kernel_rfl))
  rfl rfl Tryz.params10 (by kernel_rfl) Tryz.underlying4 (by kernel_rfl) B1.jan ?_ ?_
 ·intro ds hd
  match ds,hd with
  | [d0,d1,d2],_=>rfl
 ·intro ds hs
  obtain⟨r0,r1,r2,e,h0,h1,h2⟩:=zaq (P:=Tryz.prog) hs;show oc (fun _=>none) B1.oA (Jw Tryz.prog 8 [24,25,46] ds)=_
  obtain⟨Sv0,ss0,es0,rfl,Zq,rN⟩:=qaq h0;obtain⟨Bv1,bs1,rfl,Ms,u0⟩:=laq h1;obtain⟨Uv2,us2,rfl,hU2,Mh⟩:=maq h2;rw[e,wR Tryz.underlying24,vR Tryz.underlying25,vR Tryz.underlying46];exact B1.xad Zq rN Ms hU2 (Lj Mh.1 (by decide))
theorem decodeCuts_proved:Rows.DecodeCutsSaid:=
 OpenClaim.holds_of_wide 10 Tryz.f10 rfl rfl rfl rfl rfl rfl rfl ⟨rfl,rfl,rfl,rfl,rfl⟩ rfl rfl rfl rfl rfl (by kernel_rfl) Tryz.func10 (by kernel_rfl)
  (of_decide_eq_true (by kernel_rfl)) (by unfold Func.isWrapper;first | (rw[if_pos (by decide +kernel)];kernel_rfl) | (rw[qa (by decide +kernel)];exact⟨rfl,rfl⟩))
  (fun os started H enc _=>wad os started H enc)
#print axioms decodeCuts_proved
end Go.Proofs.YtijlhblleiaomaaGreat
