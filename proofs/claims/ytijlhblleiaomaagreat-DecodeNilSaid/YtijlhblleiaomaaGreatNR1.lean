/- DecodeNil: a nil decoder refuses every call -/
import Derived.Test.YtijlhblleiaomaaGreatN17
set_option linter.unusedVariables false
set_option maxRecDepth 100000
namespace Go.Proofs.YtijlhblleiaomaaGreat
open Go.ChangeShapes Go.WideShapes Go.ChangeAt Go.RowKit Go.AM
set_option maxHeartbeats 800000 in
set_option maxRecDepth 100000 in
theorem Bx (os:Os) (started:os.Started) (H:Type) (enc:TypeId×Value→H):
 ReturnsInHanded {} Tryz.checked os 13 .any (Rows.decodeNilSpec.pre6 enc Tryz.prog Tryz.f13 Rows.decodeNilRow.domain false) (Rows.decodeNilSpec.post enc Tryz.prog Tryz.f13 false true false false):=by
 refine TA (C:=Tryz.checked) (ts:=[25]) (bt:=4) 8 own laidOut started (by kernel_rfl) Tryz.func13
  (ChangeSpec.witness6 (enc:=enc) (C:=Tryz.checked) false ⟨#[],#[.slice none 0 0],[]⟩ 8 (by kernel_rfl) (by kernel_rfl) (by kernel_rfl) (by kernel_rfl))
  rfl rfl Tryz.params13 (by kernel_rfl) Tryz.underlying4 (by kernel_rfl) B1.Tm ?_ ?_
 ·intro ds hd
  match ds,hd with
  | [d0],_=>rfl
 ·intro ds hs
  obtain⟨r0,e,h0⟩:=bQ (P:=Tryz.prog) hs
  show fc B1.Wb B1.ve (ZS Tryz.prog 8 [25] ds)=_
  obtain⟨Bv0,bs0,rfl,hB0,hw0⟩:=XN h0
  rw[e,AN Tryz.underlying25]
  exact B1.rB hB0
theorem decodeNil_proved:Rows.DecodeNilSaid:=
 OpenClaim.holds_of_wide 13 Tryz.f13 rfl rfl rfl rfl rfl rfl rfl ⟨rfl,rfl,rfl,rfl,rfl⟩ rfl rfl rfl rfl rfl (by kernel_rfl) Tryz.func13 (by kernel_rfl)
  (of_decide_eq_true (by kernel_rfl)) (by unfold Func.isWrapper;first | (rw[if_pos (by decide +kernel)];kernel_rfl) | (rw[if_neg (by decide +kernel)];exact⟨rfl,rfl⟩))
  (fun os started H enc _=>Bx os started H enc)
#print axioms decodeNil_proved
end Go.Proofs.YtijlhblleiaomaaGreat
