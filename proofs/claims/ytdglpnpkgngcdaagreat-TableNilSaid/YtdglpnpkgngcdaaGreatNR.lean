/- TableNil: a nil table has nothing: for every number and bytes; no condition. -/
import Derived.Test.YtdglpnpkgngcdaaGreatN14
set_option linter.unusedVariables false
set_option maxRecDepth 100000
namespace Go.Proofs.YtdglpnpkgngcdaaGreat
open Go.ChangeShapes Go.WideShapes Go.ChangeAt Go.RowKit Go.AM
set_option maxHeartbeats 800000 in
set_option maxRecDepth 100000 in
theorem tableNil_lifted (os:Os) (started:os.Started) (H:Type) (enc:TypeId×Value→H):
 ReturnsInHanded {} Tryz.checked os 8 .any (Rows.tableNilSpec.pre6 enc Tryz.prog Tryz.f8 Rows.tableNilRow.domain false) (Rows.tableNilSpec.post enc Tryz.prog Tryz.f8 false true false false):=by
 refine law_lifted (C:=Tryz.checked) (ts:=[3,47]) (bt:=4) 8 own laidOut started (by kernel_rfl) Tryz.func8
  (ChangeSpec.witness6 (enc:=enc) (C:=Tryz.checked) false ⟨#[],#[.int .i64 0,.slice none 0 0],[]⟩ 8 (by kernel_rfl) (by kernel_rfl) (by kernel_rfl) (by kernel_rfl))
  rfl rfl Tryz.params8 (by kernel_rfl) Tryz.underlying4 (by kernel_rfl) B1.p_leadtraillaw15_TableNil ?_ ?_
 ·intro ds hd
  match ds,hd with
  | [d0,d1],_=>rfl
 ·intro ds hs
  obtain⟨r0,r1,e,h0,h1⟩:=shs_two (P:=Tryz.prog) hs
  show pureF (fun _=>none) B1.b_leadtraillaw15_TableNil (pvs Tryz.prog 8 [3,47] ds)=_
  obtain⟨n0,rfl,hn0⟩:=sh_int Tryz.underlying3 h0
  obtain⟨Bv1,bs1,rfl,hB1,hw1⟩:=sh_heldB h1
  rw[e,el_int Tryz.underlying3,el_slice Tryz.underlying47]
  exact B1.nil_run n0 hB1 (Nat.le_trans hw1 (by decide))
theorem tableNil_proved:Rows.TableNilSaid:=
 OpenClaim.holds_of_wide 8 Tryz.f8 rfl rfl rfl rfl rfl rfl rfl ⟨rfl,rfl,rfl,rfl,rfl⟩ rfl rfl rfl rfl rfl (by kernel_rfl) Tryz.func8 (by kernel_rfl)
  (of_decide_eq_true (by kernel_rfl)) (by unfold Func.isWrapper;first | (rw[if_pos (by decide +kernel)];kernel_rfl) | (rw[if_neg (by decide +kernel)];exact⟨rfl,rfl⟩))
  (fun os started H enc _=>tableNil_lifted os started H enc)
#print axioms tableNil_proved
end Go.Proofs.YtdglpnpkgngcdaaGreat
