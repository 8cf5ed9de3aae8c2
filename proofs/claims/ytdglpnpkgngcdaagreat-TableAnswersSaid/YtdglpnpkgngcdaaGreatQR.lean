/- TableAnswers: a table encodes, decodes, matches and steps as the document says -/
import Derived.Test.YtdglpnpkgngcdaaGreatQ15
set_option linter.unusedVariables false
set_option maxRecDepth 100000
namespace Go.Proofs.YtdglpnpkgngcdaaGreat
open Go.ChangeShapes Go.WideShapes Go.ChangeAt Go.RowKit Go.AM
set_option maxHeartbeats 800000 in
set_option maxRecDepth 100000 in
theorem Bx (os:Os) (started:os.Started) (H:Type) (enc:TypeId×Value→H):
 ReturnsInHanded {} Tryz.checked os 5 .any (Rows.tableAnswersSpec.pre6 enc Tryz.prog Tryz.f5 Rows.tableAnswersRow.domain false) (Rows.tableAnswersSpec.post enc Tryz.prog Tryz.f5 false true false false):=by
 refine rM (C:=Tryz.checked) (ts:=[24,3,47]) (bt:=4) 8 own laidOut started (by kernel_rfl) Tryz.func5
  (ChangeSpec.witness6 (enc:=enc) (C:=Tryz.checked) false ⟨#[],#[.agg #[.slice none 0 0],.int .i64 0,.slice none 0 0],[]⟩ 8 (by kernel_rfl) (by kernel_rfl) (by kernel_rfl) (by kernel_rfl))
  rfl rfl Tryz.params5 (by kernel_rfl) Tryz.underlying4 (by kernel_rfl) B1.Lo ?_ ?_
 ·intro ds hd
  match ds,hd with
  | [d0,d1,d2],_=>rfl
 ·intro ds hs
  obtain⟨r0,r1,r2,e,h0,h1,h2⟩:=CQ (P:=Tryz.prog) hs
  show Xb (fun _=>none) B1.tc (JU Tryz.prog 8 [24,3,47] ds)=_
  obtain⟨Sv0,ss0,es0,rfl,hS0,hz0⟩:=cR h0
  obtain⟨n1,rfl,hn1⟩:=MA Tryz.underlying3 h1
  obtain⟨Bv2,bs2,rfl,hB2,hw2⟩:=LR h2
  rw[e,oA Tryz.underlying24,YS Tryz.underlying3,MI Tryz.underlying47]
  exact B1.fK hS0 n1 hB2 (Nat.le_trans hw2 (by decide))
theorem tableAnswers_proved:Rows.TableAnswersSaid:=
 OpenClaim.holds_of_wide 5 Tryz.f5 rfl rfl rfl rfl rfl rfl rfl ⟨rfl,rfl,rfl,rfl,rfl⟩ rfl rfl rfl rfl rfl (by kernel_rfl) Tryz.func5 (by kernel_rfl)
  (of_decide_eq_true (by kernel_rfl)) (by unfold Func.isWrapper;first | (rw[if_pos (by decide +kernel)];kernel_rfl) | (rw[if_neg (by decide +kernel)];exact⟨rfl,rfl⟩))
  (fun os started H enc _=>Bx os started H enc)
#print axioms tableAnswers_proved
end Go.Proofs.YtdglpnpkgngcdaaGreat
