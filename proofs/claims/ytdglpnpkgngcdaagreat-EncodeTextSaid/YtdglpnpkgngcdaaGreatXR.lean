/- EncodeText: however scalars of the repertoire are cut into pieces, an encoder writes their text -/
import Derived.Test.YtdglpnpkgngcdaaGreatX14
set_option linter.unusedVariables false
set_option maxRecDepth 100000
namespace Go.Proofs.YtdglpnpkgngcdaaGreat
open Go.ChangeShapes Go.WideShapes Go.ChangeAt Go.RowKit Go.AM
set_option maxHeartbeats 800000 in
set_option maxRecDepth 100000 in
theorem lz (os:Os) (started:os.Started) (H:Type) (enc:TypeId×Value→H):
 ReturnsInHanded {} Tryz.checked os 13 .any (Rows.encodeTextSpec.pre6 enc Tryz.prog Tryz.f13 Rows.encodeTextRow.domain false) (Rows.encodeTextSpec.post enc Tryz.prog Tryz.f13 false true false false):=by
 refine GK (C:=Tryz.checked) (ts:=[24,77,77]) (bt:=4) 8 own laidOut started (by kernel_rfl) Tryz.func13
  (ChangeSpec.witness6 (enc:=enc) (C:=Tryz.checked) false ⟨#[],#[.agg #[.slice none 0 0],.slice none 0 0,.slice none 0 0],[]⟩ 8 (by kernel_rfl) (by kernel_rfl) (by kernel_rfl) (by kernel_rfl))
  rfl rfl Tryz.params13 (by kernel_rfl) Tryz.underlying4 (by kernel_rfl) B1.cp ?_ ?_
 ·intro ds hd
  match ds,hd with
  | [d0,d1,d2],_=>rfl
 ·intro ds hs
  obtain⟨r0,r1,r2,e,h0,h1,h2⟩:=jO (P:=Tryz.prog) hs
  show Xb B1.Ra B1.Bb (wU Tryz.prog 8 [24,77,77] ds)=_
  obtain⟨Sv0,ss0,es0,rfl,hS0,hz0⟩:=uQ h0
  obtain⟨Uv1,us1,rfl,hU1,hl1⟩:=LM h1
  obtain⟨Uv2,us2,rfl,hU2,hl2⟩:=LM h2
  rw[e,Uz Tryz.underlying24,LI Tryz.underlying77]
  exact B1.aJ hS0 hz0 hU1 hU2 (Nat.le_trans hl1.1 (by decide)) (Nat.le_trans hl2.1 (by decide)) hl1.2
theorem encodeText_proved:Rows.EncodeTextSaid:=
 OpenClaim.holds_of_wide 13 Tryz.f13 rfl rfl rfl rfl rfl rfl rfl ⟨rfl,rfl,rfl,rfl,rfl⟩ rfl rfl rfl rfl rfl (by kernel_rfl) Tryz.func13 (by kernel_rfl)
  (of_decide_eq_true (by kernel_rfl)) (by unfold Func.isWrapper;first | (rw[if_pos (by decide +kernel)];kernel_rfl) | (rw[if_neg (by decide +kernel)];exact⟨rfl,rfl⟩))
  (fun os started H enc _=>lz os started H enc)
#print axioms encodeText_proved
end Go.Proofs.YtdglpnpkgngcdaaGreat
