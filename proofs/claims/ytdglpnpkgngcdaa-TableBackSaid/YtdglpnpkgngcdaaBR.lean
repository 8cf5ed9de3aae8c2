/- TableBack: what a table encodes it decodes to the same scalar, and what it matches as whole it decodes and encodes to the same bytes: for every scheme, scalar and bytes; no condition. -/
import Derived.Test.YtdglpnpkgngcdaaB14
set_option linter.unusedVariables false
set_option maxRecDepth 100000
namespace Go.Proofs.Ytdglpnpkgngcdaa
open Go.ChangeShapes Go.WideShapes Go.ChangeAt Go.RowKit Go.AM
set_option maxHeartbeats 800000 in
set_option maxRecDepth 100000 in
theorem tableBack_lifted (os:Os) (started:os.Started) (H:Type) (enc:TypeId×Value→H):
 ReturnsInHanded {} Try.checked os 3 .any (Rows.tableBackSpec.pre6 enc Try.prog Try.f3 Rows.tableBackRow.domain false) (Rows.tableBackSpec.post enc Try.prog Try.f3 false true false false):=by
 refine law_lifted (C:=Try.checked) (ts:=[24,3,25]) (bt:=4) 8 own laidOut started (by kernel_rfl) Try.func3
  (ChangeSpec.witness6 (enc:=enc) (C:=Try.checked) false ⟨#[],#[.agg #[.slice none 0 0],.int .i64 0,.slice none 0 0],[]⟩ 8 (by kernel_rfl) (by kernel_rfl) (by kernel_rfl) (by kernel_rfl))
  rfl rfl Try.params3 (by kernel_rfl) Try.underlying4 (by kernel_rfl) B1.p_leadtraillaw15_TableBack ?_ ?_
 ·intro ds hd
  match ds,hd with
  | [d0,d1,d2],_=>rfl
 ·intro ds hs
  obtain⟨r0,r1,r2,e,h0,h1,h2⟩:=shs_three (P:=Try.prog) hs
  show pureF (fun _=>none) B1.b_leadtraillaw15_TableBack (pvs Try.prog 8 [24,3,25] ds)=_
  obtain⟨S0,ss0,es0,rfl,hS0,hz0⟩:=sh_scheme h0
  obtain⟨n1,rfl,hn1⟩:=sh_int Try.underlying3 h1
  obtain⟨B2,bs2,rfl,hB2,hw2⟩:=sh_heldB h2
  rw[e,el_struct Try.underlying24,el_int Try.underlying3,el_slice Try.underlying25]
  exact B1.back_run hS0 n1 hB2 (Nat.le_trans hw2 (by decide))
theorem tableBack_proved:Rows.TableBackSaid:=
 OpenClaim.holds_of_wide 3 Try.f3 rfl rfl rfl rfl rfl rfl rfl ⟨rfl,rfl,rfl,rfl,rfl⟩ rfl rfl rfl rfl rfl (by kernel_rfl) Try.func3 (by kernel_rfl)
  (of_decide_eq_true (by kernel_rfl)) (by unfold Func.isWrapper;first | (rw[if_pos (by decide +kernel)];kernel_rfl) | (rw[if_neg (by decide +kernel)];exact⟨rfl,rfl⟩))
  (fun os started H enc _=>tableBack_lifted os started H enc)
#print axioms tableBack_proved
end Go.Proofs.Ytdglpnpkgngcdaa
