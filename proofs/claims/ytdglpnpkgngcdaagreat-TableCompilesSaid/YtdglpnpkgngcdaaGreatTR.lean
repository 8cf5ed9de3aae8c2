/- TableCompiles: every scheme is compiled, or refused with the right error -/
import Derived.Test.YtdglpnpkgngcdaaGreatT14
set_option linter.unusedVariables false
set_option maxRecDepth 100000
namespace Go.Proofs.YtdglpnpkgngcdaaGreat
open Go.ChangeShapes Go.WideShapes Go.ChangeAt Go.RowKit Go.AM
set_option maxHeartbeats 800000 in
set_option maxRecDepth 100000 in
theorem bw (os:Os) (started:os.Started) (H:Type) (enc:TypeId×Value→H):
 ReturnsInHanded {} Tryz.checked os 3 .any (Rows.tableCompilesSpec.pre6 enc Tryz.prog Tryz.f3 Rows.tableCompilesRow.domain false) (Rows.tableCompilesSpec.post enc Tryz.prog Tryz.f3 false true false false):=by
 refine xM (C:=Tryz.checked) (ts:=[24]) (bt:=4) 8 own laidOut started (by kernel_rfl) Tryz.func3
  (ChangeSpec.witness6 (enc:=enc) (C:=Tryz.checked) false ⟨#[],#[.agg #[.slice none 0 0]],[]⟩ 8 (by kernel_rfl) (by kernel_rfl) (by kernel_rfl) (by kernel_rfl))
  rfl rfl Tryz.params3 (by kernel_rfl) Tryz.underlying4 (by kernel_rfl) B1.xn ?_ ?_
 ·intro ds hd
  match ds,hd with
  | [d0],_=>rfl
 ·intro ds hs
  obtain⟨r0,e,h0⟩:=oU (P:=Tryz.prog) hs
  show Wb (fun _=>none) B1.Gc (eX Tryz.prog 8 [24] ds)=_
  obtain⟨Sv0,ss0,es0,rfl,hS0,hz0⟩:=DQ h0
  rw[e,PA Tryz.underlying24]
  exact B1.aH hS0 hz0
theorem tableCompiles_proved:Rows.TableCompilesSaid:=
 OpenClaim.holds_of_wide 3 Tryz.f3 rfl rfl rfl rfl rfl rfl rfl ⟨rfl,rfl,rfl,rfl,rfl⟩ rfl rfl rfl rfl rfl (by kernel_rfl) Tryz.func3 (by kernel_rfl)
  (of_decide_eq_true (by kernel_rfl)) (by unfold Func.isWrapper;first | (rw[if_pos (by decide +kernel)];kernel_rfl) | (rw[if_neg (by decide +kernel)];exact⟨rfl,rfl⟩))
  (fun os started H enc _=>bw os started H enc)
#print axioms tableCompiles_proved
end Go.Proofs.YtdglpnpkgngcdaaGreat
