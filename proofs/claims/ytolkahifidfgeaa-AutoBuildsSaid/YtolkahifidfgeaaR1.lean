/- AutoBuilds: every scheme has the automaton that the document says, or is refused with the right error: for every scheme; no condition. -/
import Derived.Test.YtolkahifidfgeaaU2
import Derived.Test.YtolkahifidfgeaaU3
set_option linter.unusedVariables false
set_option maxRecDepth 100000
namespace Go.Proofs.Ytolkahifidfgeaa
open Go.ChangeShapes Go.WideShapes Go.ChangeAt Go.RowKit Go.AM
set_option maxHeartbeats 800000 in
set_option maxRecDepth 100000 in
theorem builds_lifted (os:Os) (started:os.Started) (H:Type) (enc:TypeId×Value→H):
 ReturnsInHanded {} Try.checked os 3 .any (Rows.autoBuildsSpec.pre6 enc Try.prog Try.f3 Rows.autoBuildsRow.domain false) (Rows.autoBuildsSpec.post enc Try.prog Try.f3 false true false false):=by
 refine law_lifted (C:=Try.checked) (ts:=[24]) (bt:=4) 8 own laidOut started (by kernel_rfl) Try.func3
  (ChangeSpec.witness6 (enc:=enc) (C:=Try.checked) false ⟨#[],#[.agg #[.slice none 0 0]],[]⟩ 8 (by kernel_rfl) (by kernel_rfl) (by kernel_rfl) (by kernel_rfl))
  rfl rfl Try.params3 (by kernel_rfl) Try.underlying4 (by kernel_rfl) B1.p_leadtraillaw13_AutoBuilds ?_ ?_
 ·intro ds hd
  match ds,hd with
  | [d0],_=>rfl
 ·intro ds hs
  obtain⟨r0,e,h0⟩:=shs_one (P:=Try.prog) hs
  show pureF (fun _=>none) B1.b_leadtraillaw13_AutoBuilds (pvs Try.prog 8 [24] ds)=_
  obtain⟨S,ss,es,rfl,hS,hz⟩:=sh_scheme h0
  rw[e,el_struct Try.underlying24]
  exact B1.builds_run hS hz
theorem autoBuilds_proved:Rows.AutoBuildsSaid:=
 OpenClaim.holds_of_wide 3 Try.f3 rfl rfl rfl rfl rfl rfl rfl ⟨rfl,rfl,rfl,rfl,rfl⟩ rfl rfl rfl rfl rfl (by kernel_rfl) Try.func3 (by kernel_rfl)
  (of_decide_eq_true (by kernel_rfl)) (by unfold Func.isWrapper;first | (rw[if_pos (by decide +kernel)];kernel_rfl) | (rw[if_neg (by decide +kernel)];exact⟨rfl,rfl⟩))
  (fun os started H enc _=>builds_lifted os started H enc)
#print axioms autoBuilds_proved
end Go.Proofs.Ytolkahifidfgeaa
