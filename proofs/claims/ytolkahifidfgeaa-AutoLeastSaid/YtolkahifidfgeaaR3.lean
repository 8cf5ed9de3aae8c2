/- AutoLeast: no two states of an automaton lead all bytes alike, each is reached, and each way ends within MaxSeq bytes: for every scheme; no condition. -/
import Derived.Test.YtolkahifidfgeaaU2
import Derived.Test.YtolkahifidfgeaaU3
set_option linter.unusedVariables false
set_option maxRecDepth 100000
namespace Go.Proofs.Ytolkahifidfgeaa
open Go.ChangeShapes Go.WideShapes Go.ChangeAt Go.RowKit Go.AM
set_option maxHeartbeats 800000 in
set_option maxRecDepth 100000 in
theorem least_lifted (os:Os) (started:os.Started) (H:Type) (enc:TypeId×Value→H):
 ReturnsInHanded {} Try.checked os 4 .any (Rows.autoLeastSpec.pre6 enc Try.prog Try.f4 Rows.autoLeastRow.domain false) (Rows.autoLeastSpec.post enc Try.prog Try.f4 false true false false):=by
 refine law_lifted (C:=Try.checked) (ts:=[24]) (bt:=4) 8 own laidOut started (by kernel_rfl) Try.func4
  (ChangeSpec.witness6 (enc:=enc) (C:=Try.checked) false ⟨#[],#[.agg #[.slice none 0 0]],[]⟩ 8 (by kernel_rfl) (by kernel_rfl) (by kernel_rfl) (by kernel_rfl))
  rfl rfl Try.params4 (by kernel_rfl) Try.underlying4 (by kernel_rfl) B1.p_leadtraillaw13_AutoLeast ?_ ?_
 ·intro ds hd
  match ds,hd with
  | [d0],_=>rfl
 ·intro ds hs
  obtain⟨r0,e,h0⟩:=shs_one (P:=Try.prog) hs
  show pureF (fun _=>none) B1.b_leadtraillaw13_AutoLeast (pvs Try.prog 8 [24] ds)=_
  obtain⟨S,ss,es,rfl,hS,hz⟩:=sh_scheme h0
  rw[e,el_struct Try.underlying24]
  exact B1.least_law_run hS
theorem autoLeast_proved:Rows.AutoLeastSaid:=
 OpenClaim.holds_of_wide 4 Try.f4 rfl rfl rfl rfl rfl rfl rfl ⟨rfl,rfl,rfl,rfl,rfl⟩ rfl rfl rfl rfl rfl (by kernel_rfl) Try.func4 (by kernel_rfl)
  (of_decide_eq_true (by kernel_rfl)) (by unfold Func.isWrapper;first | (rw[if_pos (by decide +kernel)];kernel_rfl) | (rw[if_neg (by decide +kernel)];exact⟨rfl,rfl⟩))
  (fun os started H enc _=>least_lifted os started H enc)
#print axioms autoLeast_proved
end Go.Proofs.Ytolkahifidfgeaa
