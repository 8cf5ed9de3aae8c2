/- AutoKnows: a code string is known, whatever stands behind it, and each shorter beginning of it is told as a part: for every scheme, scalar and bytes; no condition. -/
import Derived.Test.YtolkahifidfgeaaU2
import Derived.Test.YtolkahifidfgeaaR1
set_option linter.unusedVariables false
set_option maxRecDepth 100000
namespace Go.Proofs.Ytolkahifidfgeaa
open Go.ChangeShapes Go.WideShapes Go.ChangeAt Go.RowKit Go.AM
theorem wf_i64 {n:Int} (h:(Lit.int .i64 n).wf=true): -9223372036854775808≤n∧n≤9223372036854775807:=by
 simp only[Lit.wf,Bool.and_eq_true,decide_eq_true_eq] at h
 exact h
set_option maxHeartbeats 800000 in
set_option maxRecDepth 100000 in
theorem knows_lifted (os:Os) (started:os.Started) (H:Type) (enc:TypeId×Value→H):
 ReturnsInHanded {} Try.checked os 9 .any (Rows.autoKnowsSpec.pre6 enc Try.prog Try.f9 Rows.autoKnowsRow.domain false) (Rows.autoKnowsSpec.post enc Try.prog Try.f9 false true false false):=by
 refine law_lifted (C:=Try.checked) (ts:=[24,3,49]) (bt:=4) 8 own laidOut started (by kernel_rfl) Try.func9
  (ChangeSpec.witness6 (enc:=enc) (C:=Try.checked) false ⟨#[],#[.agg #[.slice none 0 0],.int .i64 0,.slice none 0 0],[]⟩ 8 (by kernel_rfl) (by kernel_rfl) (by kernel_rfl) (by kernel_rfl))
  rfl rfl Try.params9 (by kernel_rfl) Try.underlying4 (by kernel_rfl) B1.p_leadtraillaw13_AutoKnows ?_ ?_
 ·intro ds hd
  match ds,hd with
  | [d0,d1,d2],_=>rfl
 ·intro ds hs
  obtain⟨r0,r1,r2,e,h0,h1,h2⟩:=shs_three (P:=Try.prog) hs
  show pureF (fun _=>none) B1.b_leadtraillaw13_AutoKnows (pvs Try.prog 8 [24,3,49] ds)=_
  obtain⟨S,ss,es,rfl,hS,hz⟩:=sh_scheme h0
  obtain⟨n,rfl,hn⟩:=sh_int Try.underlying3 h1
  obtain⟨B,bs,rfl,hB,hw⟩:=sh_heldB h2
  rw[e,el_struct Try.underlying24,el_int Try.underlying3,el_slice Try.underlying49]
  exact B1.knows_run hS (wf_i64 hn).2 hB (Nat.le_trans hw (by decide))
theorem autoKnows_proved:Rows.AutoKnowsSaid:=
 OpenClaim.holds_of_wide 9 Try.f9 rfl rfl rfl rfl rfl rfl rfl ⟨rfl,rfl,rfl,rfl,rfl⟩ rfl rfl rfl rfl rfl (by kernel_rfl) Try.func9 (by kernel_rfl)
  (of_decide_eq_true (by kernel_rfl)) (by unfold Func.isWrapper;first | (rw[if_pos (by decide +kernel)];kernel_rfl) | (rw[if_neg (by decide +kernel)];exact⟨rfl,rfl⟩))
  (fun os started H enc _=>knows_lifted os started H enc)
#print axioms autoKnows_proved
end Go.Proofs.Ytolkahifidfgeaa
