/- AutoTells: what Match tells of any bytes is what the shapes themselves say: for every scheme and bytes; no condition. -/
import Derived.Test.YtolkahifidfgeaaU2
import Derived.Test.YtolkahifidfgeaaU3
set_option linter.unusedVariables false
set_option maxRecDepth 100000
namespace Go.Proofs.Ytolkahifidfgeaa
open Go.ChangeShapes Go.WideShapes Go.ChangeAt Go.RowKit Go.AM
theorem cells5:Try.prog.cellsOf 5=1:=by kernel_rfl
theorem bytes5:Try.prog.bytesOf 5=1:=by kernel_rfl
theorem wf_u8 {n:Int} (h:(Lit.int .u8 n).wf=true):0≤n∧n≤255:=by
 simp only[Lit.wf,Bool.and_eq_true,decide_eq_true_eq] at h
 exact h
theorem sh_heldB {g:Nat} {row:List PV} (h:Sh Try.prog (g+2) 49 row):∃ (B:PV) (bs:List Int),row=[B]∧B1.HeldB B bs∧bs.length≤reachBytes:=by
 rcases sh_ints Try.underlying49 Try.underlying5 h with rfl | ⟨l,rfl,_,hl,hw⟩
 ·exact⟨_,[],rfl,⟨.inl ⟨rfl,rfl⟩,by simp⟩,Nat.zero_le _⟩
 ·rw[bytes5,Nat.mul_one] at hl
  exact⟨_,l,rfl,⟨.inr (by rw[cells5]),fun b hb=>wf_u8 (hw b hb)⟩,hl⟩
set_option maxHeartbeats 800000 in
set_option maxRecDepth 100000 in
theorem tells_lifted (os:Os) (started:os.Started) (H:Type) (enc:TypeId×Value→H):
 ReturnsInHanded {} Try.checked os 8 .any (Rows.autoTellsSpec.pre6 enc Try.prog Try.f8 Rows.autoTellsRow.domain false) (Rows.autoTellsSpec.post enc Try.prog Try.f8 false true false false):=by
 refine law_lifted (C:=Try.checked) (ts:=[24,49]) (bt:=4) 8 own laidOut started (by kernel_rfl) Try.func8
  (ChangeSpec.witness6 (enc:=enc) (C:=Try.checked) false ⟨#[],#[.agg #[.slice none 0 0],.slice none 0 0],[]⟩ 8 (by kernel_rfl) (by kernel_rfl) (by kernel_rfl) (by kernel_rfl))
  rfl rfl Try.params8 (by kernel_rfl) Try.underlying4 (by kernel_rfl) B1.p_leadtraillaw13_AutoTells ?_ ?_
 ·intro ds hd
  match ds,hd with
  | [d0,d1],_=>rfl
 ·intro ds hs
  obtain⟨r0,r1,e,h0,h1⟩:=shs_two (P:=Try.prog) hs
  show pureF (fun _=>none) B1.b_leadtraillaw13_AutoTells (pvs Try.prog 8 [24,49] ds)=_
  obtain⟨S,ss,es,rfl,hS,hz⟩:=sh_scheme h0
  obtain⟨B,bs,rfl,hB,hw⟩:=sh_heldB h1
  rw[e,el_struct Try.underlying24,el_slice Try.underlying49]
  exact B1.tells_run hS hB (Nat.le_trans hw (by decide))
theorem autoTells_proved:Rows.AutoTellsSaid:=
 OpenClaim.holds_of_wide 8 Try.f8 rfl rfl rfl rfl rfl rfl rfl ⟨rfl,rfl,rfl,rfl,rfl⟩ rfl rfl rfl rfl rfl (by kernel_rfl) Try.func8 (by kernel_rfl)
  (of_decide_eq_true (by kernel_rfl)) (by unfold Func.isWrapper;first | (rw[if_pos (by decide +kernel)];kernel_rfl) | (rw[if_neg (by decide +kernel)];exact⟨rfl,rfl⟩))
  (fun os started H enc _=>tells_lifted os started H enc)
#print axioms autoTells_proved
end Go.Proofs.Ytolkahifidfgeaa
