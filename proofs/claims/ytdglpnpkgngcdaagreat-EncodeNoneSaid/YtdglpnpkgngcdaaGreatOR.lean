/- EncodeNone: each scalar without a code string gives one event -/
import Derived.Test.YtdglpnpkgngcdaaGreatO14
set_option linter.unusedVariables false
set_option maxRecDepth 100000
namespace Go.Proofs.YtdglpnpkgngcdaaGreat
open Go.ChangeShapes Go.WideShapes Go.ChangeAt Go.RowKit Go.AM
set_option maxHeartbeats 800000 in
set_option maxRecDepth 100000 in
theorem Ly (os:Os) (started:os.Started) (H:Type) (enc:TypeId×Value→H):
 ReturnsInHanded {} Tryz.checked os 7 .any (Rows.encodeNoneSpec.pre6 enc Tryz.prog Tryz.f7 Rows.encodeNoneRow.domain false) (Rows.encodeNoneSpec.post enc Tryz.prog Tryz.f7 false true false false):=by
 refine bL (C:=Tryz.checked) (ts:=[24,77,83]) (bt:=4) 8 own laidOut started (by kernel_rfl) Tryz.func7
  (ChangeSpec.witness6 (enc:=enc) (C:=Tryz.checked) false ⟨#[],#[.agg #[.slice none 0 0],.slice none 0 0,.agg #[.int .i64 0,.int .i64 0]],[]⟩ 8 (by kernel_rfl) (by kernel_rfl) (by kernel_rfl) (by kernel_rfl))
  rfl rfl Tryz.params7 (by kernel_rfl) Tryz.underlying4 (by kernel_rfl) B1.Mo ?_ ?_
 ·intro ds hd
  match ds,hd with
  | [d0,d1,d2],_=>rfl
 ·intro ds hs
  obtain⟨r0,r1,r2,e,h0,h1,h2⟩:=aN (P:=Tryz.prog) hs
  show mc B1.Qa B1.Ab (TT Tryz.prog 8 [24,77,83] ds)=_
  obtain⟨Sv0,ss0,es0,rfl,hS0,hz0⟩:=lO h0
  obtain⟨Uv1,us1,rfl,hU1,hl1⟩:=MT h1
  obtain⟨un2,repl2,rfl⟩:=LV h2
  rw[e,Vv Tryz.underlying24,BJ Tryz.underlying77,Vv Tryz.underlying83]
  exact B1.LH hS0 hz0 hU1 un2 repl2
theorem encodeNone_proved:Rows.EncodeNoneSaid:=
 OpenClaim.holds_of_wide 7 Tryz.f7 rfl rfl rfl rfl rfl rfl rfl ⟨rfl,rfl,rfl,rfl,rfl⟩ rfl rfl rfl rfl rfl (by kernel_rfl) Tryz.func7 (by kernel_rfl)
  (of_decide_eq_true (by kernel_rfl)) (by unfold Func.isWrapper;first | (rw[if_pos (by decide +kernel)];kernel_rfl) | (rw[if_neg (by decide +kernel)];exact⟨rfl,rfl⟩))
  (fun os started H enc _=>Ly os started H enc)
#print axioms encodeNone_proved
end Go.Proofs.YtdglpnpkgngcdaaGreat
