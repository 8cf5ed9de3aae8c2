/- EncodePlays: an encoder answers every call, in any order, as the document says -/
import Derived.Test.YtdglpnpkgngcdaaGreatP15
set_option linter.unusedVariables false
set_option maxRecDepth 100000
namespace Go.Proofs.YtdglpnpkgngcdaaGreat
open Go.ChangeShapes Go.WideShapes Go.ChangeAt Go.RowKit Go.AM
set_option maxHeartbeats 800000 in
set_option maxRecDepth 100000 in
theorem Py (os:Os) (started:os.Started) (H:Type) (enc:TypeId×Value→H):
 ReturnsInHanded {} Tryz.checked os 11 .any (Rows.encodePlaysSpec.pre6 enc Tryz.prog Tryz.f11 Rows.encodePlaysRow.domain false) (Rows.encodePlaysSpec.post enc Tryz.prog Tryz.f11 false true false false):=by
 refine sM (C:=Tryz.checked) (ts:=[24,83,106]) (bt:=4) 8 own laidOut started (by kernel_rfl) Tryz.func11
  (ChangeSpec.witness6 (enc:=enc) (C:=Tryz.checked) false ⟨#[],#[.agg #[.slice none 0 0],.agg #[.int .i64 0,.int .i64 0],.slice none 0 0],[]⟩ 8 (by kernel_rfl) (by kernel_rfl) (by kernel_rfl) (by kernel_rfl))
  rfl rfl Tryz.params11 (by kernel_rfl) Tryz.underlying4 (by kernel_rfl) B1.dp ?_ ?_
 ·intro ds hd
  match ds,hd with
  | [d0,d1,d2],_=>rfl
 ·intro ds hs
  obtain⟨r0,r1,r2,e,h0,h1,h2⟩:=xP (P:=Tryz.prog) hs
  show Zb B1.Xb B1.Ib (jV Tryz.prog 8 [24,83,106] ds)=_
  obtain⟨Sv0,ss0,es0,rfl,hS0,hz0⟩:=aP h0
  obtain⟨un1,repl1,rfl⟩:=fX h1
  obtain⟨Wv2,ops2,rfl,hW2⟩:=qU h2
  rw[e,Kt Tryz.underlying24,Kt Tryz.underlying83,sJ Tryz.underlying106]
  exact B1.mI hS0 hz0 un1 repl1 hW2
theorem encodePlays_proved:Rows.EncodePlaysSaid:=
 OpenClaim.holds_of_wide 11 Tryz.f11 rfl rfl rfl rfl rfl rfl rfl ⟨rfl,rfl,rfl,rfl,rfl⟩ rfl rfl rfl rfl rfl (by kernel_rfl) Tryz.func11 (by kernel_rfl)
  (of_decide_eq_true (by kernel_rfl)) (by unfold Func.isWrapper;first | (rw[if_pos (by decide +kernel)];kernel_rfl) | (rw[if_neg (by decide +kernel)];exact⟨rfl,rfl⟩))
  (fun os started H enc _=>Py os started H enc)
#print axioms encodePlays_proved
end Go.Proofs.YtdglpnpkgngcdaaGreat
