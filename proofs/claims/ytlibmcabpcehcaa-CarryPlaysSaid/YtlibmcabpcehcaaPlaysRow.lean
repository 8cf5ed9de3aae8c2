/- CarryPlays: a carry answers New and every call, in any order, as the document says: for every room and every script; no condition. -/
import Derived.Test.YtlibmcabpcehcaaPlays2
import Derived.Test.YtlibmcabpcehcaaAm28
import Derived.Test.YtlibmcabpcehcaaNilRow
set_option linter.unusedVariables false
namespace Go.Proofs.Ytlibmcabpcehcaa
open Go.ChangeShapes Go.WideShapes Go.ChangeAt Go.RowKit Go.AM

theorem cells41' : Try.prog.cellsOf 41 = 3 := by kernel_rfl

theorem sh_op {g : Nat} {row : List PV} (h : Sh Try.prog (g + 2) 41 row) : ∃ k n b : Int, row = [.int .i64 k, .int .i64 n, .int .u8 b] := by
  obtain ⟨rows, hl, rfl, hr⟩ := sh_struct Try.underlying41 h
  match rows, hl with
  | [x, y, z], _ =>
    obtain ⟨k, rfl, _⟩ := sh_int Try.underlying3 (hr 0 _ x rfl rfl)
    obtain ⟨n, rfl, _⟩ := sh_int Try.underlying3 (hr 1 _ y rfl rfl)
    obtain ⟨b, rfl, _⟩ := sh_int Try.underlying5 (hr 2 _ z rfl rfl)
    exact ⟨k, n, b, rfl⟩

theorem sh_script {g : Nat} {row : List PV} (h : Sh Try.prog (g + 3) 35 row) : ∃ S len, row = [S] ∧ C1.Script S len ∧ len ≤ maxLen := by
  rcases sh_slice Try.underlying35 h with rfl | ⟨es, rfl, h1, _, h3⟩
  · exact ⟨_, 0, rfl, .inl ⟨rfl, rfl⟩, Nat.zero_le _⟩
  · refine ⟨_, es.length, rfl, .inr ⟨es.map (elPV Try.prog 41), ?_, ?_, ?_⟩, h1⟩
    · rw [cells41']
    · simp
    · intro o ho
      obtain ⟨r, hr, rfl⟩ := List.mem_map.1 ho
      obtain ⟨k, n, b, rfl⟩ := sh_op (h3 r hr)
      exact ⟨k, n, b, el_struct Try.underlying41⟩

theorem plays_pure : PureFn Try.prog 4 (pureF C1.tab0 C1.c_leadtraillaw02_CarryPlays) := pureF_ok C1.tab0_ok C1.plays_ok

set_option maxHeartbeats 800000 in
set_option maxRecDepth 100000 in
theorem plays_lifted (os : Os) (started : os.Started) (H : Type) (enc : TypeId × Value → H) :
    ReturnsInHanded {} Try.checked os 4 .any (Rows.carryPlaysSpec.pre6 enc Try.prog Try.f4 Rows.carryPlaysRow.domain false) (Rows.carryPlaysSpec.post enc Try.prog Try.f4 false true false false) := by
  refine law_lifted (C := Try.checked) (ts := [3, 35]) (bt := 4) 8 own laidOut started (by kernel_rfl) Try.func4
    (ChangeSpec.witness6 (enc := enc) (C := Try.checked) false ⟨#[], #[.int .i64 0, .slice none 0 0], []⟩ 8 (by kernel_rfl) (by kernel_rfl) (by kernel_rfl) (by kernel_rfl))
    rfl rfl Try.params4 (by kernel_rfl) Try.underlying4 (by kernel_rfl) plays_pure ?_ ?_
  · intro ds hd
    match ds, hd with
    | [d0, d1], _ => rfl
  · intro ds hs
    obtain ⟨r0, r1, e, h0, h1⟩ := shs_two (P := Try.prog) hs
    show pureF C1.tab0 C1.c_leadtraillaw02_CarryPlays (pvs Try.prog 8 [3, 35] ds) = _
    obtain ⟨n, rfl, _⟩ := sh_int Try.underlying3 h0
    obtain ⟨S, len, rfl, hS, hl⟩ := sh_script h1
    rw [e, el_int Try.underlying3, el_slice Try.underlying35]
    exact C1.plays_run n hS hl

theorem carryPlays_proved : Rows.CarryPlaysSaid :=
  OpenClaim.holds_of_wide 4 Try.f4 rfl rfl rfl rfl rfl rfl rfl ⟨rfl, rfl, rfl, rfl, rfl⟩ rfl rfl rfl rfl rfl (by kernel_rfl) Try.func4 (by kernel_rfl)
    (of_decide_eq_true (by kernel_rfl)) (by unfold Func.isWrapper; first | (rw [if_pos (by decide +kernel)]; kernel_rfl) | (rw [if_neg (by decide +kernel)]; exact ⟨rfl, rfl⟩))
    (fun os started H enc _ => plays_lifted os started H enc)

#print axioms carryPlays_proved
end Go.Proofs.Ytlibmcabpcehcaa
