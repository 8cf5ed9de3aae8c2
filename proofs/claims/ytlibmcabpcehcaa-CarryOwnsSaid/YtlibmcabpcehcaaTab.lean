/- The functions that the rows Carry* reach, in a table; what the law's fixed example answers. -/
import Derived.Test.YtlibmcabpcehcaaChk
set_option linter.unusedVariables false
namespace Go.AM.C1
open Go.AM
noncomputable abbrev P : Program := Go.Proofs.Try.prog

theorem du0 : dutiesF Go.Proofs.Try.f6 c_leadtraillaw02_CarryNil = [(7, F_fixed)] := by kernel_rfl
theorem du1 : dutiesF Go.Proofs.Try.f4 c_leadtraillaw02_CarryPlays = [(7, F_fixed)] := by kernel_rfl
theorem du2 : dutiesF Go.Proofs.Try.f7 c_leadtraillaw02_fixed = [] := by kernel_rfl
theorem du3 : dutiesF Go.Proofs.Try.f8 c_carry_New = [] := by kernel_rfl
theorem du4 : dutiesF Go.Proofs.Try.f9 c_carry_Carry_Push = [] := by kernel_rfl
theorem du5 : dutiesF Go.Proofs.Try.f10 c_carry_Carry_Bytes = [] := by kernel_rfl
theorem du6 : dutiesF Go.Proofs.Try.f12 c_carry_Carry_At = [] := by kernel_rfl
theorem du7 : dutiesF Go.Proofs.Try.f13 c_leadtrailref02_New = [] := by kernel_rfl
theorem du8 : dutiesF Go.Proofs.Try.f14 c_leadtraillaw02_step = [] := by kernel_rfl
theorem du9 : dutiesF Go.Proofs.Try.f15 c_leadtraillaw02_same = [] := by kernel_rfl
theorem du10 : dutiesF Go.Proofs.Try.f16 c_carry_Carry_Len = [] := by kernel_rfl
theorem du11 : dutiesF Go.Proofs.Try.f17 c_carry_Carry_Room = [] := by kernel_rfl
theorem du12 : dutiesF Go.Proofs.Try.f18 c_carry_Carry_Drop = [] := by kernel_rfl
theorem du13 : dutiesF Go.Proofs.Try.f19 c_leadtrailref02_Carry_Push = [] := by kernel_rfl
theorem du14 : dutiesF Go.Proofs.Try.f20 c_leadtrailref02_Carry_Drop = [] := by kernel_rfl
theorem du15 : dutiesF Go.Proofs.Try.f5 c_leadtraillaw02_CarryQueue = [(7, F_fixed)] := by kernel_rfl

/-- The part of the table that calls nothing by contract. -/
def tab0 : Nat → Option AFn
  | 2 => some c_leadtraillaw02_fixed
  | 3 => some c_carry_New
  | 4 => some c_carry_Carry_Push
  | 5 => some c_carry_Carry_Bytes
  | 6 => some c_carry_Carry_At
  | 7 => some c_leadtrailref02_New
  | 8 => some c_leadtraillaw02_step
  | 9 => some c_leadtraillaw02_same
  | 10 => some c_carry_Carry_Len
  | 11 => some c_carry_Carry_Room
  | 12 => some c_carry_Carry_Drop
  | 13 => some c_leadtrailref02_Carry_Push
  | 14 => some c_leadtrailref02_Carry_Drop
  | _ => none

theorem noDuty {d : FuncId × (List PV → Option PV)} : d ∈ ([] : List (FuncId × (List PV → Option PV))) → PureFn P d.1 d.2 := fun h => by cases h

theorem tab0_ok : TableOk P fo tab0 := by
  intro ix af h
  unfold tab0 at h
  split at h
  · injection h with h; subst h; exact ⟨_, Go.Proofs.Try.func7, ok2, by rw [du2]; exact fun _ h => noDuty h⟩
  · injection h with h; subst h; exact ⟨_, Go.Proofs.Try.func8, ok3, by rw [du3]; exact fun _ h => noDuty h⟩
  · injection h with h; subst h; exact ⟨_, Go.Proofs.Try.func9, ok4, by rw [du4]; exact fun _ h => noDuty h⟩
  · injection h with h; subst h; exact ⟨_, Go.Proofs.Try.func10, ok5, by rw [du5]; exact fun _ h => noDuty h⟩
  · injection h with h; subst h; exact ⟨_, Go.Proofs.Try.func12, ok6, by rw [du6]; exact fun _ h => noDuty h⟩
  · injection h with h; subst h; exact ⟨_, Go.Proofs.Try.func13, ok7, by rw [du7]; exact fun _ h => noDuty h⟩
  · injection h with h; subst h; exact ⟨_, Go.Proofs.Try.func14, ok8, by rw [du8]; exact fun _ h => noDuty h⟩
  · injection h with h; subst h; exact ⟨_, Go.Proofs.Try.func15, ok9, by rw [du9]; exact fun _ h => noDuty h⟩
  · injection h with h; subst h; exact ⟨_, Go.Proofs.Try.func16, ok10, by rw [du10]; exact fun _ h => noDuty h⟩
  · injection h with h; subst h; exact ⟨_, Go.Proofs.Try.func17, ok11, by rw [du11]; exact fun _ h => noDuty h⟩
  · injection h with h; subst h; exact ⟨_, Go.Proofs.Try.func18, ok12, by rw [du12]; exact fun _ h => noDuty h⟩
  · injection h with h; subst h; exact ⟨_, Go.Proofs.Try.func19, ok13, by rw [du13]; exact fun _ h => noDuty h⟩
  · injection h with h; subst h; exact ⟨_, Go.Proofs.Try.func20, ok14, by rw [du14]; exact fun _ h => noDuty h⟩
  · cases h

theorem _root_.Go.AM.PureFn.weaken {P : Program} {f : FuncId} {F G : List PV → Option PV} (h : PureFn P f G) (hF : ∀ xs r, F xs = some r → G xs = some r) : PureFn P f F :=
  ⟨h.1, fun w R args vs r hR hl hr => h.2 w R args vs r hR hl (hF _ _ hr)⟩

theorem fixed_run : pureF tab0 c_leadtraillaw02_fixed [] = some (.bool true) := by kernel_rfl

theorem fixed_pure : PureFn P 7 F_fixed := by
  refine (pureF_ok tab0_ok ⟨_, Go.Proofs.Try.func7, ok2, by rw [du2]; exact fun _ h => noDuty h⟩).weaken fun xs r h => ?_
  cases xs with
  | nil => rw [fixed_run]; exact h
  | cons _ _ => cases h

theorem duty7 {d : FuncId × (List PV → Option PV)} (h : d ∈ [(7, F_fixed)]) : PureFn P d.1 d.2 := by
  simp only [List.mem_singleton] at h
  subst h
  exact fixed_pure

theorem nil_ok : FnOk P fo 6 c_leadtraillaw02_CarryNil := ⟨_, Go.Proofs.Try.func6, ok0, by rw [du0]; exact fun _ h => duty7 h⟩
theorem plays_ok : FnOk P fo 4 c_leadtraillaw02_CarryPlays := ⟨_, Go.Proofs.Try.func4, ok1, by rw [du1]; exact fun _ h => duty7 h⟩
theorem queue_ok : FnOk P fo 5 c_leadtraillaw02_CarryQueue := ⟨_, Go.Proofs.Try.func5, ok15, by rw [du15]; exact fun _ h => duty7 h⟩

end Go.AM.C1
