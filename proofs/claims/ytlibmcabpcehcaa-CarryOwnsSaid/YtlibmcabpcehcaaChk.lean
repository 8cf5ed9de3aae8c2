/- The abstract code of the functions of the rows Carry* is that of the program: checked by evaluation. -/
import Derived.Test.YtlibmcabpcehcaaCode
namespace Go.AM.C1
open Go.AM
theorem ok0 : okFunc Go.Proofs.Try.prog fo Go.Proofs.Try.f6 c_leadtraillaw02_CarryNil = true := by kernel_rfl
theorem ok1 : okFunc Go.Proofs.Try.prog fo Go.Proofs.Try.f4 c_leadtraillaw02_CarryPlays = true := by kernel_rfl
theorem ok2 : okFunc Go.Proofs.Try.prog fo Go.Proofs.Try.f7 c_leadtraillaw02_fixed = true := by kernel_rfl
theorem ok3 : okFunc Go.Proofs.Try.prog fo Go.Proofs.Try.f8 c_carry_New = true := by kernel_rfl
theorem ok4 : okFunc Go.Proofs.Try.prog fo Go.Proofs.Try.f9 c_carry_Carry_Push = true := by kernel_rfl
theorem ok5 : okFunc Go.Proofs.Try.prog fo Go.Proofs.Try.f10 c_carry_Carry_Bytes = true := by kernel_rfl
theorem ok6 : okFunc Go.Proofs.Try.prog fo Go.Proofs.Try.f12 c_carry_Carry_At = true := by kernel_rfl
theorem ok7 : okFunc Go.Proofs.Try.prog fo Go.Proofs.Try.f13 c_leadtrailref02_New = true := by kernel_rfl
theorem ok8 : okFunc Go.Proofs.Try.prog fo Go.Proofs.Try.f14 c_leadtraillaw02_step = true := by kernel_rfl
theorem ok9 : okFunc Go.Proofs.Try.prog fo Go.Proofs.Try.f15 c_leadtraillaw02_same = true := by kernel_rfl
theorem ok10 : okFunc Go.Proofs.Try.prog fo Go.Proofs.Try.f16 c_carry_Carry_Len = true := by kernel_rfl
theorem ok11 : okFunc Go.Proofs.Try.prog fo Go.Proofs.Try.f17 c_carry_Carry_Room = true := by kernel_rfl
theorem ok12 : okFunc Go.Proofs.Try.prog fo Go.Proofs.Try.f18 c_carry_Carry_Drop = true := by kernel_rfl
theorem ok13 : okFunc Go.Proofs.Try.prog fo Go.Proofs.Try.f19 c_leadtrailref02_Carry_Push = true := by kernel_rfl
theorem ok14 : okFunc Go.Proofs.Try.prog fo Go.Proofs.Try.f20 c_leadtrailref02_Carry_Drop = true := by kernel_rfl
theorem ok15 : okFunc Go.Proofs.Try.prog fo Go.Proofs.Try.f5 c_leadtraillaw02_CarryQueue = true := by kernel_rfl
end Go.AM.C1
