/- The abstract machine, part 26: heaps that cleaning leaves as they are. -/
import Derived.Test.YtlibmcabpcehcaaAm25
set_option linter.unusedSimpArgs false
set_option linter.unusedVariables false
namespace Go.AM

/-- Boxes of pure cells, tokens, what is given up. -/
def AObj.plain : AObj → Bool
  | .box cells => cells.all AV.free'
  | .tok _ _ _ => true
  | .dead => true
  | _ => false
where AV.free' : AV → Bool
  | .pv _ => true
  | _ => false

theorem cut_pv {n d : Nat} {p : PV} : AV.cut n d (.pv p) = some (.pv p) := by cases d <;> rfl

theorem cutObj_plain {n : Nat} {o : AObj} (h : o.plain = true) : cutObj n o = some o := by
  cases o with
  | box cells =>
    simp only [AObj.plain] at h
    have : mapO (AV.cut n deep) cells = some cells := by
      induction cells with
      | nil => rfl
      | cons c cs ih =>
        simp only [List.all_cons, Bool.and_eq_true] at h
        cases c with
        | pv p => simp [mapO, cut_pv, ih h.2]
        | _ => simp [AObj.plain.AV.free'] at h
    simp [cutObj, this]
  | tok => rfl
  | dead => rfl
  | seq => simp [AObj.plain] at h
  | map => simp [AObj.plain] at h

theorem cut_plain {n : Nat} {T : List AObj} (h : T.all AObj.plain = true) : mapO (cutObj n) T = some T := by
  induction T with
  | nil => rfl
  | cons o T ih =>
    simp only [List.all_cons, Bool.and_eq_true] at h
    simp [mapO, cutObj_plain h.1, ih h.2]

end Go.AM
