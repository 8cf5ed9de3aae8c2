/- The abstract code of the program's functions and of the statements, continued. -/
import Derived.Test.YtolkahifidfgeaaC2

/- The abstract code of the functions that the rows Auto* reach, part 5, printed by gen_b1.py: it is that of the program, and each is what its code computes. -/
set_option linter.unusedVariables false
namespace Go.AM.B1
open Go.AM

end Go.AM.B1

/- The abstract code of the functions that the rows Auto* reach, part 6, printed by gen_b1.py: it is that of the program, and each is what its code computes. -/
set_option linter.unusedVariables false
namespace Go.AM.B1
open Go.AM

/-- leadtrail/auto.Step$1 -/
def b_auto_Step_1 : AFn := ⟨2, [.tmp 3],
    (.seq (.region [⟨(some 2), .boxR 3 (.t 0), none, false⟩,
       ⟨(some 3), .move (.c (.bool false)), none, false⟩])
     (.seq (.region [⟨(some 4), .faddr 0 (.t 2), none, true⟩,
       ⟨(some 5), .load false 1 (.t 4), none, true⟩,
       ⟨(some 6), .load false 1 (.t 1), none, false⟩,
       ⟨(some 7), .conv .i64 (.t 6), none, false⟩,
       ⟨(some 8), .bin .leq (.t 5) (.t 7), none, false⟩,
       ⟨(some 9), .move (.t 8), none, false⟩,
       ⟨(some 10), .load false 1 (.t 1), (some (9, true)), false⟩,
       ⟨(some 11), .conv .i64 (.t 10), (some (9, true)), false⟩,
       ⟨(some 12), .faddr 1 (.t 2), (some (9, true)), true⟩,
       ⟨(some 13), .load false 1 (.t 12), (some (9, true)), true⟩,
       ⟨(some 14), .bin .leq (.t 11) (.t 13), (some (9, true)), false⟩,
       ⟨(some 15), .pick (.t 9) (.t 14) (.c (.bool false)), none, false⟩,
       ⟨(some 3), .move (.t 15), none, false⟩])
     (.ret)))⟩
theorem ok_auto_Step_1 : okFunc Go.Proofs.Try.prog fo Go.Proofs.Try.f47 b_auto_Step_1 = true := by kernel_rfl
theorem du_auto_Step_1 : dutiesF Go.Proofs.Try.f47 b_auto_Step_1 = [] := by kernel_rfl
theorem fn_auto_Step_1 : FnOk P fo 47 b_auto_Step_1 := ⟨_, Go.Proofs.Try.func47, ok_auto_Step_1, by rw [du_auto_Step_1]; exact fun _ h => by cases h⟩

def b_slices_IndexFunc_api_Edge_api_Edge_l0 : ACode :=
    (.seq (.region [⟨(some 9), .bin .lss (.t 8) (.t 7), none, false⟩])
     (.seq (.cond (.t 9) (.skip) (.exit 0))
     (.seq (.block 1 (.seq (.region [⟨(some 10), .move (.t 8), none, false⟩,
        ⟨(some 5), .move (.t 10), none, false⟩])
      (.seq (.region [⟨(some 11), .move (.t 1), none, false⟩,
        ⟨(some 12), .move (.t 0), none, false⟩,
        ⟨(some 13), .move (.t 5), none, false⟩,
        ⟨(some 14), .iaddr 3 (.t 12) (.t 13), none, false⟩,
        ⟨(some 15), .load true 3 (.t 14), none, false⟩,
        ⟨(some 16), .callV (.t 11) [(.t 15)], none, false⟩])
      (.cond (.t 16) (.seq (.region [⟨(some 17), .move (.t 5), none, false⟩,
         ⟨(some 4), .move (.t 17), none, false⟩])
       (.ret)) (.skip)))))
     (.region [⟨(some 18), .bin .add (.t 8) (.c (.int .i64 1)), none, false⟩,
       ⟨(some 8), .move (.t 18), none, false⟩]))))
/-- slices.IndexFunc[[]leadtrail/api.Edge,leadtrail/api.Edge] -/
def b_slices_IndexFunc_api_Edge_api_Edge : AFn := ⟨2, [.tmp 4],
    (.seq (.region [⟨(some 4), .move (.c (.int .i64 0)), none, false⟩])
     (.seq (.seq (.region [⟨(some 6), .move (.t 0), none, false⟩,
       ⟨(some 7), .len 0 (.t 6), none, false⟩,
       ⟨(some 8), .move (.c (.int .i64 0)), none, false⟩])
     (.block 0 (.loop [0, 1, 7, 8] b_slices_IndexFunc_api_Edge_api_Edge_l0)))
     (.seq (.region [⟨(some 4), .move (.c (.int .i64 (-1))), none, false⟩])
     (.ret))))⟩
theorem ok_slices_IndexFunc_api_Edge_api_Edge : okFunc Go.Proofs.Try.prog fo Go.Proofs.Try.f46 b_slices_IndexFunc_api_Edge_api_Edge = true := by kernel_rfl
theorem du_slices_IndexFunc_api_Edge_api_Edge : dutiesF Go.Proofs.Try.f46 b_slices_IndexFunc_api_Edge_api_Edge = [] := by kernel_rfl
theorem fn_slices_IndexFunc_api_Edge_api_Edge : FnOk P fo 46 b_slices_IndexFunc_api_Edge_api_Edge := ⟨_, Go.Proofs.Try.func46, ok_slices_IndexFunc_api_Edge_api_Edge, by rw [du_slices_IndexFunc_api_Edge_api_Edge]; exact fun _ h => by cases h⟩

/-- leadtrail/auto.Step -/
def b_auto_Step : AFn := ⟨3, [.tmp 6, .tmp 7],
    (.seq (.region [⟨(some 3), .boxR 1 (.t 0), none, false⟩,
       ⟨(some 5), .box 1 (.t 2), none, false⟩,
       ⟨(some 6), .move (.c (.int .i64 0)), none, false⟩,
       ⟨(some 7), .move (.c (.bool false)), none, false⟩])
     (.seq (.seq (.region [⟨(some 10), .move (.t 1), none, false⟩,
       ⟨(some 11), .bin .lss (.t 10) (.c (.int .i64 0)), none, false⟩,
       ⟨(some 12), .move (.t 11), none, false⟩,
       ⟨(some 13), .move (.t 1), (some (12, false)), false⟩,
       ⟨(some 14), .faddr 0 (.t 3), (some (12, false)), true⟩,
       ⟨(some 15), .load false 1 (.t 14), (some (12, false)), true⟩,
       ⟨(some 16), .len 0 (.t 15), (some (12, false)), false⟩,
       ⟨(some 17), .bin .geq (.t 13) (.t 16), (some (12, false)), false⟩,
       ⟨(some 18), .pick (.t 12) (.c (.bool true)) (.t 17), none, false⟩])
     (.cond (.t 18) (.seq (.region [⟨(some 6), .move (.c (.int .i64 0)), none, false⟩,
        ⟨(some 7), .move (.c (.bool false)), none, false⟩])
      (.ret)) (.skip)))
     (.seq (.region [⟨(some 19), .faddr 0 (.t 3), none, true⟩,
       ⟨(some 20), .load false 1 (.t 19), none, true⟩,
       ⟨(some 21), .move (.t 1), none, false⟩,
       ⟨(some 22), .iaddr 1 (.t 20) (.t 21), none, false⟩,
       ⟨(some 23), .load false 1 (.t 22), none, false⟩,
       ⟨(some 8), .move (.t 23), none, false⟩])
     (.seq (.region [⟨(some 24), .move (.t 8), none, false⟩,
       ⟨(some 25), .mkfn 32 [(.t 5)], none, false⟩,
       ⟨(some 26), .callI 33 [(.t 24), (.t 25)], none, false⟩,
       ⟨(some 9), .move (.t 26), none, false⟩])
     (.seq (.seq (.region [⟨(some 27), .move (.t 9), none, false⟩,
       ⟨(some 28), .bin .lss (.t 27) (.c (.int .i64 0)), none, false⟩])
     (.cond (.t 28) (.seq (.region [⟨(some 6), .move (.c (.int .i64 0)), none, false⟩,
        ⟨(some 7), .move (.c (.bool false)), none, false⟩])
      (.ret)) (.skip)))
     (.seq (.region [⟨(some 29), .move (.t 8), none, false⟩,
       ⟨(some 30), .move (.t 9), none, false⟩,
       ⟨(some 31), .iaddr 3 (.t 29) (.t 30), none, false⟩,
       ⟨(some 32), .faddr 2 (.t 31), none, false⟩,
       ⟨(some 33), .load false 1 (.t 32), none, false⟩,
       ⟨(some 6), .move (.t 33), none, false⟩,
       ⟨(some 7), .move (.c (.bool true)), none, false⟩])
     (.ret)))))))⟩
theorem ok_auto_Step : okFunc Go.Proofs.Try.prog fo Go.Proofs.Try.f24 b_auto_Step = true := by kernel_rfl
theorem du_auto_Step : dutiesF Go.Proofs.Try.f24 b_auto_Step = [] := by kernel_rfl
theorem fn_auto_Step : FnOk P fo 24 b_auto_Step := ⟨_, Go.Proofs.Try.func24, ok_auto_Step, by rw [du_auto_Step]; exact fun _ h => by cases h⟩
def t_auto_Step : Nat → Option AFn
  | 32 => some b_auto_Step_1
  | 33 => some b_slices_IndexFunc_api_Edge_api_Edge
  | _ => none
theorem tok_auto_Step : TableOk P fo t_auto_Step := by
  intro ix af h
  unfold t_auto_Step at h
  split at h
  · injection h with h; subst h; exact fn_auto_Step_1
  · injection h with h; subst h; exact fn_slices_IndexFunc_api_Edge_api_Edge
  · cases h
def F_auto_Step : List PV → Option PV := pureF t_auto_Step b_auto_Step
theorem p_auto_Step : PureFn P 24 F_auto_Step := pureF_ok tok_auto_Step fn_auto_Step

def b_auto_Match_l0 : ACode :=
    (.seq (.region [⟨(some 14), .bin .lss (.t 13) (.t 12), none, false⟩])
     (.seq (.cond (.t 14) (.skip) (.exit 0))
     (.seq (.block 1 (.seq (.region [⟨(some 15), .move (.t 13), none, false⟩,
        ⟨(some 16), .iaddr 1 (.t 11) (.t 13), none, false⟩,
        ⟨(some 17), .load false 1 (.t 16), none, false⟩,
        ⟨(some 7), .move (.t 15), none, false⟩,
        ⟨(some 8), .move (.t 17), none, false⟩])
      (.seq (.region [⟨(some 19), .load true 1 (.t 2), none, true⟩,
        ⟨(some 20), .move (.t 6), none, false⟩,
        ⟨(some 21), .move (.t 8), none, false⟩,
        ⟨(some 22), .callP F_auto_Step [(.t 19), (.t 20), (.t 21)], none, false⟩,
        ⟨(some 18), .move (.t 22), none, false⟩,
        ⟨(some 23), .ext 0 (.t 18), none, false⟩,
        ⟨(some 24), .ext 1 (.t 18), none, false⟩,
        ⟨(some 9), .move (.t 23), none, false⟩,
        ⟨(some 10), .move (.t 24), none, false⟩])
      (.seq (.block 2 (.seq (.region [⟨(some 26), .move (.t 10), none, false⟩,
         ⟨(some 27), .un .not (.t 26), none, false⟩,
         ⟨(some 25), .move (.t 27), none, false⟩])
       (.cond (.t 25) (.seq (.region [⟨(some 28), .move (.t 7), none, false⟩,
          ⟨(some 4), .move (.t 28), none, false⟩,
          ⟨(some 5), .move (.c (.int .i64 3)), none, false⟩])
        (.ret)) (.seq (.region [⟨(some 30), .move (.t 9), none, false⟩,
          ⟨(some 31), .bin .eql (.t 30) (.c (.int .i64 (-1))), none, false⟩,
          ⟨(some 29), .move (.t 31), none, false⟩])
        (.cond (.t 29) (.seq (.region [⟨(some 32), .move (.t 7), none, false⟩,
           ⟨(some 33), .bin .add (.t 32) (.c (.int .i64 1)), none, false⟩,
           ⟨(some 4), .move (.t 33), none, false⟩,
           ⟨(some 5), .move (.c (.int .i64 1)), none, false⟩])
         (.ret)) (.skip))))))
      (.region [⟨(some 34), .move (.t 9), none, false⟩,
        ⟨(some 6), .move (.t 34), none, false⟩])))))
     (.region [⟨(some 35), .bin .add (.t 13) (.c (.int .i64 1)), none, false⟩,
       ⟨(some 13), .move (.t 35), none, false⟩]))))
/-- leadtrail/auto.Match -/
def b_auto_Match : AFn := ⟨2, [.tmp 4, .tmp 5],
    (.seq (.region [⟨(some 2), .boxR 1 (.t 0), none, false⟩,
       ⟨(some 4), .move (.c (.int .i64 0)), none, false⟩,
       ⟨(some 5), .move (.c (.int .i64 0)), none, false⟩])
     (.seq (.region [⟨(some 6), .move (.c (.int .i64 0)), none, false⟩])
     (.seq (.seq (.region [⟨(some 11), .move (.t 1), none, false⟩,
       ⟨(some 12), .len 0 (.t 11), none, false⟩,
       ⟨(some 13), .move (.c (.int .i64 0)), none, false⟩])
     (.block 0 (.loop [1, 2, 6, 11, 12, 13] b_auto_Match_l0)))
     (.seq (.region [⟨(some 36), .move (.t 1), none, false⟩,
       ⟨(some 37), .len 0 (.t 36), none, false⟩,
       ⟨(some 4), .move (.t 37), none, false⟩,
       ⟨(some 5), .move (.c (.int .i64 2)), none, false⟩])
     (.ret)))))⟩
theorem ok_auto_Match : okFunc Go.Proofs.Try.prog fo Go.Proofs.Try.f21 b_auto_Match = true := by kernel_rfl
theorem du_auto_Match : dutiesF Go.Proofs.Try.f21 b_auto_Match = [(24, F_auto_Step)] := by kernel_rfl
theorem fn_auto_Match : FnOk P fo 21 b_auto_Match := ⟨_, Go.Proofs.Try.func21, ok_auto_Match, by rw [du_auto_Match]; exact List.forall_mem_cons.2 ⟨p_auto_Step, fun _ h => by cases h⟩⟩
def F_auto_Match : List PV → Option PV := pureF (fun _ => none) b_auto_Match
theorem p_auto_Match : PureFn P 21 F_auto_Match := pureF_ok noTable fn_auto_Match

/-- leadtrail/leadtraillaw13.AutoNames -/
def b_leadtraillaw13_AutoNames : AFn := ⟨0, [.tmp 0],
    (.seq (.region [⟨(some 0), .move (.c (.bool false)), none, false⟩])
     (.seq (.region [⟨(some 10), .callP F_leadtraillaw13_some [], none, false⟩,
       ⟨(some 11), .callP F_auto_Build [(.t 10)], none, false⟩,
       ⟨(some 9), .move (.t 11), none, false⟩,
       ⟨(some 12), .ext 0 (.t 9), none, false⟩,
       ⟨(some 13), .ext 1 (.t 9), none, false⟩,
       ⟨(some 1), .alloc [.nils], none, false⟩,
       ⟨none, .store 1 (.t 1) (.t 12), none, false⟩,
       ⟨(some 2), .move (.t 13), none, false⟩])
     (.seq (.region [⟨(some 15), .load true 1 (.t 1), none, false⟩,
       ⟨(some 16), .bslice .uq 1 false 3 [(.int .u8 0)] [(0, (.c (.int .u8 224))), (1, (.c (.int .u8 160))), (2, (.c (.int .u8 65)))], none, false⟩,
       ⟨(some 17), .s2s (.t 16), none, false⟩,
       ⟨(some 18), .callP F_auto_Match [(.t 15), (.t 17)], none, false⟩,
       ⟨(some 14), .move (.t 18), none, false⟩,
       ⟨(some 19), .ext 0 (.t 14), none, false⟩,
       ⟨(some 20), .ext 1 (.t 14), none, false⟩,
       ⟨(some 3), .move (.t 19), none, false⟩,
       ⟨(some 4), .move (.t 20), none, false⟩])
     (.seq (.region [⟨(some 22), .load true 1 (.t 1), none, false⟩,
       ⟨(some 23), .bslice .uq 1 false 3 [(.int .u8 0)] [(0, (.c (.int .u8 195))), (1, (.c (.int .u8 169))), (2, (.c (.int .u8 169)))], none, false⟩,
       ⟨(some 24), .s2s (.t 23), none, false⟩,
       ⟨(some 25), .callP F_auto_Match [(.t 22), (.t 24)], none, false⟩,
       ⟨(some 21), .move (.t 25), none, false⟩,
       ⟨(some 26), .ext 0 (.t 21), none, false⟩,
       ⟨(some 27), .ext 1 (.t 21), none, false⟩,
       ⟨(some 5), .move (.t 26), none, false⟩,
       ⟨(some 6), .move (.t 27), none, false⟩])
     (.seq (.region [⟨(some 29), .load true 1 (.t 1), none, false⟩,
       ⟨(some 30), .bslice .uq 1 false 1 [(.int .u8 0)] [(0, (.c (.int .u8 224)))], none, false⟩,
       ⟨(some 31), .s2s (.t 30), none, false⟩,
       ⟨(some 32), .callP F_auto_Match [(.t 29), (.t 31)], none, false⟩,
       ⟨(some 28), .move (.t 32), none, false⟩,
       ⟨(some 33), .ext 0 (.t 28), none, false⟩,
       ⟨(some 34), .ext 1 (.t 28), none, false⟩,
       ⟨(some 7), .move (.t 33), none, false⟩,
       ⟨(some 8), .move (.t 34), none, false⟩])
     (.seq (.region [⟨(some 35), .callP F_leadtraillaw13_fixed [], none, false⟩,
       ⟨(some 36), .move (.t 35), none, false⟩,
       ⟨(some 37), .pick (.t 36) (.c (.bool true)) (.c (.bool false)), none, false⟩,
       ⟨(some 38), .move (.t 37), none, false⟩,
       ⟨(some 39), .pick (.t 38) (.c (.bool true)) (.c (.bool false)), none, false⟩,
       ⟨(some 40), .move (.t 39), none, false⟩,
       ⟨(some 41), .pick (.t 40) (.c (.bool true)) (.c (.bool false)), none, false⟩,
       ⟨(some 42), .move (.t 41), none, false⟩,
       ⟨(some 43), .pick (.t 42) (.c (.bool true)) (.c (.bool false)), none, false⟩,
       ⟨(some 44), .move (.t 43), none, false⟩,
       ⟨(some 45), .move (.t 3), (some (44, true)), false⟩,
       ⟨(some 46), .bin .eql (.t 45) (.c (.int .i64 2)), (some (44, true)), false⟩,
       ⟨(some 47), .pick (.t 44) (.t 46) (.c (.bool false)), none, false⟩,
       ⟨(some 48), .move (.t 47), none, false⟩,
       ⟨(some 49), .move (.t 4), (some (48, true)), false⟩,
       ⟨(some 50), .bin .eql (.t 49) (.c (.int .i64 3)), (some (48, true)), false⟩,
       ⟨(some 51), .pick (.t 48) (.t 50) (.c (.bool false)), none, false⟩,
       ⟨(some 52), .move (.t 51), none, false⟩,
       ⟨(some 53), .move (.t 5), (some (52, true)), false⟩,
       ⟨(some 54), .bin .eql (.t 53) (.c (.int .i64 2)), (some (52, true)), false⟩,
       ⟨(some 55), .pick (.t 52) (.t 54) (.c (.bool false)), none, false⟩,
       ⟨(some 56), .move (.t 55), none, false⟩,
       ⟨(some 57), .move (.t 6), (some (56, true)), false⟩,
       ⟨(some 58), .bin .eql (.t 57) (.c (.int .i64 1)), (some (56, true)), false⟩,
       ⟨(some 59), .pick (.t 56) (.t 58) (.c (.bool false)), none, false⟩,
       ⟨(some 60), .move (.t 59), none, false⟩,
       ⟨(some 61), .move (.t 7), (some (60, true)), false⟩,
       ⟨(some 62), .bin .eql (.t 61) (.c (.int .i64 1)), (some (60, true)), false⟩,
       ⟨(some 63), .pick (.t 60) (.t 62) (.c (.bool false)), none, false⟩,
       ⟨(some 64), .move (.t 63), none, false⟩,
       ⟨(some 65), .move (.t 8), (some (64, true)), false⟩,
       ⟨(some 66), .bin .eql (.t 65) (.c (.int .i64 2)), (some (64, true)), false⟩,
       ⟨(some 67), .pick (.t 64) (.t 66) (.c (.bool false)), none, false⟩,
       ⟨(some 0), .move (.t 67), none, false⟩])
     (.ret)))))))⟩
theorem ok_leadtraillaw13_AutoNames : okFunc Go.Proofs.Try.prog fo Go.Proofs.Try.f6 b_leadtraillaw13_AutoNames = true := by kernel_rfl
theorem du_leadtraillaw13_AutoNames : dutiesF Go.Proofs.Try.f6 b_leadtraillaw13_AutoNames = [(20, F_leadtraillaw13_some), (14, F_auto_Build), (21, F_auto_Match), (21, F_auto_Match), (21, F_auto_Match), (12, F_leadtraillaw13_fixed)] := by kernel_rfl
theorem fn_leadtraillaw13_AutoNames : FnOk P fo 6 b_leadtraillaw13_AutoNames := ⟨_, Go.Proofs.Try.func6, ok_leadtraillaw13_AutoNames, by rw [du_leadtraillaw13_AutoNames]; exact List.forall_mem_cons.2 ⟨p_leadtraillaw13_some, List.forall_mem_cons.2 ⟨p_auto_Build, List.forall_mem_cons.2 ⟨p_auto_Match, List.forall_mem_cons.2 ⟨p_auto_Match, List.forall_mem_cons.2 ⟨p_auto_Match, List.forall_mem_cons.2 ⟨p_leadtraillaw13_fixed, fun _ h => by cases h⟩⟩⟩⟩⟩⟩⟩
theorem p_leadtraillaw13_AutoNames : PureFn P 6 (pureF (fun _ => none) b_leadtraillaw13_AutoNames) := pureF_ok noTable fn_leadtraillaw13_AutoNames

def b_leadtrailref13_Copy_l0 : ACode :=
    (.seq (.seq (.region [⟨(some 6), .move (.t 4), none, false⟩,
       ⟨(some 7), .faddr 0 (.t 1), none, true⟩,
       ⟨(some 8), .load false 1 (.t 7), none, true⟩,
       ⟨(some 9), .len 0 (.t 8), none, false⟩,
       ⟨(some 10), .bin .lss (.t 6) (.t 9), none, false⟩])
     (.cond (.t 10) (.skip) (.exit 0)))
     (.seq (.block 1 (.region [⟨(some 13), .faddr 0 (.t 3), none, false⟩,
        ⟨(some 14), .load false 1 (.t 13), none, false⟩,
        ⟨(some 15), .bslice .uq 3 true 0 [(.int .i64 0), (.int .i64 0), (.int .i64 0)] [], none, false⟩,
        ⟨(some 16), .faddr 0 (.t 1), none, true⟩,
        ⟨(some 17), .load false 1 (.t 16), none, true⟩,
        ⟨(some 18), .move (.t 4), none, false⟩,
        ⟨(some 19), .iaddr 1 (.t 17) (.t 18), none, true⟩,
        ⟨(some 20), .load false 1 (.t 19), none, true⟩,
        ⟨(some 21), .append false .uq 3 true 24 (.t 15) (.t 20), none, false⟩,
        ⟨(some 22), .bslice .lit 1 false 1 [.nils] [(0, (.t 21))], none, false⟩,
        ⟨(some 23), .append false .uq 1 false 24 (.t 14) (.t 22), none, false⟩,
        ⟨(some 24), .faddr 0 (.t 3), none, false⟩,
        ⟨none, .store 1 (.t 24) (.t 23), none, false⟩]))
     (.region [⟨(some 11), .move (.t 4), none, false⟩,
       ⟨(some 12), .bin .add (.t 11) (.c (.int .i64 1)), none, false⟩,
       ⟨(some 4), .move (.t 12), none, false⟩])))
/-- leadtrail/leadtrailref13.Copy -/
def b_leadtrailref13_Copy : AFn := ⟨1, [.cell 2 true 1],
    (.seq (.region [⟨(some 1), .boxR 1 (.t 0), none, false⟩,
       ⟨(some 2), .alloc [.nils], none, false⟩])
     (.seq (.region [⟨(some 5), .build [.nils] [], none, false⟩,
       ⟨(some 3), .alloc [.nils], none, false⟩,
       ⟨none, .store 1 (.t 3) (.t 5), none, false⟩])
     (.ghost (.mkuqC 3 0 1) (.seq (.seq (.region [⟨(some 4), .move (.c (.int .i64 0)), none, false⟩])
     (.block 0 (.loop [1, 2, 3, 4] b_leadtrailref13_Copy_l0)))
     (.seq (.region [⟨(some 25), .load true 1 (.t 3), none, false⟩,
       ⟨none, .store 1 (.t 2) (.t 25), none, false⟩])
     (.ret))))))⟩
theorem ok_leadtrailref13_Copy : okFunc Go.Proofs.Try.prog fo Go.Proofs.Try.f22 b_leadtrailref13_Copy = true := by kernel_rfl
theorem du_leadtrailref13_Copy : dutiesF Go.Proofs.Try.f22 b_leadtrailref13_Copy = [] := by kernel_rfl
theorem fn_leadtrailref13_Copy : FnOk P fo 22 b_leadtrailref13_Copy := ⟨_, Go.Proofs.Try.func22, ok_leadtrailref13_Copy, by rw [du_leadtrailref13_Copy]; exact fun _ h => by cases h⟩
def F_leadtrailref13_Copy : List PV → Option PV := pureF (fun _ => none) b_leadtrailref13_Copy
theorem p_leadtrailref13_Copy : PureFn P 22 F_leadtrailref13_Copy := pureF_ok noTable fn_leadtrailref13_Copy

def b_leadtrailref13_Step_l0 : ACode :=
    (.seq (.seq (.region [⟨(some 19), .move (.t 8), none, false⟩,
       ⟨(some 20), .faddr 0 (.t 3), none, true⟩,
       ⟨(some 21), .load false 1 (.t 20), none, true⟩,
       ⟨(some 22), .move (.t 1), none, false⟩,
       ⟨(some 23), .iaddr 1 (.t 21) (.t 22), none, false⟩,
       ⟨(some 24), .load false 1 (.t 23), none, false⟩,
       ⟨(some 25), .len 0 (.t 24), none, false⟩,
       ⟨(some 26), .bin .lss (.t 19) (.t 25), none, false⟩])
     (.cond (.t 26) (.skip) (.exit 0)))
     (.seq (.block 1 (.seq (.region [⟨(some 29), .faddr 0 (.t 3), none, true⟩,
        ⟨(some 30), .load false 1 (.t 29), none, true⟩,
        ⟨(some 31), .move (.t 1), none, false⟩,
        ⟨(some 32), .iaddr 1 (.t 30) (.t 31), none, false⟩,
        ⟨(some 33), .load false 1 (.t 32), none, false⟩,
        ⟨(some 34), .move (.t 8), none, false⟩,
        ⟨(some 35), .iaddr 3 (.t 33) (.t 34), none, false⟩,
        ⟨(some 36), .load true 3 (.t 35), none, false⟩,
        ⟨(some 9), .alloc [(.int .i64 0), (.int .i64 0), (.int .i64 0)], none, false⟩,
        ⟨none, .store 3 (.t 9) (.t 36), none, false⟩])
      (.seq (.region [⟨(some 37), .move (.t 2), none, false⟩,
        ⟨(some 38), .conv .i64 (.t 37), none, false⟩,
        ⟨(some 39), .faddr 0 (.t 9), none, false⟩,
        ⟨(some 40), .load false 1 (.t 39), none, false⟩,
        ⟨(some 41), .bin .geq (.t 38) (.t 40), none, false⟩,
        ⟨(some 42), .move (.t 41), none, false⟩,
        ⟨(some 43), .move (.t 2), (some (42, true)), false⟩,
        ⟨(some 44), .conv .i64 (.t 43), (some (42, true)), false⟩,
        ⟨(some 45), .faddr 1 (.t 9), (some (42, true)), false⟩,
        ⟨(some 46), .load false 1 (.t 45), (some (42, true)), false⟩,
        ⟨(some 47), .bin .leq (.t 44) (.t 46), (some (42, true)), false⟩,
        ⟨(some 48), .pick (.t 42) (.t 47) (.c (.bool false)), none, false⟩])
      (.cond (.t 48) (.seq (.region [⟨(some 49), .faddr 2 (.t 9), none, false⟩,
         ⟨(some 50), .load false 1 (.t 49), none, false⟩,
         ⟨(some 6), .move (.t 50), none, false⟩,
         ⟨(some 7), .move (.c (.bool true)), none, false⟩])
       (.ret)) (.skip)))))
     (.region [⟨(some 27), .move (.t 8), none, false⟩,
       ⟨(some 28), .bin .add (.t 27) (.c (.int .i64 1)), none, false⟩,
       ⟨(some 8), .move (.t 28), none, false⟩])))
/-- leadtrail/leadtrailref13.Step -/
def b_leadtrailref13_Step : AFn := ⟨3, [.tmp 6, .tmp 7],
    (.seq (.region [⟨(some 3), .boxR 1 (.t 0), none, false⟩,
       ⟨(some 6), .move (.c (.int .i64 0)), none, false⟩,
       ⟨(some 7), .move (.c (.bool false)), none, false⟩])
     (.seq (.seq (.region [⟨(some 10), .move (.t 1), none, false⟩,
       ⟨(some 11), .bin .lss (.t 10) (.c (.int .i64 0)), none, false⟩,
       ⟨(some 12), .move (.t 11), none, false⟩,
       ⟨(some 13), .move (.t 1), (some (12, false)), false⟩,
       ⟨(some 14), .faddr 0 (.t 3), (some (12, false)), true⟩,
       ⟨(some 15), .load false 1 (.t 14), (some (12, false)), true⟩,
       ⟨(some 16), .len 0 (.t 15), (some (12, false)), false⟩,
       ⟨(some 17), .bin .geq (.t 13) (.t 16), (some (12, false)), false⟩,
       ⟨(some 18), .pick (.t 12) (.c (.bool true)) (.t 17), none, false⟩])
     (.cond (.t 18) (.seq (.region [⟨(some 6), .move (.c (.int .i64 0)), none, false⟩,
        ⟨(some 7), .move (.c (.bool false)), none, false⟩])
      (.ret)) (.skip)))
     (.seq (.seq (.region [⟨(some 8), .move (.c (.int .i64 0)), none, false⟩])
     (.block 0 (.loop [1, 2, 3, 8] b_leadtrailref13_Step_l0)))
     (.seq (.region [⟨(some 6), .move (.c (.int .i64 0)), none, false⟩,
       ⟨(some 7), .move (.c (.bool false)), none, false⟩])
     (.ret)))))⟩
theorem ok_leadtrailref13_Step : okFunc Go.Proofs.Try.prog fo Go.Proofs.Try.f25 b_leadtrailref13_Step = true := by kernel_rfl
theorem du_leadtrailref13_Step : dutiesF Go.Proofs.Try.f25 b_leadtrailref13_Step = [] := by kernel_rfl
theorem fn_leadtrailref13_Step : FnOk P fo 25 b_leadtrailref13_Step := ⟨_, Go.Proofs.Try.func25, ok_leadtrailref13_Step, by rw [du_leadtrailref13_Step]; exact fun _ h => by cases h⟩
def F_leadtrailref13_Step : List PV → Option PV := pureF (fun _ => none) b_leadtrailref13_Step
theorem p_leadtrailref13_Step : PureFn P 25 F_leadtrailref13_Step := pureF_ok noTable fn_leadtrailref13_Step

def b_leadtrailref13_Match_l0 : ACode :=
    (.seq (.seq (.region [⟨(some 10), .move (.t 7), none, false⟩,
       ⟨(some 11), .move (.t 1), none, false⟩,
       ⟨(some 12), .len 0 (.t 11), none, false⟩,
       ⟨(some 13), .bin .lss (.t 10) (.t 12), none, false⟩])
     (.cond (.t 13) (.skip) (.exit 0)))
     (.seq (.block 1 (.seq (.region [⟨(some 17), .load true 1 (.t 2), none, true⟩,
        ⟨(some 18), .move (.t 6), none, false⟩,
        ⟨(some 19), .move (.t 1), none, false⟩,
        ⟨(some 20), .move (.t 7), none, false⟩,
        ⟨(some 21), .iaddr 1 (.t 19) (.t 20), none, true⟩,
        ⟨(some 22), .load false 1 (.t 21), none, true⟩,
        ⟨(some 23), .callP F_leadtrailref13_Step [(.t 17), (.t 18), (.t 22)], none, false⟩,
        ⟨(some 16), .move (.t 23), none, false⟩,
        ⟨(some 24), .ext 0 (.t 16), none, false⟩,
        ⟨(some 25), .ext 1 (.t 16), none, false⟩,
        ⟨(some 8), .move (.t 24), none, false⟩,
        ⟨(some 9), .move (.t 25), none, false⟩])
      (.seq (.seq (.region [⟨(some 26), .move (.t 9), none, false⟩,
        ⟨(some 27), .un .not (.t 26), none, false⟩])
      (.cond (.t 27) (.seq (.region [⟨(some 28), .move (.t 7), none, false⟩,
         ⟨(some 4), .move (.t 28), none, false⟩,
         ⟨(some 5), .move (.c (.int .i64 3)), none, false⟩])
       (.ret)) (.skip)))
      (.seq (.seq (.region [⟨(some 29), .move (.t 8), none, false⟩,
        ⟨(some 30), .bin .eql (.t 29) (.c (.int .i64 (-1))), none, false⟩])
      (.cond (.t 30) (.seq (.region [⟨(some 31), .move (.t 7), none, false⟩,
         ⟨(some 32), .bin .add (.t 31) (.c (.int .i64 1)), none, false⟩,
         ⟨(some 4), .move (.t 32), none, false⟩,
         ⟨(some 5), .move (.c (.int .i64 1)), none, false⟩])
       (.ret)) (.skip)))
      (.region [⟨(some 33), .move (.t 8), none, false⟩,
        ⟨(some 6), .move (.t 33), none, false⟩])))))
     (.region [⟨(some 14), .move (.t 7), none, false⟩,
       ⟨(some 15), .bin .add (.t 14) (.c (.int .i64 1)), none, false⟩,
       ⟨(some 7), .move (.t 15), none, false⟩])))
/-- leadtrail/leadtrailref13.Match -/
def b_leadtrailref13_Match : AFn := ⟨2, [.tmp 4, .tmp 5],
    (.seq (.region [⟨(some 2), .boxR 1 (.t 0), none, false⟩,
       ⟨(some 4), .move (.c (.int .i64 0)), none, false⟩,
       ⟨(some 5), .move (.c (.int .i64 0)), none, false⟩])
     (.seq (.region [⟨(some 6), .move (.c (.int .i64 0)), none, false⟩])
     (.seq (.seq (.region [⟨(some 7), .move (.c (.int .i64 0)), none, false⟩])
     (.block 0 (.loop [1, 2, 6, 7] b_leadtrailref13_Match_l0)))
     (.seq (.region [⟨(some 34), .move (.t 1), none, false⟩,
       ⟨(some 35), .len 0 (.t 34), none, false⟩,
       ⟨(some 4), .move (.t 35), none, false⟩,
       ⟨(some 5), .move (.c (.int .i64 2)), none, false⟩])
     (.ret)))))⟩
theorem ok_leadtrailref13_Match : okFunc Go.Proofs.Try.prog fo Go.Proofs.Try.f23 b_leadtrailref13_Match = true := by kernel_rfl
theorem du_leadtrailref13_Match : dutiesF Go.Proofs.Try.f23 b_leadtrailref13_Match = [(25, F_leadtrailref13_Step)] := by kernel_rfl
theorem fn_leadtrailref13_Match : FnOk P fo 23 b_leadtrailref13_Match := ⟨_, Go.Proofs.Try.func23, ok_leadtrailref13_Match, by rw [du_leadtrailref13_Match]; exact List.forall_mem_cons.2 ⟨p_leadtrailref13_Step, fun _ h => by cases h⟩⟩
def F_leadtrailref13_Match : List PV → Option PV := pureF (fun _ => none) b_leadtrailref13_Match
theorem p_leadtrailref13_Match : PureFn P 23 F_leadtrailref13_Match := pureF_ok noTable fn_leadtrailref13_Match

end Go.AM.B1

/- The abstract code of the functions that the rows Auto* reach, part 7, printed by gen_b1.py: it is that of the program, and each is what its code computes. -/
set_option linter.unusedVariables false
namespace Go.AM.B1
open Go.AM

def b_leadtraillaw13_AutoRuns_l0 : ACode :=
    (.seq (.region [⟨(some 47), .bin .lss (.t 46) (.t 45), none, false⟩])
     (.seq (.cond (.t 47) (.skip) (.exit 0))
     (.seq (.block 1 (.seq (.region [⟨(some 48), .move (.t 46), none, false⟩,
        ⟨(some 49), .iaddr 1 (.t 44) (.t 46), none, false⟩,
        ⟨(some 50), .load false 1 (.t 49), none, false⟩,
        ⟨(some 12), .move (.t 48), none, false⟩,
        ⟨(some 13), .move (.t 50), none, false⟩])
      (.seq (.seq (.region [⟨(some 51), .move (.t 12), none, false⟩,
        ⟨(some 52), .bin .gtr (.t 51) (.c (.int .i64 50)), none, false⟩])
      (.cond (.t 52) (.exit 0) (.skip)))
      (.seq (.region [⟨(some 54), .load true 1 (.t 7), none, false⟩,
        ⟨(some 55), .move (.t 1), none, false⟩,
        ⟨(some 56), .move (.t 13), none, false⟩,
        ⟨(some 57), .callP F_auto_Step [(.t 54), (.t 55), (.t 56)], none, false⟩,
        ⟨(some 53), .move (.t 57), none, false⟩,
        ⟨(some 58), .ext 0 (.t 53), none, false⟩,
        ⟨(some 59), .ext 1 (.t 53), none, false⟩,
        ⟨(some 14), .move (.t 58), none, false⟩,
        ⟨(some 15), .move (.t 59), none, false⟩])
      (.seq (.region [⟨(some 61), .load true 1 (.t 3), none, true⟩,
        ⟨(some 62), .move (.t 1), none, false⟩,
        ⟨(some 63), .move (.t 13), none, false⟩,
        ⟨(some 64), .callP F_leadtrailref13_Step [(.t 61), (.t 62), (.t 63)], none, false⟩,
        ⟨(some 60), .move (.t 64), none, false⟩,
        ⟨(some 65), .ext 0 (.t 60), none, false⟩,
        ⟨(some 66), .ext 1 (.t 60), none, false⟩,
        ⟨(some 16), .move (.t 65), none, false⟩,
        ⟨(some 17), .move (.t 66), none, false⟩])
      (.seq (.region [⟨(some 67), .move (.t 14), none, false⟩,
        ⟨(some 68), .move (.t 16), none, false⟩,
        ⟨(some 69), .bin .neq (.t 67) (.t 68), none, false⟩,
        ⟨(some 70), .move (.t 69), none, false⟩,
        ⟨(some 71), .move (.t 15), (some (70, false)), false⟩,
        ⟨(some 72), .move (.t 17), (some (70, false)), false⟩,
        ⟨(some 73), .eq 0 true (.t 71) (.t 72), (some (70, false)), false⟩,
        ⟨(some 74), .pick (.t 70) (.c (.bool true)) (.t 73), none, false⟩])
      (.cond (.t 74) (.seq (.region [⟨(some 6), .move (.c (.bool false)), none, false⟩])
       (.ret)) (.skip))))))))
     (.region [⟨(some 75), .bin .add (.t 46) (.c (.int .i64 1)), none, false⟩,
       ⟨(some 46), .move (.t 75), none, false⟩]))))
/-- leadtrail/leadtraillaw13.AutoRuns -/
def b_leadtraillaw13_AutoRuns : AFn := ⟨3, [.tmp 6],
    (.seq (.region [⟨(some 3), .boxR 1 (.t 0), none, false⟩,
       ⟨(some 6), .move (.c (.bool false)), none, false⟩])
     (.seq (.seq (.region [⟨(some 18), .callP F_leadtraillaw13_fixed [], none, false⟩,
       ⟨(some 19), .un .not (.t 18), none, false⟩])
     (.cond (.t 19) (.seq (.region [⟨(some 6), .move (.c (.bool false)), none, false⟩])
      (.ret)) (.skip)))
     (.seq (.region [⟨(some 20), .load true 1 (.t 3), none, true⟩,
       ⟨(some 21), .callP F_leadtrailref13_Copy [(.t 20)], none, false⟩,
       ⟨(some 7), .alloc [.nils], none, false⟩,
       ⟨none, .store 1 (.t 7) (.t 21), none, false⟩])
     (.seq (.region [⟨(some 23), .load true 1 (.t 7), none, false⟩,
       ⟨(some 24), .bslice .uq 1 false 0 [(.int .u8 0)] [], none, false⟩,
       ⟨(some 25), .move (.t 2), none, false⟩,
       ⟨(some 26), .append false .uq 1 false 1 (.t 24) (.t 25), none, false⟩,
       ⟨(some 27), .callP F_auto_Match [(.t 23), (.t 26)], none, false⟩,
       ⟨(some 22), .move (.t 27), none, false⟩,
       ⟨(some 28), .ext 0 (.t 22), none, false⟩,
       ⟨(some 29), .ext 1 (.t 22), none, false⟩,
       ⟨(some 8), .move (.t 28), none, false⟩,
       ⟨(some 9), .move (.t 29), none, false⟩])
     (.seq (.region [⟨(some 31), .load true 1 (.t 3), none, true⟩,
       ⟨(some 32), .move (.t 2), none, false⟩,
       ⟨(some 33), .callP F_leadtrailref13_Match [(.t 31), (.t 32)], none, false⟩,
       ⟨(some 30), .move (.t 33), none, false⟩,
       ⟨(some 34), .ext 0 (.t 30), none, false⟩,
       ⟨(some 35), .ext 1 (.t 30), none, false⟩,
       ⟨(some 10), .move (.t 34), none, false⟩,
       ⟨(some 11), .move (.t 35), none, false⟩])
     (.seq (.seq (.region [⟨(some 36), .move (.t 8), none, false⟩,
       ⟨(some 37), .move (.t 10), none, false⟩,
       ⟨(some 38), .bin .neq (.t 36) (.t 37), none, false⟩,
       ⟨(some 39), .move (.t 38), none, false⟩,
       ⟨(some 40), .move (.t 9), (some (39, false)), false⟩,
       ⟨(some 41), .move (.t 11), (some (39, false)), false⟩,
       ⟨(some 42), .bin .neq (.t 40) (.t 41), (some (39, false)), false⟩,
       ⟨(some 43), .pick (.t 39) (.c (.bool true)) (.t 42), none, false⟩])
     (.cond (.t 43) (.seq (.region [⟨(some 6), .move (.c (.bool false)), none, false⟩])
      (.ret)) (.skip)))
     (.seq (.seq (.region [⟨(some 44), .move (.t 2), none, false⟩,
       ⟨(some 45), .len 0 (.t 44), none, false⟩,
       ⟨(some 46), .move (.c (.int .i64 0)), none, false⟩])
     (.block 0 (.loop [1, 3, 7, 44, 45, 46] b_leadtraillaw13_AutoRuns_l0)))
     (.seq (.region [⟨(some 76), .load true 1 (.t 7), none, false⟩,
       ⟨(some 77), .load true 1 (.t 3), none, true⟩,
       ⟨(some 78), .callP F_leadtrailref13_Same [(.t 76), (.t 77)], none, false⟩,
       ⟨(some 6), .move (.t 78), none, false⟩])
     (.ret)))))))))⟩
theorem ok_leadtraillaw13_AutoRuns : okFunc Go.Proofs.Try.prog fo Go.Proofs.Try.f7 b_leadtraillaw13_AutoRuns = true := by kernel_rfl
theorem du_leadtraillaw13_AutoRuns : dutiesF Go.Proofs.Try.f7 b_leadtraillaw13_AutoRuns = [(12, F_leadtraillaw13_fixed), (22, F_leadtrailref13_Copy), (21, F_auto_Match), (23, F_leadtrailref13_Match), (24, F_auto_Step), (25, F_leadtrailref13_Step), (16, F_leadtrailref13_Same)] := by kernel_rfl
theorem fn_leadtraillaw13_AutoRuns : FnOk P fo 7 b_leadtraillaw13_AutoRuns := ⟨_, Go.Proofs.Try.func7, ok_leadtraillaw13_AutoRuns, by rw [du_leadtraillaw13_AutoRuns]; exact List.forall_mem_cons.2 ⟨p_leadtraillaw13_fixed, List.forall_mem_cons.2 ⟨p_leadtrailref13_Copy, List.forall_mem_cons.2 ⟨p_auto_Match, List.forall_mem_cons.2 ⟨p_leadtrailref13_Match, List.forall_mem_cons.2 ⟨p_auto_Step, List.forall_mem_cons.2 ⟨p_leadtrailref13_Step, List.forall_mem_cons.2 ⟨p_leadtrailref13_Same, fun _ h => by cases h⟩⟩⟩⟩⟩⟩⟩⟩
theorem p_leadtraillaw13_AutoRuns : PureFn P 7 (pureF (fun _ => none) b_leadtraillaw13_AutoRuns) := pureF_ok noTable fn_leadtraillaw13_AutoRuns

end Go.AM.B1
