/- The abstract code of the program's functions, continued. -/
import Derived.Test.YtolkahifidfgeaaC1

/- The abstract code of the functions that the rows Auto* reach, part 2, printed by gen_b1.py: it is that of the program, and each is what its code computes. -/
set_option linter.unusedVariables false
namespace Go.AM.B1
open Go.AM

def b_slices_heapSortCmpFunc_sets_Run_l0 : ACode :=
    (.seq (.seq (.region [⟨(some 20), .move (.t 11), none, false⟩,
       ⟨(some 21), .bin .geq (.t 20) (.c (.int .i64 0)), none, false⟩])
     (.cond (.t 21) (.skip) (.exit 0)))
     (.seq (.block 1 (.region [⟨(some 24), .move (.t 0), none, false⟩,
        ⟨(some 25), .move (.t 11), none, false⟩,
        ⟨(some 26), .move (.t 10), none, false⟩,
        ⟨(some 27), .move (.t 8), none, false⟩,
        ⟨(some 28), .move (.t 3), none, false⟩,
        ⟨(some 29), .callI 9 [(.t 24), (.t 25), (.t 26), (.t 27), (.t 28)], none, false⟩]))
     (.region [⟨(some 22), .move (.t 11), none, false⟩,
       ⟨(some 23), .bin .sub (.t 22) (.c (.int .i64 1)), none, false⟩,
       ⟨(some 11), .move (.t 23), none, false⟩])))
def b_slices_heapSortCmpFunc_sets_Run_l1 : ACode :=
    (.seq (.seq (.region [⟨(some 32), .move (.t 12), none, false⟩,
       ⟨(some 33), .bin .geq (.t 32) (.c (.int .i64 0)), none, false⟩])
     (.cond (.t 33) (.skip) (.exit 2)))
     (.seq (.block 3 (.seq (.region [⟨(some 36), .move (.t 0), none, false⟩,
        ⟨(some 37), .move (.t 8), none, false⟩,
        ⟨(some 38), .move (.t 0), none, false⟩,
        ⟨(some 39), .move (.t 8), none, false⟩,
        ⟨(some 40), .move (.t 12), none, false⟩,
        ⟨(some 41), .bin .add (.t 39) (.t 40), none, false⟩,
        ⟨(some 42), .move (.t 0), none, false⟩,
        ⟨(some 43), .move (.t 8), none, false⟩,
        ⟨(some 44), .move (.t 12), none, false⟩,
        ⟨(some 45), .bin .add (.t 43) (.t 44), none, false⟩,
        ⟨(some 46), .iaddr 2 (.t 42) (.t 45), none, false⟩,
        ⟨(some 47), .load true 2 (.t 46), none, false⟩,
        ⟨(some 48), .move (.t 0), none, false⟩,
        ⟨(some 49), .move (.t 8), none, false⟩,
        ⟨(some 50), .iaddr 2 (.t 48) (.t 49), none, false⟩,
        ⟨(some 51), .load true 2 (.t 50), none, false⟩,
        ⟨(some 52), .iaddr 2 (.t 36) (.t 37), none, false⟩,
        ⟨none, .store 2 (.t 52) (.t 47), none, false⟩,
        ⟨(some 53), .iaddr 2 (.t 38) (.t 41), none, false⟩,
        ⟨none, .store 2 (.t 53) (.t 51), none, false⟩])
      (.region [⟨(some 54), .move (.t 0), none, false⟩,
        ⟨(some 55), .move (.t 9), none, false⟩,
        ⟨(some 56), .move (.t 12), none, false⟩,
        ⟨(some 57), .move (.t 8), none, false⟩,
        ⟨(some 58), .move (.t 3), none, false⟩,
        ⟨(some 59), .callI 9 [(.t 54), (.t 55), (.t 56), (.t 57), (.t 58)], none, false⟩])))
     (.region [⟨(some 34), .move (.t 12), none, false⟩,
       ⟨(some 35), .bin .sub (.t 34) (.c (.int .i64 1)), none, false⟩,
       ⟨(some 12), .move (.t 35), none, false⟩])))
/-- slices.heapSortCmpFunc[leadtrail/sets.Run] -/
def b_slices_heapSortCmpFunc_sets_Run : AFn := ⟨4, [],
    (.seq (.region [⟨(some 13), .move (.t 1), none, false⟩,
       ⟨(some 8), .move (.t 13), none, false⟩])
     (.seq (.region [⟨(some 9), .move (.c (.int .i64 0)), none, false⟩])
     (.seq (.region [⟨(some 14), .move (.t 2), none, false⟩,
       ⟨(some 15), .move (.t 1), none, false⟩,
       ⟨(some 16), .bin .sub (.t 14) (.t 15), none, false⟩,
       ⟨(some 10), .move (.t 16), none, false⟩])
     (.seq (.seq (.region [⟨(some 17), .move (.t 10), none, false⟩,
       ⟨(some 18), .bin .sub (.t 17) (.c (.int .i64 1)), none, false⟩,
       ⟨(some 19), .bin .quo (.t 18) (.c (.int .i64 2)), none, false⟩,
       ⟨(some 11), .move (.t 19), none, false⟩])
     (.block 0 (.loop [0, 3, 8, 9, 10, 11] b_slices_heapSortCmpFunc_sets_Run_l0)))
     (.seq (.region [⟨(some 30), .move (.t 10), none, false⟩,
       ⟨(some 31), .bin .sub (.t 30) (.c (.int .i64 1)), none, false⟩,
       ⟨(some 12), .move (.t 31), none, false⟩])
     (.block 2 (.loop [0, 3, 8, 9, 12] b_slices_heapSortCmpFunc_sets_Run_l1)))))))⟩
theorem ok_slices_heapSortCmpFunc_sets_Run : okFunc Go.Proofs.Try.prog fo Go.Proofs.Try.f118 b_slices_heapSortCmpFunc_sets_Run = true := by kernel_rfl
theorem du_slices_heapSortCmpFunc_sets_Run : dutiesF Go.Proofs.Try.f118 b_slices_heapSortCmpFunc_sets_Run = [] := by kernel_rfl
theorem fn_slices_heapSortCmpFunc_sets_Run : FnOk P fo 118 b_slices_heapSortCmpFunc_sets_Run := ⟨_, Go.Proofs.Try.func118, ok_slices_heapSortCmpFunc_sets_Run, by rw [du_slices_heapSortCmpFunc_sets_Run]; exact fun _ h => by cases h⟩

/-- slices.nextPowerOfTwo -/
def b_slices_nextPowerOfTwo : AFn := ⟨1, [.tmp 2],
    (.seq (.region [⟨(some 2), .move (.c (.int .u64 0)), none, false⟩])
     (.seq (.region [⟨(some 3), .move (.t 0), none, false⟩,
       ⟨(some 4), .conv .u64 (.t 3), none, false⟩,
       ⟨(some 5), .callP F_math_bits_Len [(.t 4)], none, false⟩,
       ⟨(some 6), .bin .shl (.c (.int .u64 1)) (.t 5), none, false⟩,
       ⟨(some 2), .move (.t 6), none, false⟩])
     (.ret)))⟩
theorem ok_slices_nextPowerOfTwo : okFunc Go.Proofs.Try.prog fo Go.Proofs.Try.f128 b_slices_nextPowerOfTwo = true := by kernel_rfl
theorem du_slices_nextPowerOfTwo : dutiesF Go.Proofs.Try.f128 b_slices_nextPowerOfTwo = [(114, F_math_bits_Len)] := by kernel_rfl
theorem fn_slices_nextPowerOfTwo : FnOk P fo 128 b_slices_nextPowerOfTwo := ⟨_, Go.Proofs.Try.func128, ok_slices_nextPowerOfTwo, by rw [du_slices_nextPowerOfTwo]; exact List.forall_mem_cons.2 ⟨p_math_bits_Len, fun _ h => by cases h⟩⟩
def F_slices_nextPowerOfTwo : List PV → Option PV := pureF (fun _ => none) b_slices_nextPowerOfTwo
theorem p_slices_nextPowerOfTwo : PureFn P 128 F_slices_nextPowerOfTwo := pureF_ok noTable fn_slices_nextPowerOfTwo

/-- (*slices.xorshift).Next -/
def b_slices_xorshift_Next : AFn := ⟨1, [.tmp 2],
    (.seq (.region [⟨(some 2), .move (.c (.int .u64 0)), none, false⟩])
     (.seq (.region [⟨(some 3), .move (.t 0), none, false⟩,
       ⟨(some 4), .nilck (.t 3), none, false⟩,
       ⟨(some 5), .load false 1 (.t 4), none, false⟩,
       ⟨(some 6), .move (.t 0), none, false⟩,
       ⟨(some 7), .nilck (.t 6), none, false⟩,
       ⟨(some 8), .load false 1 (.t 7), none, false⟩,
       ⟨(some 9), .bin .shl (.t 8) (.c (.int .u64 13)), none, false⟩,
       ⟨(some 10), .bin .xor (.t 5) (.t 9), none, false⟩,
       ⟨(some 11), .nilck (.t 3), none, false⟩,
       ⟨none, .store 1 (.t 11) (.t 10), none, false⟩])
     (.seq (.region [⟨(some 12), .move (.t 0), none, false⟩,
       ⟨(some 13), .nilck (.t 12), none, false⟩,
       ⟨(some 14), .load false 1 (.t 13), none, false⟩,
       ⟨(some 15), .move (.t 0), none, false⟩,
       ⟨(some 16), .nilck (.t 15), none, false⟩,
       ⟨(some 17), .load false 1 (.t 16), none, false⟩,
       ⟨(some 18), .bin .shr (.t 17) (.c (.int .u64 7)), none, false⟩,
       ⟨(some 19), .bin .xor (.t 14) (.t 18), none, false⟩,
       ⟨(some 20), .nilck (.t 12), none, false⟩,
       ⟨none, .store 1 (.t 20) (.t 19), none, false⟩])
     (.seq (.region [⟨(some 21), .move (.t 0), none, false⟩,
       ⟨(some 22), .nilck (.t 21), none, false⟩,
       ⟨(some 23), .load false 1 (.t 22), none, false⟩,
       ⟨(some 24), .move (.t 0), none, false⟩,
       ⟨(some 25), .nilck (.t 24), none, false⟩,
       ⟨(some 26), .load false 1 (.t 25), none, false⟩,
       ⟨(some 27), .bin .shl (.t 26) (.c (.int .u64 17)), none, false⟩,
       ⟨(some 28), .bin .xor (.t 23) (.t 27), none, false⟩,
       ⟨(some 29), .nilck (.t 21), none, false⟩,
       ⟨none, .store 1 (.t 29) (.t 28), none, false⟩])
     (.seq (.region [⟨(some 30), .move (.t 0), none, false⟩,
       ⟨(some 31), .nilck (.t 30), none, false⟩,
       ⟨(some 32), .load false 1 (.t 31), none, false⟩,
       ⟨(some 2), .move (.t 32), none, false⟩])
     (.ret))))))⟩
theorem ok_slices_xorshift_Next : okFunc Go.Proofs.Try.prog fo Go.Proofs.Try.f129 b_slices_xorshift_Next = true := by kernel_rfl
theorem du_slices_xorshift_Next : dutiesF Go.Proofs.Try.f129 b_slices_xorshift_Next = [] := by kernel_rfl
theorem fn_slices_xorshift_Next : FnOk P fo 129 b_slices_xorshift_Next := ⟨_, Go.Proofs.Try.func129, ok_slices_xorshift_Next, by rw [du_slices_xorshift_Next]; exact fun _ h => by cases h⟩

def b_slices_breakPatternsCmpFunc_sets_Run_l0 : ACode :=
    (.seq (.seq (.region [⟨(some 28), .move (.t 11), none, false⟩,
       ⟨(some 29), .move (.t 1), none, false⟩,
       ⟨(some 30), .move (.t 8), none, false⟩,
       ⟨(some 31), .bin .quo (.t 30) (.c (.int .i64 4)), none, false⟩,
       ⟨(some 32), .bin .mul (.t 31) (.c (.int .i64 2)), none, false⟩,
       ⟨(some 33), .bin .add (.t 29) (.t 32), none, false⟩,
       ⟨(some 34), .bin .add (.t 33) (.c (.int .i64 1)), none, false⟩,
       ⟨(some 35), .bin .leq (.t 28) (.t 34), none, false⟩])
     (.cond (.t 35) (.skip) (.exit 0)))
     (.seq (.block 1 (.seq (.region [⟨(some 38), .callI 11 [(.t 9)], none, false⟩,
        ⟨(some 39), .move (.t 10), none, false⟩,
        ⟨(some 40), .bin .sub (.t 39) (.c (.int .u64 1)), none, false⟩,
        ⟨(some 41), .bin .and (.t 38) (.t 40), none, false⟩,
        ⟨(some 42), .conv .i64 (.t 41), none, false⟩,
        ⟨(some 12), .move (.t 42), none, false⟩])
      (.seq (.seq (.region [⟨(some 43), .move (.t 12), none, false⟩,
        ⟨(some 44), .move (.t 8), none, false⟩,
        ⟨(some 45), .bin .geq (.t 43) (.t 44), none, false⟩])
      (.cond (.t 45) (.region [⟨(some 46), .move (.t 12), none, false⟩,
         ⟨(some 47), .move (.t 8), none, false⟩,
         ⟨(some 48), .bin .sub (.t 46) (.t 47), none, false⟩,
         ⟨(some 12), .move (.t 48), none, false⟩]) (.skip)))
      (.region [⟨(some 49), .move (.t 0), none, false⟩,
        ⟨(some 50), .move (.t 11), none, false⟩,
        ⟨(some 51), .move (.t 0), none, false⟩,
        ⟨(some 52), .move (.t 1), none, false⟩,
        ⟨(some 53), .move (.t 12), none, false⟩,
        ⟨(some 54), .bin .add (.t 52) (.t 53), none, false⟩,
        ⟨(some 55), .move (.t 0), none, false⟩,
        ⟨(some 56), .move (.t 1), none, false⟩,
        ⟨(some 57), .move (.t 12), none, false⟩,
        ⟨(some 58), .bin .add (.t 56) (.t 57), none, false⟩,
        ⟨(some 59), .iaddr 2 (.t 55) (.t 58), none, false⟩,
        ⟨(some 60), .load true 2 (.t 59), none, false⟩,
        ⟨(some 61), .move (.t 0), none, false⟩,
        ⟨(some 62), .move (.t 11), none, false⟩,
        ⟨(some 63), .iaddr 2 (.t 61) (.t 62), none, false⟩,
        ⟨(some 64), .load true 2 (.t 63), none, false⟩,
        ⟨(some 65), .iaddr 2 (.t 49) (.t 50), none, false⟩,
        ⟨none, .store 2 (.t 65) (.t 60), none, false⟩,
        ⟨(some 66), .iaddr 2 (.t 51) (.t 54), none, false⟩,
        ⟨none, .store 2 (.t 66) (.t 64), none, false⟩]))))
     (.region [⟨(some 36), .move (.t 11), none, false⟩,
       ⟨(some 37), .bin .add (.t 36) (.c (.int .i64 1)), none, false⟩,
       ⟨(some 11), .move (.t 37), none, false⟩])))
/-- slices.breakPatternsCmpFunc[leadtrail/sets.Run] -/
def b_slices_breakPatternsCmpFunc_sets_Run : AFn := ⟨4, [],
    (.seq (.region [⟨(some 13), .move (.t 2), none, false⟩,
       ⟨(some 14), .move (.t 1), none, false⟩,
       ⟨(some 15), .bin .sub (.t 13) (.t 14), none, false⟩,
       ⟨(some 8), .move (.t 15), none, false⟩])
     (.seq (.region [⟨(some 16), .move (.t 8), none, false⟩,
       ⟨(some 17), .bin .geq (.t 16) (.c (.int .i64 8)), none, false⟩])
     (.cond (.t 17) (.seq (.region [⟨(some 18), .move (.t 8), none, false⟩,
        ⟨(some 19), .conv .u64 (.t 18), none, false⟩,
        ⟨(some 9), .alloc [(.int .u64 0)], none, false⟩,
        ⟨none, .store 1 (.t 9) (.t 19), none, false⟩])
      (.seq (.region [⟨(some 20), .move (.t 8), none, false⟩,
        ⟨(some 21), .callP F_slices_nextPowerOfTwo [(.t 20)], none, false⟩,
        ⟨(some 10), .move (.t 21), none, false⟩])
      (.seq (.region [⟨(some 22), .move (.t 1), none, false⟩,
        ⟨(some 23), .move (.t 8), none, false⟩,
        ⟨(some 24), .bin .quo (.t 23) (.c (.int .i64 4)), none, false⟩,
        ⟨(some 25), .bin .mul (.t 24) (.c (.int .i64 2)), none, false⟩,
        ⟨(some 26), .bin .add (.t 22) (.t 25), none, false⟩,
        ⟨(some 27), .bin .sub (.t 26) (.c (.int .i64 1)), none, false⟩,
        ⟨(some 11), .move (.t 27), none, false⟩])
      (.block 0 (.loop [0, 1, 8, 9, 10, 11] b_slices_breakPatternsCmpFunc_sets_Run_l0))))) (.skip))))⟩
theorem ok_slices_breakPatternsCmpFunc_sets_Run : okFunc Go.Proofs.Try.prog fo Go.Proofs.Try.f119 b_slices_breakPatternsCmpFunc_sets_Run = true := by kernel_rfl
theorem du_slices_breakPatternsCmpFunc_sets_Run : dutiesF Go.Proofs.Try.f119 b_slices_breakPatternsCmpFunc_sets_Run = [(128, F_slices_nextPowerOfTwo)] := by kernel_rfl
theorem fn_slices_breakPatternsCmpFunc_sets_Run : FnOk P fo 119 b_slices_breakPatternsCmpFunc_sets_Run := ⟨_, Go.Proofs.Try.func119, ok_slices_breakPatternsCmpFunc_sets_Run, by rw [du_slices_breakPatternsCmpFunc_sets_Run]; exact List.forall_mem_cons.2 ⟨p_slices_nextPowerOfTwo, fun _ h => by cases h⟩⟩

/-- slices.order2CmpFunc[leadtrail/sets.Run] -/
def b_slices_order2CmpFunc_sets_Run : AFn := ⟨5, [.tmp 10, .tmp 11],
    (.seq (.region [⟨(some 10), .move (.c (.int .i64 0)), none, false⟩,
       ⟨(some 11), .move (.c (.int .i64 0)), none, false⟩])
     (.seq (.seq (.region [⟨(some 12), .move (.t 4), none, false⟩,
       ⟨(some 13), .move (.t 0), none, false⟩,
       ⟨(some 14), .move (.t 2), none, false⟩,
       ⟨(some 15), .iaddr 2 (.t 13) (.t 14), none, true⟩,
       ⟨(some 16), .load true 2 (.t 15), none, true⟩,
       ⟨(some 17), .move (.t 0), none, false⟩,
       ⟨(some 18), .move (.t 1), none, false⟩,
       ⟨(some 19), .iaddr 2 (.t 17) (.t 18), none, true⟩,
       ⟨(some 20), .load true 2 (.t 19), none, true⟩,
       ⟨(some 21), .callV (.t 12) [(.t 16), (.t 20)], none, false⟩,
       ⟨(some 22), .bin .lss (.t 21) (.c (.int .i64 0)), none, false⟩])
     (.cond (.t 22) (.seq (.region [⟨(some 23), .move (.t 3), none, false⟩,
        ⟨(some 24), .nilck (.t 23), none, false⟩,
        ⟨(some 25), .load false 1 (.t 24), none, false⟩,
        ⟨(some 26), .bin .add (.t 25) (.c (.int .i64 1)), none, false⟩,
        ⟨(some 27), .nilck (.t 23), none, false⟩,
        ⟨none, .store 1 (.t 27) (.t 26), none, false⟩])
      (.seq (.region [⟨(some 28), .move (.t 2), none, false⟩,
        ⟨(some 29), .move (.t 1), none, false⟩,
        ⟨(some 10), .move (.t 28), none, false⟩,
        ⟨(some 11), .move (.t 29), none, false⟩])
      (.ret))) (.skip)))
     (.seq (.region [⟨(some 30), .move (.t 1), none, false⟩,
       ⟨(some 31), .move (.t 2), none, false⟩,
       ⟨(some 10), .move (.t 30), none, false⟩,
       ⟨(some 11), .move (.t 31), none, false⟩])
     (.ret))))⟩
theorem ok_slices_order2CmpFunc_sets_Run : okFunc Go.Proofs.Try.prog fo Go.Proofs.Try.f132 b_slices_order2CmpFunc_sets_Run = true := by kernel_rfl
theorem du_slices_order2CmpFunc_sets_Run : dutiesF Go.Proofs.Try.f132 b_slices_order2CmpFunc_sets_Run = [] := by kernel_rfl
theorem fn_slices_order2CmpFunc_sets_Run : FnOk P fo 132 b_slices_order2CmpFunc_sets_Run := ⟨_, Go.Proofs.Try.func132, ok_slices_order2CmpFunc_sets_Run, by rw [du_slices_order2CmpFunc_sets_Run]; exact fun _ h => by cases h⟩

/-- slices.medianCmpFunc[leadtrail/sets.Run] -/
def b_slices_medianCmpFunc_sets_Run : AFn := ⟨6, [.tmp 12],
    (.seq (.region [⟨(some 12), .move (.c (.int .i64 0)), none, false⟩])
     (.seq (.region [⟨(some 14), .move (.t 0), none, false⟩,
       ⟨(some 15), .move (.t 1), none, false⟩,
       ⟨(some 16), .move (.t 2), none, false⟩,
       ⟨(some 17), .move (.t 4), none, false⟩,
       ⟨(some 18), .move (.t 5), none, false⟩,
       ⟨(some 19), .callI 13 [(.t 14), (.t 15), (.t 16), (.t 17), (.t 18)], none, false⟩,
       ⟨(some 13), .move (.t 19), none, false⟩,
       ⟨(some 20), .ext 0 (.t 13), none, false⟩,
       ⟨(some 21), .ext 1 (.t 13), none, false⟩,
       ⟨(some 1), .move (.t 20), none, false⟩,
       ⟨(some 2), .move (.t 21), none, false⟩])
     (.seq (.region [⟨(some 23), .move (.t 0), none, false⟩,
       ⟨(some 24), .move (.t 2), none, false⟩,
       ⟨(some 25), .move (.t 3), none, false⟩,
       ⟨(some 26), .move (.t 4), none, false⟩,
       ⟨(some 27), .move (.t 5), none, false⟩,
       ⟨(some 28), .callI 13 [(.t 23), (.t 24), (.t 25), (.t 26), (.t 27)], none, false⟩,
       ⟨(some 22), .move (.t 28), none, false⟩,
       ⟨(some 29), .ext 0 (.t 22), none, false⟩,
       ⟨(some 30), .ext 1 (.t 22), none, false⟩,
       ⟨(some 2), .move (.t 29), none, false⟩,
       ⟨(some 3), .move (.t 30), none, false⟩])
     (.seq (.region [⟨(some 32), .move (.t 0), none, false⟩,
       ⟨(some 33), .move (.t 1), none, false⟩,
       ⟨(some 34), .move (.t 2), none, false⟩,
       ⟨(some 35), .move (.t 4), none, false⟩,
       ⟨(some 36), .move (.t 5), none, false⟩,
       ⟨(some 37), .callI 13 [(.t 32), (.t 33), (.t 34), (.t 35), (.t 36)], none, false⟩,
       ⟨(some 31), .move (.t 37), none, false⟩,
       ⟨(some 38), .ext 0 (.t 31), none, false⟩,
       ⟨(some 39), .ext 1 (.t 31), none, false⟩,
       ⟨(some 1), .move (.t 38), none, false⟩,
       ⟨(some 2), .move (.t 39), none, false⟩])
     (.seq (.region [⟨(some 40), .move (.t 2), none, false⟩,
       ⟨(some 12), .move (.t 40), none, false⟩])
     (.ret))))))⟩
theorem ok_slices_medianCmpFunc_sets_Run : okFunc Go.Proofs.Try.prog fo Go.Proofs.Try.f131 b_slices_medianCmpFunc_sets_Run = true := by kernel_rfl
theorem du_slices_medianCmpFunc_sets_Run : dutiesF Go.Proofs.Try.f131 b_slices_medianCmpFunc_sets_Run = [] := by kernel_rfl
theorem fn_slices_medianCmpFunc_sets_Run : FnOk P fo 131 b_slices_medianCmpFunc_sets_Run := ⟨_, Go.Proofs.Try.func131, ok_slices_medianCmpFunc_sets_Run, by rw [du_slices_medianCmpFunc_sets_Run]; exact fun _ h => by cases h⟩

/-- slices.medianAdjacentCmpFunc[leadtrail/sets.Run] -/
def b_slices_medianAdjacentCmpFunc_sets_Run : AFn := ⟨4, [.tmp 8],
    (.seq (.region [⟨(some 8), .move (.c (.int .i64 0)), none, false⟩])
     (.seq (.region [⟨(some 9), .move (.t 0), none, false⟩,
       ⟨(some 10), .move (.t 1), none, false⟩,
       ⟨(some 11), .bin .sub (.t 10) (.c (.int .i64 1)), none, false⟩,
       ⟨(some 12), .move (.t 1), none, false⟩,
       ⟨(some 13), .move (.t 1), none, false⟩,
       ⟨(some 14), .bin .add (.t 13) (.c (.int .i64 1)), none, false⟩,
       ⟨(some 15), .move (.t 2), none, false⟩,
       ⟨(some 16), .move (.t 3), none, false⟩,
       ⟨(some 17), .callI 14 [(.t 9), (.t 11), (.t 12), (.t 14), (.t 15), (.t 16)], none, false⟩,
       ⟨(some 8), .move (.t 17), none, false⟩])
     (.ret)))⟩
theorem ok_slices_medianAdjacentCmpFunc_sets_Run : okFunc Go.Proofs.Try.prog fo Go.Proofs.Try.f130 b_slices_medianAdjacentCmpFunc_sets_Run = true := by kernel_rfl
theorem du_slices_medianAdjacentCmpFunc_sets_Run : dutiesF Go.Proofs.Try.f130 b_slices_medianAdjacentCmpFunc_sets_Run = [] := by kernel_rfl
theorem fn_slices_medianAdjacentCmpFunc_sets_Run : FnOk P fo 130 b_slices_medianAdjacentCmpFunc_sets_Run := ⟨_, Go.Proofs.Try.func130, ok_slices_medianAdjacentCmpFunc_sets_Run, by rw [du_slices_medianAdjacentCmpFunc_sets_Run]; exact fun _ h => by cases h⟩

/-- slices.choosePivotCmpFunc[leadtrail/sets.Run] -/
def b_slices_choosePivotCmpFunc_sets_Run : AFn := ⟨4, [.tmp 8, .tmp 9],
    (.seq (.region [⟨(some 8), .move (.c (.int .i64 0)), none, false⟩,
       ⟨(some 9), .move (.c (.int .i64 0)), none, false⟩])
     (.seq (.region [⟨(some 15), .move (.t 2), none, false⟩,
       ⟨(some 16), .move (.t 1), none, false⟩,
       ⟨(some 17), .bin .sub (.t 15) (.t 16), none, false⟩,
       ⟨(some 10), .move (.t 17), none, false⟩])
     (.seq (.region [⟨(some 11), .alloc [(.int .i64 0)], none, false⟩])
     (.seq (.region [⟨(some 18), .move (.t 1), none, false⟩,
       ⟨(some 19), .move (.t 10), none, false⟩,
       ⟨(some 20), .bin .quo (.t 19) (.c (.int .i64 4)), none, false⟩,
       ⟨(some 21), .bin .mul (.t 20) (.c (.int .i64 1)), none, false⟩,
       ⟨(some 22), .bin .add (.t 18) (.t 21), none, false⟩,
       ⟨(some 12), .move (.t 22), none, false⟩])
     (.seq (.region [⟨(some 23), .move (.t 1), none, false⟩,
       ⟨(some 24), .move (.t 10), none, false⟩,
       ⟨(some 25), .bin .quo (.t 24) (.c (.int .i64 4)), none, false⟩,
       ⟨(some 26), .bin .mul (.t 25) (.c (.int .i64 2)), none, false⟩,
       ⟨(some 27), .bin .add (.t 23) (.t 26), none, false⟩,
       ⟨(some 13), .move (.t 27), none, false⟩])
     (.seq (.region [⟨(some 28), .move (.t 1), none, false⟩,
       ⟨(some 29), .move (.t 10), none, false⟩,
       ⟨(some 30), .bin .quo (.t 29) (.c (.int .i64 4)), none, false⟩,
       ⟨(some 31), .bin .mul (.t 30) (.c (.int .i64 3)), none, false⟩,
       ⟨(some 32), .bin .add (.t 28) (.t 31), none, false⟩,
       ⟨(some 14), .move (.t 32), none, false⟩])
     (.seq (.seq (.region [⟨(some 33), .move (.t 10), none, false⟩,
       ⟨(some 34), .bin .geq (.t 33) (.c (.int .i64 8)), none, false⟩])
     (.cond (.t 34) (.seq (.seq (.region [⟨(some 35), .move (.t 10), none, false⟩,
        ⟨(some 36), .bin .geq (.t 35) (.c (.int .i64 50)), none, false⟩])
      (.cond (.t 36) (.seq (.region [⟨(some 37), .move (.t 0), none, false⟩,
         ⟨(some 38), .move (.t 12), none, false⟩,
         ⟨(some 39), .move (.t 3), none, false⟩,
         ⟨(some 40), .callI 15 [(.t 37), (.t 38), (.t 11), (.t 39)], none, false⟩,
         ⟨(some 12), .move (.t 40), none, false⟩])
       (.seq (.region [⟨(some 41), .move (.t 0), none, false⟩,
         ⟨(some 42), .move (.t 13), none, false⟩,
         ⟨(some 43), .move (.t 3), none, false⟩,
         ⟨(some 44), .callI 15 [(.t 41), (.t 42), (.t 11), (.t 43)], none, false⟩,
         ⟨(some 13), .move (.t 44), none, false⟩])
       (.region [⟨(some 45), .move (.t 0), none, false⟩,
         ⟨(some 46), .move (.t 14), none, false⟩,
         ⟨(some 47), .move (.t 3), none, false⟩,
         ⟨(some 48), .callI 15 [(.t 45), (.t 46), (.t 11), (.t 47)], none, false⟩,
         ⟨(some 14), .move (.t 48), none, false⟩]))) (.skip)))
      (.region [⟨(some 49), .move (.t 0), none, false⟩,
        ⟨(some 50), .move (.t 12), none, false⟩,
        ⟨(some 51), .move (.t 13), none, false⟩,
        ⟨(some 52), .move (.t 14), none, false⟩,
        ⟨(some 53), .move (.t 3), none, false⟩,
        ⟨(some 54), .callI 14 [(.t 49), (.t 50), (.t 51), (.t 52), (.t 11), (.t 53)], none, false⟩,
        ⟨(some 13), .move (.t 54), none, false⟩])) (.skip)))
     (.seq (.region [⟨(some 55), .load false 1 (.t 11), none, false⟩])
     (.block 0 (.seq (.region [⟨(some 58), .bin .eql (.t 55) (.c (.int .i64 0)), none, false⟩,
        ⟨(some 57), .move (.t 58), none, false⟩])
      (.cond (.t 57) (.seq (.region [⟨(some 59), .move (.t 13), none, false⟩,
         ⟨(some 8), .move (.t 59), none, false⟩,
         ⟨(some 9), .move (.c (.int .i64 1)), none, false⟩])
       (.ret)) (.seq (.region [⟨(some 61), .bin .eql (.t 55) (.c (.int .i64 12)), none, false⟩,
         ⟨(some 60), .move (.t 61), none, false⟩])
       (.cond (.t 60) (.seq (.region [⟨(some 62), .move (.t 13), none, false⟩,
          ⟨(some 8), .move (.t 62), none, false⟩,
          ⟨(some 9), .move (.c (.int .i64 2)), none, false⟩])
        (.ret)) (.seq (.region [⟨(some 56), .move (.t 13), none, false⟩,
          ⟨(some 8), .move (.t 56), none, false⟩,
          ⟨(some 9), .move (.c (.int .i64 0)), none, false⟩])
        (.ret)))))))))))))))⟩
theorem ok_slices_choosePivotCmpFunc_sets_Run : okFunc Go.Proofs.Try.prog fo Go.Proofs.Try.f120 b_slices_choosePivotCmpFunc_sets_Run = true := by kernel_rfl
theorem du_slices_choosePivotCmpFunc_sets_Run : dutiesF Go.Proofs.Try.f120 b_slices_choosePivotCmpFunc_sets_Run = [] := by kernel_rfl
theorem fn_slices_choosePivotCmpFunc_sets_Run : FnOk P fo 120 b_slices_choosePivotCmpFunc_sets_Run := ⟨_, Go.Proofs.Try.func120, ok_slices_choosePivotCmpFunc_sets_Run, by rw [du_slices_choosePivotCmpFunc_sets_Run]; exact fun _ h => by cases h⟩

def b_slices_reverseRangeCmpFunc_sets_Run_l0 : ACode :=
    (.seq (.seq (.region [⟨(some 13), .move (.t 8), none, false⟩,
       ⟨(some 14), .move (.t 9), none, false⟩,
       ⟨(some 15), .bin .lss (.t 13) (.t 14), none, false⟩])
     (.cond (.t 15) (.skip) (.exit 0)))
     (.block 1 (.seq (.region [⟨(some 16), .move (.t 0), none, false⟩,
        ⟨(some 17), .move (.t 8), none, false⟩,
        ⟨(some 18), .move (.t 0), none, false⟩,
        ⟨(some 19), .move (.t 9), none, false⟩,
        ⟨(some 20), .move (.t 0), none, false⟩,
        ⟨(some 21), .move (.t 9), none, false⟩,
        ⟨(some 22), .iaddr 2 (.t 20) (.t 21), none, false⟩,
        ⟨(some 23), .load true 2 (.t 22), none, false⟩,
        ⟨(some 24), .move (.t 0), none, false⟩,
        ⟨(some 25), .move (.t 8), none, false⟩,
        ⟨(some 26), .iaddr 2 (.t 24) (.t 25), none, false⟩,
        ⟨(some 27), .load true 2 (.t 26), none, false⟩,
        ⟨(some 28), .iaddr 2 (.t 16) (.t 17), none, false⟩,
        ⟨none, .store 2 (.t 28) (.t 23), none, false⟩,
        ⟨(some 29), .iaddr 2 (.t 18) (.t 19), none, false⟩,
        ⟨none, .store 2 (.t 29) (.t 27), none, false⟩])
      (.seq (.region [⟨(some 30), .move (.t 8), none, false⟩,
        ⟨(some 31), .bin .add (.t 30) (.c (.int .i64 1)), none, false⟩,
        ⟨(some 8), .move (.t 31), none, false⟩])
      (.region [⟨(some 32), .move (.t 9), none, false⟩,
        ⟨(some 33), .bin .sub (.t 32) (.c (.int .i64 1)), none, false⟩,
        ⟨(some 9), .move (.t 33), none, false⟩])))))
/-- slices.reverseRangeCmpFunc[leadtrail/sets.Run] -/
def b_slices_reverseRangeCmpFunc_sets_Run : AFn := ⟨4, [],
    (.seq (.region [⟨(some 10), .move (.t 1), none, false⟩,
       ⟨(some 8), .move (.t 10), none, false⟩])
     (.seq (.region [⟨(some 11), .move (.t 2), none, false⟩,
       ⟨(some 12), .bin .sub (.t 11) (.c (.int .i64 1)), none, false⟩,
       ⟨(some 9), .move (.t 12), none, false⟩])
     (.block 0 (.loop [0, 8, 9] b_slices_reverseRangeCmpFunc_sets_Run_l0))))⟩
theorem ok_slices_reverseRangeCmpFunc_sets_Run : okFunc Go.Proofs.Try.prog fo Go.Proofs.Try.f121 b_slices_reverseRangeCmpFunc_sets_Run = true := by kernel_rfl
theorem du_slices_reverseRangeCmpFunc_sets_Run : dutiesF Go.Proofs.Try.f121 b_slices_reverseRangeCmpFunc_sets_Run = [] := by kernel_rfl
theorem fn_slices_reverseRangeCmpFunc_sets_Run : FnOk P fo 121 b_slices_reverseRangeCmpFunc_sets_Run := ⟨_, Go.Proofs.Try.func121, ok_slices_reverseRangeCmpFunc_sets_Run, by rw [du_slices_reverseRangeCmpFunc_sets_Run]; exact fun _ h => by cases h⟩

def b_slices_partialInsertionSortCmpFunc_sets_Run_l1 : ACode :=
    (.seq (.seq (.region [⟨(some 19), .move (.t 9), none, false⟩,
       ⟨(some 20), .move (.t 2), none, false⟩,
       ⟨(some 21), .bin .lss (.t 19) (.t 20), none, false⟩,
       ⟨(some 22), .move (.t 21), none, false⟩,
       ⟨(some 23), .move (.t 3), (some (22, true)), false⟩,
       ⟨(some 24), .move (.t 0), (some (22, true)), false⟩,
       ⟨(some 25), .move (.t 9), (some (22, true)), false⟩,
       ⟨(some 26), .iaddr 2 (.t 24) (.t 25), (some (22, true)), false⟩,
       ⟨(some 27), .load true 2 (.t 26), (some (22, true)), false⟩,
       ⟨(some 28), .move (.t 0), (some (22, true)), false⟩,
       ⟨(some 29), .move (.t 9), (some (22, true)), false⟩,
       ⟨(some 30), .bin .sub (.t 29) (.c (.int .i64 1)), (some (22, true)), false⟩,
       ⟨(some 31), .iaddr 2 (.t 28) (.t 30), (some (22, true)), false⟩,
       ⟨(some 32), .load true 2 (.t 31), (some (22, true)), false⟩,
       ⟨(some 33), .callV (.t 23) [(.t 27), (.t 32)], (some (22, true)), false⟩,
       ⟨(some 34), .bin .lss (.t 33) (.c (.int .i64 0)), (some (22, true)), false⟩,
       ⟨(some 35), .un .not (.t 34), (some (22, true)), false⟩,
       ⟨(some 36), .pick (.t 22) (.t 35) (.c (.bool false)), none, false⟩])
     (.cond (.t 36) (.skip) (.exit 2)))
     (.block 3 (.region [⟨(some 37), .move (.t 9), none, false⟩,
        ⟨(some 38), .bin .add (.t 37) (.c (.int .i64 1)), none, false⟩,
        ⟨(some 9), .move (.t 38), none, false⟩])))
def b_slices_partialInsertionSortCmpFunc_sets_Run_l2 : ACode :=
    (.seq (.seq (.region [⟨(some 68), .move (.t 11), none, false⟩,
       ⟨(some 69), .bin .geq (.t 68) (.c (.int .i64 1)), none, false⟩])
     (.cond (.t 69) (.skip) (.exit 4)))
     (.seq (.block 5 (.seq (.seq (.region [⟨(some 72), .move (.t 3), none, false⟩,
        ⟨(some 73), .move (.t 0), none, false⟩,
        ⟨(some 74), .move (.t 11), none, false⟩,
        ⟨(some 75), .iaddr 2 (.t 73) (.t 74), none, false⟩,
        ⟨(some 76), .load true 2 (.t 75), none, false⟩,
        ⟨(some 77), .move (.t 0), none, false⟩,
        ⟨(some 78), .move (.t 11), none, false⟩,
        ⟨(some 79), .bin .sub (.t 78) (.c (.int .i64 1)), none, false⟩,
        ⟨(some 80), .iaddr 2 (.t 77) (.t 79), none, false⟩,
        ⟨(some 81), .load true 2 (.t 80), none, false⟩,
        ⟨(some 82), .callV (.t 72) [(.t 76), (.t 81)], none, false⟩,
        ⟨(some 83), .bin .lss (.t 82) (.c (.int .i64 0)), none, false⟩,
        ⟨(some 84), .un .not (.t 83), none, false⟩])
      (.cond (.t 84) (.exit 4) (.skip)))
      (.region [⟨(some 85), .move (.t 0), none, false⟩,
        ⟨(some 86), .move (.t 11), none, false⟩,
        ⟨(some 87), .move (.t 0), none, false⟩,
        ⟨(some 88), .move (.t 11), none, false⟩,
        ⟨(some 89), .bin .sub (.t 88) (.c (.int .i64 1)), none, false⟩,
        ⟨(some 90), .move (.t 0), none, false⟩,
        ⟨(some 91), .move (.t 11), none, false⟩,
        ⟨(some 92), .bin .sub (.t 91) (.c (.int .i64 1)), none, false⟩,
        ⟨(some 93), .iaddr 2 (.t 90) (.t 92), none, false⟩,
        ⟨(some 94), .load true 2 (.t 93), none, false⟩,
        ⟨(some 95), .move (.t 0), none, false⟩,
        ⟨(some 96), .move (.t 11), none, false⟩,
        ⟨(some 97), .iaddr 2 (.t 95) (.t 96), none, false⟩,
        ⟨(some 98), .load true 2 (.t 97), none, false⟩,
        ⟨(some 99), .iaddr 2 (.t 85) (.t 86), none, false⟩,
        ⟨none, .store 2 (.t 99) (.t 94), none, false⟩,
        ⟨(some 100), .iaddr 2 (.t 87) (.t 89), none, false⟩,
        ⟨none, .store 2 (.t 100) (.t 98), none, false⟩])))
     (.region [⟨(some 70), .move (.t 11), none, false⟩,
       ⟨(some 71), .bin .sub (.t 70) (.c (.int .i64 1)), none, false⟩,
       ⟨(some 11), .move (.t 71), none, false⟩])))
def b_slices_partialInsertionSortCmpFunc_sets_Run_l3 : ACode :=
    (.seq (.seq (.region [⟨(some 107), .move (.t 12), none, false⟩,
       ⟨(some 108), .move (.t 2), none, false⟩,
       ⟨(some 109), .bin .lss (.t 107) (.t 108), none, false⟩])
     (.cond (.t 109) (.skip) (.exit 6)))
     (.seq (.block 7 (.seq (.seq (.region [⟨(some 112), .move (.t 3), none, false⟩,
        ⟨(some 113), .move (.t 0), none, false⟩,
        ⟨(some 114), .move (.t 12), none, false⟩,
        ⟨(some 115), .iaddr 2 (.t 113) (.t 114), none, false⟩,
        ⟨(some 116), .load true 2 (.t 115), none, false⟩,
        ⟨(some 117), .move (.t 0), none, false⟩,
        ⟨(some 118), .move (.t 12), none, false⟩,
        ⟨(some 119), .bin .sub (.t 118) (.c (.int .i64 1)), none, false⟩,
        ⟨(some 120), .iaddr 2 (.t 117) (.t 119), none, false⟩,
        ⟨(some 121), .load true 2 (.t 120), none, false⟩,
        ⟨(some 122), .callV (.t 112) [(.t 116), (.t 121)], none, false⟩,
        ⟨(some 123), .bin .lss (.t 122) (.c (.int .i64 0)), none, false⟩,
        ⟨(some 124), .un .not (.t 123), none, false⟩])
      (.cond (.t 124) (.exit 6) (.skip)))
      (.region [⟨(some 125), .move (.t 0), none, false⟩,
        ⟨(some 126), .move (.t 12), none, false⟩,
        ⟨(some 127), .move (.t 0), none, false⟩,
        ⟨(some 128), .move (.t 12), none, false⟩,
        ⟨(some 129), .bin .sub (.t 128) (.c (.int .i64 1)), none, false⟩,
        ⟨(some 130), .move (.t 0), none, false⟩,
        ⟨(some 131), .move (.t 12), none, false⟩,
        ⟨(some 132), .bin .sub (.t 131) (.c (.int .i64 1)), none, false⟩,
        ⟨(some 133), .iaddr 2 (.t 130) (.t 132), none, false⟩,
        ⟨(some 134), .load true 2 (.t 133), none, false⟩,
        ⟨(some 135), .move (.t 0), none, false⟩,
        ⟨(some 136), .move (.t 12), none, false⟩,
        ⟨(some 137), .iaddr 2 (.t 135) (.t 136), none, false⟩,
        ⟨(some 138), .load true 2 (.t 137), none, false⟩,
        ⟨(some 139), .iaddr 2 (.t 125) (.t 126), none, false⟩,
        ⟨none, .store 2 (.t 139) (.t 134), none, false⟩,
        ⟨(some 140), .iaddr 2 (.t 127) (.t 129), none, false⟩,
        ⟨none, .store 2 (.t 140) (.t 138), none, false⟩])))
     (.region [⟨(some 110), .move (.t 12), none, false⟩,
       ⟨(some 111), .bin .add (.t 110) (.c (.int .i64 1)), none, false⟩,
       ⟨(some 12), .move (.t 111), none, false⟩])))
def b_slices_partialInsertionSortCmpFunc_sets_Run_l0 : ACode :=
    (.seq (.seq (.region [⟨(some 15), .move (.t 10), none, false⟩,
       ⟨(some 16), .bin .lss (.t 15) (.c (.int .i64 5)), none, false⟩])
     (.cond (.t 16) (.skip) (.exit 0)))
     (.seq (.block 1 (.seq (.block 2 (.loop [0, 1, 2, 3, 9, 10] b_slices_partialInsertionSortCmpFunc_sets_Run_l1))
      (.seq (.seq (.region [⟨(some 39), .move (.t 9), none, false⟩,
        ⟨(some 40), .move (.t 2), none, false⟩,
        ⟨(some 41), .bin .eql (.t 39) (.t 40), none, false⟩])
      (.cond (.t 41) (.seq (.region [⟨(some 8), .move (.c (.bool true)), none, false⟩])
       (.ret)) (.skip)))
      (.seq (.seq (.region [⟨(some 42), .move (.t 2), none, false⟩,
        ⟨(some 43), .move (.t 1), none, false⟩,
        ⟨(some 44), .bin .sub (.t 42) (.t 43), none, false⟩,
        ⟨(some 45), .bin .lss (.t 44) (.c (.int .i64 50)), none, false⟩])
      (.cond (.t 45) (.seq (.region [⟨(some 8), .move (.c (.bool false)), none, false⟩])
       (.ret)) (.skip)))
      (.seq (.region [⟨(some 46), .move (.t 0), none, false⟩,
        ⟨(some 47), .move (.t 9), none, false⟩,
        ⟨(some 48), .move (.t 0), none, false⟩,
        ⟨(some 49), .move (.t 9), none, false⟩,
        ⟨(some 50), .bin .sub (.t 49) (.c (.int .i64 1)), none, false⟩,
        ⟨(some 51), .move (.t 0), none, false⟩,
        ⟨(some 52), .move (.t 9), none, false⟩,
        ⟨(some 53), .bin .sub (.t 52) (.c (.int .i64 1)), none, false⟩,
        ⟨(some 54), .iaddr 2 (.t 51) (.t 53), none, false⟩,
        ⟨(some 55), .load true 2 (.t 54), none, false⟩,
        ⟨(some 56), .move (.t 0), none, false⟩,
        ⟨(some 57), .move (.t 9), none, false⟩,
        ⟨(some 58), .iaddr 2 (.t 56) (.t 57), none, false⟩,
        ⟨(some 59), .load true 2 (.t 58), none, false⟩,
        ⟨(some 60), .iaddr 2 (.t 46) (.t 47), none, false⟩,
        ⟨none, .store 2 (.t 60) (.t 55), none, false⟩,
        ⟨(some 61), .iaddr 2 (.t 48) (.t 50), none, false⟩,
        ⟨none, .store 2 (.t 61) (.t 59), none, false⟩])
      (.seq (.seq (.region [⟨(some 62), .move (.t 9), none, false⟩,
        ⟨(some 63), .move (.t 1), none, false⟩,
        ⟨(some 64), .bin .sub (.t 62) (.t 63), none, false⟩,
        ⟨(some 65), .bin .geq (.t 64) (.c (.int .i64 2)), none, false⟩])
      (.cond (.t 65) (.seq (.region [⟨(some 66), .move (.t 9), none, false⟩,
         ⟨(some 67), .bin .sub (.t 66) (.c (.int .i64 1)), none, false⟩,
         ⟨(some 11), .move (.t 67), none, false⟩])
       (.block 4 (.loop [0, 1, 2, 3, 9, 10, 11] b_slices_partialInsertionSortCmpFunc_sets_Run_l2))) (.skip)))
      (.seq (.region [⟨(some 101), .move (.t 2), none, false⟩,
        ⟨(some 102), .move (.t 9), none, false⟩,
        ⟨(some 103), .bin .sub (.t 101) (.t 102), none, false⟩,
        ⟨(some 104), .bin .geq (.t 103) (.c (.int .i64 2)), none, false⟩])
      (.cond (.t 104) (.seq (.region [⟨(some 105), .move (.t 9), none, false⟩,
         ⟨(some 106), .bin .add (.t 105) (.c (.int .i64 1)), none, false⟩,
         ⟨(some 12), .move (.t 106), none, false⟩])
       (.block 6 (.loop [0, 1, 2, 3, 9, 10, 12] b_slices_partialInsertionSortCmpFunc_sets_Run_l3))) (.skip)))))))))
     (.region [⟨(some 17), .move (.t 10), none, false⟩,
       ⟨(some 18), .bin .add (.t 17) (.c (.int .i64 1)), none, false⟩,
       ⟨(some 10), .move (.t 18), none, false⟩])))
/-- slices.partialInsertionSortCmpFunc[leadtrail/sets.Run] -/
def b_slices_partialInsertionSortCmpFunc_sets_Run : AFn := ⟨4, [.tmp 8],
    (.seq (.region [⟨(some 8), .move (.c (.bool false)), none, false⟩])
     (.seq (.region [⟨(some 13), .move (.t 1), none, false⟩,
       ⟨(some 14), .bin .add (.t 13) (.c (.int .i64 1)), none, false⟩,
       ⟨(some 9), .move (.t 14), none, false⟩])
     (.seq (.seq (.region [⟨(some 10), .move (.c (.int .i64 0)), none, false⟩])
     (.block 0 (.loop [0, 1, 2, 3, 9, 10] b_slices_partialInsertionSortCmpFunc_sets_Run_l0)))
     (.seq (.region [⟨(some 8), .move (.c (.bool false)), none, false⟩])
     (.ret)))))⟩
theorem ok_slices_partialInsertionSortCmpFunc_sets_Run : okFunc Go.Proofs.Try.prog fo Go.Proofs.Try.f122 b_slices_partialInsertionSortCmpFunc_sets_Run = true := by kernel_rfl
theorem du_slices_partialInsertionSortCmpFunc_sets_Run : dutiesF Go.Proofs.Try.f122 b_slices_partialInsertionSortCmpFunc_sets_Run = [] := by kernel_rfl
theorem fn_slices_partialInsertionSortCmpFunc_sets_Run : FnOk P fo 122 b_slices_partialInsertionSortCmpFunc_sets_Run := ⟨_, Go.Proofs.Try.func122, ok_slices_partialInsertionSortCmpFunc_sets_Run, by rw [du_slices_partialInsertionSortCmpFunc_sets_Run]; exact fun _ h => by cases h⟩

def b_slices_partitionEqualCmpFunc_sets_Run_l1 : ACode :=
    (.seq (.seq (.region [⟨(some 31), .move (.t 11), none, false⟩,
       ⟨(some 32), .move (.t 12), none, false⟩,
       ⟨(some 33), .bin .leq (.t 31) (.t 32), none, false⟩,
       ⟨(some 34), .move (.t 33), none, false⟩,
       ⟨(some 35), .move (.t 4), (some (34, true)), false⟩,
       ⟨(some 36), .move (.t 0), (some (34, true)), false⟩,
       ⟨(some 37), .move (.t 1), (some (34, true)), false⟩,
       ⟨(some 38), .iaddr 2 (.t 36) (.t 37), (some (34, true)), false⟩,
       ⟨(some 39), .load true 2 (.t 38), (some (34, true)), false⟩,
       ⟨(some 40), .move (.t 0), (some (34, true)), false⟩,
       ⟨(some 41), .move (.t 11), (some (34, true)), false⟩,
       ⟨(some 42), .iaddr 2 (.t 40) (.t 41), (some (34, true)), false⟩,
       ⟨(some 43), .load true 2 (.t 42), (some (34, true)), false⟩,
       ⟨(some 44), .callV (.t 35) [(.t 39), (.t 43)], (some (34, true)), false⟩,
       ⟨(some 45), .bin .lss (.t 44) (.c (.int .i64 0)), (some (34, true)), false⟩,
       ⟨(some 46), .un .not (.t 45), (some (34, true)), false⟩,
       ⟨(some 47), .pick (.t 34) (.t 46) (.c (.bool false)), none, false⟩])
     (.cond (.t 47) (.skip) (.exit 2)))
     (.block 3 (.region [⟨(some 48), .move (.t 11), none, false⟩,
        ⟨(some 49), .bin .add (.t 48) (.c (.int .i64 1)), none, false⟩,
        ⟨(some 11), .move (.t 49), none, false⟩])))
def b_slices_partitionEqualCmpFunc_sets_Run_l2 : ACode :=
    (.seq (.seq (.region [⟨(some 50), .move (.t 11), none, false⟩,
       ⟨(some 51), .move (.t 12), none, false⟩,
       ⟨(some 52), .bin .leq (.t 50) (.t 51), none, false⟩,
       ⟨(some 53), .move (.t 52), none, false⟩,
       ⟨(some 54), .move (.t 4), (some (53, true)), false⟩,
       ⟨(some 55), .move (.t 0), (some (53, true)), false⟩,
       ⟨(some 56), .move (.t 1), (some (53, true)), false⟩,
       ⟨(some 57), .iaddr 2 (.t 55) (.t 56), (some (53, true)), false⟩,
       ⟨(some 58), .load true 2 (.t 57), (some (53, true)), false⟩,
       ⟨(some 59), .move (.t 0), (some (53, true)), false⟩,
       ⟨(some 60), .move (.t 12), (some (53, true)), false⟩,
       ⟨(some 61), .iaddr 2 (.t 59) (.t 60), (some (53, true)), false⟩,
       ⟨(some 62), .load true 2 (.t 61), (some (53, true)), false⟩,
       ⟨(some 63), .callV (.t 54) [(.t 58), (.t 62)], (some (53, true)), false⟩,
       ⟨(some 64), .bin .lss (.t 63) (.c (.int .i64 0)), (some (53, true)), false⟩,
       ⟨(some 65), .pick (.t 53) (.t 64) (.c (.bool false)), none, false⟩])
     (.cond (.t 65) (.skip) (.exit 4)))
     (.block 5 (.region [⟨(some 66), .move (.t 12), none, false⟩,
        ⟨(some 67), .bin .sub (.t 66) (.c (.int .i64 1)), none, false⟩,
        ⟨(some 12), .move (.t 67), none, false⟩])))
def b_slices_partitionEqualCmpFunc_sets_Run_l0 : ACode :=
    (.block 1 (.seq (.block 2 (.loop [0, 1, 4, 11, 12] b_slices_partitionEqualCmpFunc_sets_Run_l1))
      (.seq (.block 4 (.loop [0, 1, 4, 11, 12] b_slices_partitionEqualCmpFunc_sets_Run_l2))
      (.seq (.seq (.region [⟨(some 68), .move (.t 11), none, false⟩,
        ⟨(some 69), .move (.t 12), none, false⟩,
        ⟨(some 70), .bin .gtr (.t 68) (.t 69), none, false⟩])
      (.cond (.t 70) (.exit 0) (.skip)))
      (.seq (.region [⟨(some 71), .move (.t 0), none, false⟩,
        ⟨(some 72), .move (.t 11), none, false⟩,
        ⟨(some 73), .move (.t 0), none, false⟩,
        ⟨(some 74), .move (.t 12), none, false⟩,
        ⟨(some 75), .move (.t 0), none, false⟩,
        ⟨(some 76), .move (.t 12), none, false⟩,
        ⟨(some 77), .iaddr 2 (.t 75) (.t 76), none, false⟩,
        ⟨(some 78), .load true 2 (.t 77), none, false⟩,
        ⟨(some 79), .move (.t 0), none, false⟩,
        ⟨(some 80), .move (.t 11), none, false⟩,
        ⟨(some 81), .iaddr 2 (.t 79) (.t 80), none, false⟩,
        ⟨(some 82), .load true 2 (.t 81), none, false⟩,
        ⟨(some 83), .iaddr 2 (.t 71) (.t 72), none, false⟩,
        ⟨none, .store 2 (.t 83) (.t 78), none, false⟩,
        ⟨(some 84), .iaddr 2 (.t 73) (.t 74), none, false⟩,
        ⟨none, .store 2 (.t 84) (.t 82), none, false⟩])
      (.seq (.region [⟨(some 85), .move (.t 11), none, false⟩,
        ⟨(some 86), .bin .add (.t 85) (.c (.int .i64 1)), none, false⟩,
        ⟨(some 11), .move (.t 86), none, false⟩])
      (.region [⟨(some 87), .move (.t 12), none, false⟩,
        ⟨(some 88), .bin .sub (.t 87) (.c (.int .i64 1)), none, false⟩,
        ⟨(some 12), .move (.t 88), none, false⟩])))))))
/-- slices.partitionEqualCmpFunc[leadtrail/sets.Run] -/
def b_slices_partitionEqualCmpFunc_sets_Run : AFn := ⟨5, [.tmp 10],
    (.seq (.region [⟨(some 10), .move (.c (.int .i64 0)), none, false⟩])
     (.seq (.region [⟨(some 13), .move (.t 0), none, false⟩,
       ⟨(some 14), .move (.t 1), none, false⟩,
       ⟨(some 15), .move (.t 0), none, false⟩,
       ⟨(some 16), .move (.t 3), none, false⟩,
       ⟨(some 17), .move (.t 0), none, false⟩,
       ⟨(some 18), .move (.t 3), none, false⟩,
       ⟨(some 19), .iaddr 2 (.t 17) (.t 18), none, false⟩,
       ⟨(some 20), .load true 2 (.t 19), none, false⟩,
       ⟨(some 21), .move (.t 0), none, false⟩,
       ⟨(some 22), .move (.t 1), none, false⟩,
       ⟨(some 23), .iaddr 2 (.t 21) (.t 22), none, false⟩,
       ⟨(some 24), .load true 2 (.t 23), none, false⟩,
       ⟨(some 25), .iaddr 2 (.t 13) (.t 14), none, false⟩,
       ⟨none, .store 2 (.t 25) (.t 20), none, false⟩,
       ⟨(some 26), .iaddr 2 (.t 15) (.t 16), none, false⟩,
       ⟨none, .store 2 (.t 26) (.t 24), none, false⟩])
     (.seq (.region [⟨(some 27), .move (.t 1), none, false⟩,
       ⟨(some 28), .bin .add (.t 27) (.c (.int .i64 1)), none, false⟩,
       ⟨(some 29), .move (.t 2), none, false⟩,
       ⟨(some 30), .bin .sub (.t 29) (.c (.int .i64 1)), none, false⟩,
       ⟨(some 11), .move (.t 28), none, false⟩,
       ⟨(some 12), .move (.t 30), none, false⟩])
     (.seq (.block 0 (.loop [0, 1, 4, 11, 12] b_slices_partitionEqualCmpFunc_sets_Run_l0))
     (.seq (.region [⟨(some 89), .move (.t 11), none, false⟩,
       ⟨(some 10), .move (.t 89), none, false⟩])
     (.ret))))))⟩
theorem ok_slices_partitionEqualCmpFunc_sets_Run : okFunc Go.Proofs.Try.prog fo Go.Proofs.Try.f123 b_slices_partitionEqualCmpFunc_sets_Run = true := by kernel_rfl
theorem du_slices_partitionEqualCmpFunc_sets_Run : dutiesF Go.Proofs.Try.f123 b_slices_partitionEqualCmpFunc_sets_Run = [] := by kernel_rfl
theorem fn_slices_partitionEqualCmpFunc_sets_Run : FnOk P fo 123 b_slices_partitionEqualCmpFunc_sets_Run := ⟨_, Go.Proofs.Try.func123, ok_slices_partitionEqualCmpFunc_sets_Run, by rw [du_slices_partitionEqualCmpFunc_sets_Run]; exact fun _ h => by cases h⟩

def b_slices_partitionCmpFunc_sets_Run_l0 : ACode :=
    (.seq (.seq (.region [⟨(some 32), .move (.t 12), none, false⟩,
       ⟨(some 33), .move (.t 13), none, false⟩,
       ⟨(some 34), .bin .leq (.t 32) (.t 33), none, false⟩,
       ⟨(some 35), .move (.t 34), none, false⟩,
       ⟨(some 36), .move (.t 4), (some (35, true)), false⟩,
       ⟨(some 37), .move (.t 0), (some (35, true)), false⟩,
       ⟨(some 38), .move (.t 12), (some (35, true)), false⟩,
       ⟨(some 39), .iaddr 2 (.t 37) (.t 38), (some (35, true)), false⟩,
       ⟨(some 40), .load true 2 (.t 39), (some (35, true)), false⟩,
       ⟨(some 41), .move (.t 0), (some (35, true)), false⟩,
       ⟨(some 42), .move (.t 1), (some (35, true)), false⟩,
       ⟨(some 43), .iaddr 2 (.t 41) (.t 42), (some (35, true)), false⟩,
       ⟨(some 44), .load true 2 (.t 43), (some (35, true)), false⟩,
       ⟨(some 45), .callV (.t 36) [(.t 40), (.t 44)], (some (35, true)), false⟩,
       ⟨(some 46), .bin .lss (.t 45) (.c (.int .i64 0)), (some (35, true)), false⟩,
       ⟨(some 47), .pick (.t 35) (.t 46) (.c (.bool false)), none, false⟩])
     (.cond (.t 47) (.skip) (.exit 0)))
     (.block 1 (.region [⟨(some 48), .move (.t 12), none, false⟩,
        ⟨(some 49), .bin .add (.t 48) (.c (.int .i64 1)), none, false⟩,
        ⟨(some 12), .move (.t 49), none, false⟩])))
def b_slices_partitionCmpFunc_sets_Run_l1 : ACode :=
    (.seq (.seq (.region [⟨(some 50), .move (.t 12), none, false⟩,
       ⟨(some 51), .move (.t 13), none, false⟩,
       ⟨(some 52), .bin .leq (.t 50) (.t 51), none, false⟩,
       ⟨(some 53), .move (.t 52), none, false⟩,
       ⟨(some 54), .move (.t 4), (some (53, true)), false⟩,
       ⟨(some 55), .move (.t 0), (some (53, true)), false⟩,
       ⟨(some 56), .move (.t 13), (some (53, true)), false⟩,
       ⟨(some 57), .iaddr 2 (.t 55) (.t 56), (some (53, true)), false⟩,
       ⟨(some 58), .load true 2 (.t 57), (some (53, true)), false⟩,
       ⟨(some 59), .move (.t 0), (some (53, true)), false⟩,
       ⟨(some 60), .move (.t 1), (some (53, true)), false⟩,
       ⟨(some 61), .iaddr 2 (.t 59) (.t 60), (some (53, true)), false⟩,
       ⟨(some 62), .load true 2 (.t 61), (some (53, true)), false⟩,
       ⟨(some 63), .callV (.t 54) [(.t 58), (.t 62)], (some (53, true)), false⟩,
       ⟨(some 64), .bin .lss (.t 63) (.c (.int .i64 0)), (some (53, true)), false⟩,
       ⟨(some 65), .un .not (.t 64), (some (53, true)), false⟩,
       ⟨(some 66), .pick (.t 53) (.t 65) (.c (.bool false)), none, false⟩])
     (.cond (.t 66) (.skip) (.exit 2)))
     (.block 3 (.region [⟨(some 67), .move (.t 13), none, false⟩,
        ⟨(some 68), .bin .sub (.t 67) (.c (.int .i64 1)), none, false⟩,
        ⟨(some 13), .move (.t 68), none, false⟩])))
def b_slices_partitionCmpFunc_sets_Run_l3 : ACode :=
    (.seq (.seq (.region [⟨(some 105), .move (.t 12), none, false⟩,
       ⟨(some 106), .move (.t 13), none, false⟩,
       ⟨(some 107), .bin .leq (.t 105) (.t 106), none, false⟩,
       ⟨(some 108), .move (.t 107), none, false⟩,
       ⟨(some 109), .move (.t 4), (some (108, true)), false⟩,
       ⟨(some 110), .move (.t 0), (some (108, true)), false⟩,
       ⟨(some 111), .move (.t 12), (some (108, true)), false⟩,
       ⟨(some 112), .iaddr 2 (.t 110) (.t 111), (some (108, true)), false⟩,
       ⟨(some 113), .load true 2 (.t 112), (some (108, true)), false⟩,
       ⟨(some 114), .move (.t 0), (some (108, true)), false⟩,
       ⟨(some 115), .move (.t 1), (some (108, true)), false⟩,
       ⟨(some 116), .iaddr 2 (.t 114) (.t 115), (some (108, true)), false⟩,
       ⟨(some 117), .load true 2 (.t 116), (some (108, true)), false⟩,
       ⟨(some 118), .callV (.t 109) [(.t 113), (.t 117)], (some (108, true)), false⟩,
       ⟨(some 119), .bin .lss (.t 118) (.c (.int .i64 0)), (some (108, true)), false⟩,
       ⟨(some 120), .pick (.t 108) (.t 119) (.c (.bool false)), none, false⟩])
     (.cond (.t 120) (.skip) (.exit 6)))
     (.block 7 (.region [⟨(some 121), .move (.t 12), none, false⟩,
        ⟨(some 122), .bin .add (.t 121) (.c (.int .i64 1)), none, false⟩,
        ⟨(some 12), .move (.t 122), none, false⟩])))
def b_slices_partitionCmpFunc_sets_Run_l4 : ACode :=
    (.seq (.seq (.region [⟨(some 123), .move (.t 12), none, false⟩,
       ⟨(some 124), .move (.t 13), none, false⟩,
       ⟨(some 125), .bin .leq (.t 123) (.t 124), none, false⟩,
       ⟨(some 126), .move (.t 125), none, false⟩,
       ⟨(some 127), .move (.t 4), (some (126, true)), false⟩,
       ⟨(some 128), .move (.t 0), (some (126, true)), false⟩,
       ⟨(some 129), .move (.t 13), (some (126, true)), false⟩,
       ⟨(some 130), .iaddr 2 (.t 128) (.t 129), (some (126, true)), false⟩,
       ⟨(some 131), .load true 2 (.t 130), (some (126, true)), false⟩,
       ⟨(some 132), .move (.t 0), (some (126, true)), false⟩,
       ⟨(some 133), .move (.t 1), (some (126, true)), false⟩,
       ⟨(some 134), .iaddr 2 (.t 132) (.t 133), (some (126, true)), false⟩,
       ⟨(some 135), .load true 2 (.t 134), (some (126, true)), false⟩,
       ⟨(some 136), .callV (.t 127) [(.t 131), (.t 135)], (some (126, true)), false⟩,
       ⟨(some 137), .bin .lss (.t 136) (.c (.int .i64 0)), (some (126, true)), false⟩,
       ⟨(some 138), .un .not (.t 137), (some (126, true)), false⟩,
       ⟨(some 139), .pick (.t 126) (.t 138) (.c (.bool false)), none, false⟩])
     (.cond (.t 139) (.skip) (.exit 8)))
     (.block 9 (.region [⟨(some 140), .move (.t 13), none, false⟩,
        ⟨(some 141), .bin .sub (.t 140) (.c (.int .i64 1)), none, false⟩,
        ⟨(some 13), .move (.t 141), none, false⟩])))
def b_slices_partitionCmpFunc_sets_Run_l2 : ACode :=
    (.block 5 (.seq (.block 6 (.loop [0, 1, 4, 12, 13] b_slices_partitionCmpFunc_sets_Run_l3))
      (.seq (.block 8 (.loop [0, 1, 4, 12, 13] b_slices_partitionCmpFunc_sets_Run_l4))
      (.seq (.seq (.region [⟨(some 142), .move (.t 12), none, false⟩,
        ⟨(some 143), .move (.t 13), none, false⟩,
        ⟨(some 144), .bin .gtr (.t 142) (.t 143), none, false⟩])
      (.cond (.t 144) (.exit 4) (.skip)))
      (.seq (.region [⟨(some 145), .move (.t 0), none, false⟩,
        ⟨(some 146), .move (.t 12), none, false⟩,
        ⟨(some 147), .move (.t 0), none, false⟩,
        ⟨(some 148), .move (.t 13), none, false⟩,
        ⟨(some 149), .move (.t 0), none, false⟩,
        ⟨(some 150), .move (.t 13), none, false⟩,
        ⟨(some 151), .iaddr 2 (.t 149) (.t 150), none, false⟩,
        ⟨(some 152), .load true 2 (.t 151), none, false⟩,
        ⟨(some 153), .move (.t 0), none, false⟩,
        ⟨(some 154), .move (.t 12), none, false⟩,
        ⟨(some 155), .iaddr 2 (.t 153) (.t 154), none, false⟩,
        ⟨(some 156), .load true 2 (.t 155), none, false⟩,
        ⟨(some 157), .iaddr 2 (.t 145) (.t 146), none, false⟩,
        ⟨none, .store 2 (.t 157) (.t 152), none, false⟩,
        ⟨(some 158), .iaddr 2 (.t 147) (.t 148), none, false⟩,
        ⟨none, .store 2 (.t 158) (.t 156), none, false⟩])
      (.seq (.region [⟨(some 159), .move (.t 12), none, false⟩,
        ⟨(some 160), .bin .add (.t 159) (.c (.int .i64 1)), none, false⟩,
        ⟨(some 12), .move (.t 160), none, false⟩])
      (.region [⟨(some 161), .move (.t 13), none, false⟩,
        ⟨(some 162), .bin .sub (.t 161) (.c (.int .i64 1)), none, false⟩,
        ⟨(some 13), .move (.t 162), none, false⟩])))))))
/-- slices.partitionCmpFunc[leadtrail/sets.Run] -/
def b_slices_partitionCmpFunc_sets_Run : AFn := ⟨5, [.tmp 10, .tmp 11],
    (.seq (.region [⟨(some 10), .move (.c (.int .i64 0)), none, false⟩,
       ⟨(some 11), .move (.c (.bool false)), none, false⟩])
     (.seq (.region [⟨(some 14), .move (.t 0), none, false⟩,
       ⟨(some 15), .move (.t 1), none, false⟩,
       ⟨(some 16), .move (.t 0), none, false⟩,
       ⟨(some 17), .move (.t 3), none, false⟩,
       ⟨(some 18), .move (.t 0), none, false⟩,
       ⟨(some 19), .move (.t 3), none, false⟩,
       ⟨(some 20), .iaddr 2 (.t 18) (.t 19), none, false⟩,
       ⟨(some 21), .load true 2 (.t 20), none, false⟩,
       ⟨(some 22), .move (.t 0), none, false⟩,
       ⟨(some 23), .move (.t 1), none, false⟩,
       ⟨(some 24), .iaddr 2 (.t 22) (.t 23), none, false⟩,
       ⟨(some 25), .load true 2 (.t 24), none, false⟩,
       ⟨(some 26), .iaddr 2 (.t 14) (.t 15), none, false⟩,
       ⟨none, .store 2 (.t 26) (.t 21), none, false⟩,
       ⟨(some 27), .iaddr 2 (.t 16) (.t 17), none, false⟩,
       ⟨none, .store 2 (.t 27) (.t 25), none, false⟩])
     (.seq (.region [⟨(some 28), .move (.t 1), none, false⟩,
       ⟨(some 29), .bin .add (.t 28) (.c (.int .i64 1)), none, false⟩,
       ⟨(some 30), .move (.t 2), none, false⟩,
       ⟨(some 31), .bin .sub (.t 30) (.c (.int .i64 1)), none, false⟩,
       ⟨(some 12), .move (.t 29), none, false⟩,
       ⟨(some 13), .move (.t 31), none, false⟩])
     (.seq (.block 0 (.loop [0, 1, 4, 12, 13] b_slices_partitionCmpFunc_sets_Run_l0))
     (.seq (.block 2 (.loop [0, 1, 4, 12, 13] b_slices_partitionCmpFunc_sets_Run_l1))
     (.seq (.seq (.region [⟨(some 69), .move (.t 12), none, false⟩,
       ⟨(some 70), .move (.t 13), none, false⟩,
       ⟨(some 71), .bin .gtr (.t 69) (.t 70), none, false⟩])
     (.cond (.t 71) (.seq (.region [⟨(some 72), .move (.t 0), none, false⟩,
        ⟨(some 73), .move (.t 13), none, false⟩,
        ⟨(some 74), .move (.t 0), none, false⟩,
        ⟨(some 75), .move (.t 1), none, false⟩,
        ⟨(some 76), .move (.t 0), none, false⟩,
        ⟨(some 77), .move (.t 1), none, false⟩,
        ⟨(some 78), .iaddr 2 (.t 76) (.t 77), none, false⟩,
        ⟨(some 79), .load true 2 (.t 78), none, false⟩,
        ⟨(some 80), .move (.t 0), none, false⟩,
        ⟨(some 81), .move (.t 13), none, false⟩,
        ⟨(some 82), .iaddr 2 (.t 80) (.t 81), none, false⟩,
        ⟨(some 83), .load true 2 (.t 82), none, false⟩,
        ⟨(some 84), .iaddr 2 (.t 72) (.t 73), none, false⟩,
        ⟨none, .store 2 (.t 84) (.t 79), none, false⟩,
        ⟨(some 85), .iaddr 2 (.t 74) (.t 75), none, false⟩,
        ⟨none, .store 2 (.t 85) (.t 83), none, false⟩])
      (.seq (.region [⟨(some 86), .move (.t 13), none, false⟩,
        ⟨(some 10), .move (.t 86), none, false⟩,
        ⟨(some 11), .move (.c (.bool true)), none, false⟩])
      (.ret))) (.skip)))
     (.seq (.region [⟨(some 87), .move (.t 0), none, false⟩,
       ⟨(some 88), .move (.t 12), none, false⟩,
       ⟨(some 89), .move (.t 0), none, false⟩,
       ⟨(some 90), .move (.t 13), none, false⟩,
       ⟨(some 91), .move (.t 0), none, false⟩,
       ⟨(some 92), .move (.t 13), none, false⟩,
       ⟨(some 93), .iaddr 2 (.t 91) (.t 92), none, false⟩,
       ⟨(some 94), .load true 2 (.t 93), none, false⟩,
       ⟨(some 95), .move (.t 0), none, false⟩,
       ⟨(some 96), .move (.t 12), none, false⟩,
       ⟨(some 97), .iaddr 2 (.t 95) (.t 96), none, false⟩,
       ⟨(some 98), .load true 2 (.t 97), none, false⟩,
       ⟨(some 99), .iaddr 2 (.t 87) (.t 88), none, false⟩,
       ⟨none, .store 2 (.t 99) (.t 94), none, false⟩,
       ⟨(some 100), .iaddr 2 (.t 89) (.t 90), none, false⟩,
       ⟨none, .store 2 (.t 100) (.t 98), none, false⟩])
     (.seq (.region [⟨(some 101), .move (.t 12), none, false⟩,
       ⟨(some 102), .bin .add (.t 101) (.c (.int .i64 1)), none, false⟩,
       ⟨(some 12), .move (.t 102), none, false⟩])
     (.seq (.region [⟨(some 103), .move (.t 13), none, false⟩,
       ⟨(some 104), .bin .sub (.t 103) (.c (.int .i64 1)), none, false⟩,
       ⟨(some 13), .move (.t 104), none, false⟩])
     (.seq (.block 4 (.loop [0, 1, 4, 12, 13] b_slices_partitionCmpFunc_sets_Run_l2))
     (.seq (.region [⟨(some 163), .move (.t 0), none, false⟩,
       ⟨(some 164), .move (.t 13), none, false⟩,
       ⟨(some 165), .move (.t 0), none, false⟩,
       ⟨(some 166), .move (.t 1), none, false⟩,
       ⟨(some 167), .move (.t 0), none, false⟩,
       ⟨(some 168), .move (.t 1), none, false⟩,
       ⟨(some 169), .iaddr 2 (.t 167) (.t 168), none, false⟩,
       ⟨(some 170), .load true 2 (.t 169), none, false⟩,
       ⟨(some 171), .move (.t 0), none, false⟩,
       ⟨(some 172), .move (.t 13), none, false⟩,
       ⟨(some 173), .iaddr 2 (.t 171) (.t 172), none, false⟩,
       ⟨(some 174), .load true 2 (.t 173), none, false⟩,
       ⟨(some 175), .iaddr 2 (.t 163) (.t 164), none, false⟩,
       ⟨none, .store 2 (.t 175) (.t 170), none, false⟩,
       ⟨(some 176), .iaddr 2 (.t 165) (.t 166), none, false⟩,
       ⟨none, .store 2 (.t 176) (.t 174), none, false⟩])
     (.seq (.region [⟨(some 177), .move (.t 13), none, false⟩,
       ⟨(some 10), .move (.t 177), none, false⟩,
       ⟨(some 11), .move (.c (.bool false)), none, false⟩])
     (.ret)))))))))))))⟩
theorem ok_slices_partitionCmpFunc_sets_Run : okFunc Go.Proofs.Try.prog fo Go.Proofs.Try.f124 b_slices_partitionCmpFunc_sets_Run = true := by kernel_rfl
theorem du_slices_partitionCmpFunc_sets_Run : dutiesF Go.Proofs.Try.f124 b_slices_partitionCmpFunc_sets_Run = [] := by kernel_rfl
theorem fn_slices_partitionCmpFunc_sets_Run : FnOk P fo 124 b_slices_partitionCmpFunc_sets_Run := ⟨_, Go.Proofs.Try.func124, ok_slices_partitionCmpFunc_sets_Run, by rw [du_slices_partitionCmpFunc_sets_Run]; exact fun _ h => by cases h⟩

def b_slices_pdqsortCmpFunc_sets_Run_l0 : ACode :=
    (.block 1 (.seq (.region [⟨(some 21), .move (.t 2), none, false⟩,
        ⟨(some 22), .move (.t 1), none, false⟩,
        ⟨(some 23), .bin .sub (.t 21) (.t 22), none, false⟩,
        ⟨(some 12), .move (.t 23), none, false⟩])
      (.seq (.seq (.region [⟨(some 24), .move (.t 12), none, false⟩,
        ⟨(some 25), .bin .leq (.t 24) (.c (.int .i64 12)), none, false⟩])
      (.cond (.t 25) (.seq (.region [⟨(some 26), .move (.t 0), none, false⟩,
         ⟨(some 27), .move (.t 1), none, false⟩,
         ⟨(some 28), .move (.t 2), none, false⟩,
         ⟨(some 29), .move (.t 4), none, false⟩,
         ⟨(some 30), .callI 8 [(.t 26), (.t 27), (.t 28), (.t 29)], none, false⟩])
       (.ret)) (.skip)))
      (.seq (.seq (.region [⟨(some 31), .move (.t 3), none, false⟩,
        ⟨(some 32), .bin .eql (.t 31) (.c (.int .i64 0)), none, false⟩])
      (.cond (.t 32) (.seq (.region [⟨(some 33), .move (.t 0), none, false⟩,
         ⟨(some 34), .move (.t 1), none, false⟩,
         ⟨(some 35), .move (.t 2), none, false⟩,
         ⟨(some 36), .move (.t 4), none, false⟩,
         ⟨(some 37), .callI 10 [(.t 33), (.t 34), (.t 35), (.t 36)], none, false⟩])
       (.ret)) (.skip)))
      (.seq (.seq (.region [⟨(some 38), .move (.t 10), none, false⟩,
        ⟨(some 39), .un .not (.t 38), none, false⟩])
      (.cond (.t 39) (.seq (.region [⟨(some 40), .move (.t 0), none, false⟩,
         ⟨(some 41), .move (.t 1), none, false⟩,
         ⟨(some 42), .move (.t 2), none, false⟩,
         ⟨(some 43), .move (.t 4), none, false⟩,
         ⟨(some 44), .callI 12 [(.t 40), (.t 41), (.t 42), (.t 43)], none, false⟩])
       (.region [⟨(some 45), .move (.t 3), none, false⟩,
         ⟨(some 46), .bin .sub (.t 45) (.c (.int .i64 1)), none, false⟩,
         ⟨(some 3), .move (.t 46), none, false⟩])) (.skip)))
      (.seq (.region [⟨(some 48), .move (.t 0), none, false⟩,
        ⟨(some 49), .move (.t 1), none, false⟩,
        ⟨(some 50), .move (.t 2), none, false⟩,
        ⟨(some 51), .move (.t 4), none, false⟩,
        ⟨(some 52), .callI 16 [(.t 48), (.t 49), (.t 50), (.t 51)], none, false⟩,
        ⟨(some 47), .move (.t 52), none, false⟩,
        ⟨(some 53), .ext 0 (.t 47), none, false⟩,
        ⟨(some 54), .ext 1 (.t 47), none, false⟩,
        ⟨(some 13), .move (.t 53), none, false⟩,
        ⟨(some 14), .move (.t 54), none, false⟩])
      (.seq (.seq (.region [⟨(some 55), .move (.t 14), none, false⟩,
        ⟨(some 56), .bin .eql (.t 55) (.c (.int .i64 2)), none, false⟩])
      (.cond (.t 56) (.seq (.region [⟨(some 57), .move (.t 0), none, false⟩,
         ⟨(some 58), .move (.t 1), none, false⟩,
         ⟨(some 59), .move (.t 2), none, false⟩,
         ⟨(some 60), .move (.t 4), none, false⟩,
         ⟨(some 61), .callI 17 [(.t 57), (.t 58), (.t 59), (.t 60)], none, false⟩])
       (.seq (.region [⟨(some 62), .move (.t 2), none, false⟩,
         ⟨(some 63), .bin .sub (.t 62) (.c (.int .i64 1)), none, false⟩,
         ⟨(some 64), .move (.t 13), none, false⟩,
         ⟨(some 65), .move (.t 1), none, false⟩,
         ⟨(some 66), .bin .sub (.t 64) (.t 65), none, false⟩,
         ⟨(some 67), .bin .sub (.t 63) (.t 66), none, false⟩,
         ⟨(some 13), .move (.t 67), none, false⟩])
       (.region [⟨(some 14), .move (.c (.int .i64 1)), none, false⟩]))) (.skip)))
      (.seq (.seq (.region [⟨(some 68), .move (.t 10), none, false⟩,
        ⟨(some 69), .move (.t 68), none, false⟩,
        ⟨(some 70), .move (.t 11), (some (69, true)), false⟩,
        ⟨(some 71), .pick (.t 69) (.t 70) (.c (.bool false)), none, false⟩,
        ⟨(some 72), .move (.t 71), none, false⟩,
        ⟨(some 73), .move (.t 14), (some (72, true)), false⟩,
        ⟨(some 74), .bin .eql (.t 73) (.c (.int .i64 1)), (some (72, true)), false⟩,
        ⟨(some 75), .pick (.t 72) (.t 74) (.c (.bool false)), none, false⟩])
      (.cond (.t 75) (.seq (.region [⟨(some 76), .move (.t 0), none, false⟩,
         ⟨(some 77), .move (.t 1), none, false⟩,
         ⟨(some 78), .move (.t 2), none, false⟩,
         ⟨(some 79), .move (.t 4), none, false⟩,
         ⟨(some 80), .callI 18 [(.t 76), (.t 77), (.t 78), (.t 79)], none, false⟩])
       (.cond (.t 80) (.ret) (.skip))) (.skip)))
      (.seq (.seq (.region [⟨(some 81), .move (.t 1), none, false⟩,
        ⟨(some 82), .bin .gtr (.t 81) (.c (.int .i64 0)), none, false⟩,
        ⟨(some 83), .move (.t 82), none, false⟩,
        ⟨(some 84), .move (.t 4), (some (83, true)), false⟩,
        ⟨(some 85), .move (.t 0), (some (83, true)), false⟩,
        ⟨(some 86), .move (.t 1), (some (83, true)), false⟩,
        ⟨(some 87), .bin .sub (.t 86) (.c (.int .i64 1)), (some (83, true)), false⟩,
        ⟨(some 88), .iaddr 2 (.t 85) (.t 87), (some (83, true)), true⟩,
        ⟨(some 89), .load true 2 (.t 88), (some (83, true)), true⟩,
        ⟨(some 90), .move (.t 0), (some (83, true)), false⟩,
        ⟨(some 91), .move (.t 13), (some (83, true)), false⟩,
        ⟨(some 92), .iaddr 2 (.t 90) (.t 91), (some (83, true)), true⟩,
        ⟨(some 93), .load true 2 (.t 92), (some (83, true)), true⟩,
        ⟨(some 94), .callV (.t 84) [(.t 89), (.t 93)], (some (83, true)), false⟩,
        ⟨(some 95), .bin .lss (.t 94) (.c (.int .i64 0)), (some (83, true)), false⟩,
        ⟨(some 96), .un .not (.t 95), (some (83, true)), false⟩,
        ⟨(some 97), .pick (.t 83) (.t 96) (.c (.bool false)), none, false⟩])
      (.cond (.t 97) (.seq (.region [⟨(some 98), .move (.t 0), none, false⟩,
         ⟨(some 99), .move (.t 1), none, false⟩,
         ⟨(some 100), .move (.t 2), none, false⟩,
         ⟨(some 101), .move (.t 13), none, false⟩,
         ⟨(some 102), .move (.t 4), none, false⟩,
         ⟨(some 103), .callI 19 [(.t 98), (.t 99), (.t 100), (.t 101), (.t 102)], none, false⟩,
         ⟨(some 15), .move (.t 103), none, false⟩])
       (.seq (.region [⟨(some 104), .move (.t 15), none, false⟩,
         ⟨(some 1), .move (.t 104), none, false⟩])
       (.exit 1))) (.skip)))
      (.seq (.region [⟨(some 106), .move (.t 0), none, false⟩,
        ⟨(some 107), .move (.t 1), none, false⟩,
        ⟨(some 108), .move (.t 2), none, false⟩,
        ⟨(some 109), .move (.t 13), none, false⟩,
        ⟨(some 110), .move (.t 4), none, false⟩,
        ⟨(some 111), .callI 20 [(.t 106), (.t 107), (.t 108), (.t 109), (.t 110)], none, false⟩,
        ⟨(some 105), .move (.t 111), none, false⟩,
        ⟨(some 112), .ext 0 (.t 105), none, false⟩,
        ⟨(some 113), .ext 1 (.t 105), none, false⟩,
        ⟨(some 16), .move (.t 112), none, false⟩,
        ⟨(some 17), .move (.t 113), none, false⟩])
      (.seq (.region [⟨(some 114), .move (.t 17), none, false⟩,
        ⟨(some 11), .move (.t 114), none, false⟩])
      (.seq (.region [⟨(some 115), .move (.t 16), none, false⟩,
        ⟨(some 116), .move (.t 1), none, false⟩,
        ⟨(some 117), .bin .sub (.t 115) (.t 116), none, false⟩,
        ⟨(some 118), .move (.t 2), none, false⟩,
        ⟨(some 119), .move (.t 16), none, false⟩,
        ⟨(some 120), .bin .sub (.t 118) (.t 119), none, false⟩,
        ⟨(some 18), .move (.t 117), none, false⟩,
        ⟨(some 19), .move (.t 120), none, false⟩])
      (.seq (.region [⟨(some 121), .move (.t 12), none, false⟩,
        ⟨(some 122), .bin .quo (.t 121) (.c (.int .i64 8)), none, false⟩,
        ⟨(some 20), .move (.t 122), none, false⟩])
      (.seq (.region [⟨(some 123), .move (.t 18), none, false⟩,
        ⟨(some 124), .move (.t 19), none, false⟩,
        ⟨(some 125), .bin .lss (.t 123) (.t 124), none, false⟩])
      (.cond (.t 125) (.seq (.region [⟨(some 126), .move (.t 18), none, false⟩,
         ⟨(some 127), .move (.t 20), none, false⟩,
         ⟨(some 128), .bin .geq (.t 126) (.t 127), none, false⟩,
         ⟨(some 10), .move (.t 128), none, false⟩])
       (.seq (.region [⟨(some 129), .move (.t 0), none, false⟩,
         ⟨(some 130), .move (.t 1), none, false⟩,
         ⟨(some 131), .move (.t 16), none, false⟩,
         ⟨(some 132), .move (.t 3), none, false⟩,
         ⟨(some 133), .move (.t 4), none, false⟩,
         ⟨(some 134), .callI 21 [(.t 129), (.t 130), (.t 131), (.t 132), (.t 133)], none, false⟩])
       (.region [⟨(some 135), .move (.t 16), none, false⟩,
         ⟨(some 136), .bin .add (.t 135) (.c (.int .i64 1)), none, false⟩,
         ⟨(some 1), .move (.t 136), none, false⟩]))) (.seq (.region [⟨(some 137), .move (.t 19), none, false⟩,
         ⟨(some 138), .move (.t 20), none, false⟩,
         ⟨(some 139), .bin .geq (.t 137) (.t 138), none, false⟩,
         ⟨(some 10), .move (.t 139), none, false⟩])
       (.seq (.region [⟨(some 140), .move (.t 0), none, false⟩,
         ⟨(some 141), .move (.t 16), none, false⟩,
         ⟨(some 142), .bin .add (.t 141) (.c (.int .i64 1)), none, false⟩,
         ⟨(some 143), .move (.t 2), none, false⟩,
         ⟨(some 144), .move (.t 3), none, false⟩,
         ⟨(some 145), .move (.t 4), none, false⟩,
         ⟨(some 146), .callI 21 [(.t 140), (.t 142), (.t 143), (.t 144), (.t 145)], none, false⟩])
       (.region [⟨(some 147), .move (.t 16), none, false⟩,
         ⟨(some 2), .move (.t 147), none, false⟩]))))))))))))))))))
/-- slices.pdqsortCmpFunc[leadtrail/sets.Run] -/
def b_slices_pdqsortCmpFunc_sets_Run : AFn := ⟨5, [],
    (.seq (.region [⟨(some 10), .move (.c (.bool true)), none, false⟩])
     (.seq (.region [⟨(some 11), .move (.c (.bool true)), none, false⟩])
     (.block 0 (.loop [0, 1, 2, 3, 4, 10, 11] b_slices_pdqsortCmpFunc_sets_Run_l0))))⟩
theorem ok_slices_pdqsortCmpFunc_sets_Run : okFunc Go.Proofs.Try.prog fo Go.Proofs.Try.f113 b_slices_pdqsortCmpFunc_sets_Run = true := by kernel_rfl
theorem du_slices_pdqsortCmpFunc_sets_Run : dutiesF Go.Proofs.Try.f113 b_slices_pdqsortCmpFunc_sets_Run = [] := by kernel_rfl
theorem fn_slices_pdqsortCmpFunc_sets_Run : FnOk P fo 113 b_slices_pdqsortCmpFunc_sets_Run := ⟨_, Go.Proofs.Try.func113, ok_slices_pdqsortCmpFunc_sets_Run, by rw [du_slices_pdqsortCmpFunc_sets_Run]; exact fun _ h => by cases h⟩

/-- slices.SortFunc[[]leadtrail/sets.Run,leadtrail/sets.Run] -/
def b_slices_SortFunc_sets_Run_sets_Run : AFn := ⟨2, [],
    (.seq (.region [⟨(some 5), .move (.t 0), none, false⟩,
       ⟨(some 6), .len 0 (.t 5), none, false⟩,
       ⟨(some 4), .move (.t 6), none, false⟩])
     (.region [⟨(some 7), .move (.t 0), none, false⟩,
       ⟨(some 8), .move (.t 4), none, false⟩,
       ⟨(some 9), .move (.t 4), none, false⟩,
       ⟨(some 10), .conv .u64 (.t 9), none, false⟩,
       ⟨(some 11), .callP F_math_bits_Len [(.t 10)], none, false⟩,
       ⟨(some 12), .move (.t 1), none, false⟩,
       ⟨(some 13), .callI 21 [(.t 7), (.c (.int .i64 0)), (.t 8), (.t 11), (.t 12)], none, false⟩]))⟩
theorem ok_slices_SortFunc_sets_Run_sets_Run : okFunc Go.Proofs.Try.prog fo Go.Proofs.Try.f107 b_slices_SortFunc_sets_Run_sets_Run = true := by kernel_rfl
theorem du_slices_SortFunc_sets_Run_sets_Run : dutiesF Go.Proofs.Try.f107 b_slices_SortFunc_sets_Run_sets_Run = [(114, F_math_bits_Len)] := by kernel_rfl
theorem fn_slices_SortFunc_sets_Run_sets_Run : FnOk P fo 107 b_slices_SortFunc_sets_Run_sets_Run := ⟨_, Go.Proofs.Try.func107, ok_slices_SortFunc_sets_Run_sets_Run, by rw [du_slices_SortFunc_sets_Run_sets_Run]; exact List.forall_mem_cons.2 ⟨p_math_bits_Len, fun _ h => by cases h⟩⟩

/-- cmp.isNaN[int] -/
def b_cmp_isNaN_int : AFn := ⟨1, [.tmp 2],
    (.seq (.region [⟨(some 2), .move (.c (.bool false)), none, false⟩])
     (.seq (.region [⟨(some 3), .move (.t 0), none, false⟩,
       ⟨(some 4), .move (.t 0), none, false⟩,
       ⟨(some 5), .bin .neq (.t 3) (.t 4), none, false⟩,
       ⟨(some 2), .move (.t 5), none, false⟩])
     (.ret)))⟩
theorem ok_cmp_isNaN_int : okFunc Go.Proofs.Try.prog fo Go.Proofs.Try.f115 b_cmp_isNaN_int = true := by kernel_rfl
theorem du_cmp_isNaN_int : dutiesF Go.Proofs.Try.f115 b_cmp_isNaN_int = [] := by kernel_rfl
theorem fn_cmp_isNaN_int : FnOk P fo 115 b_cmp_isNaN_int := ⟨_, Go.Proofs.Try.func115, ok_cmp_isNaN_int, by rw [du_cmp_isNaN_int]; exact fun _ h => by cases h⟩
def F_cmp_isNaN_int : List PV → Option PV := pureF (fun _ => none) b_cmp_isNaN_int
theorem p_cmp_isNaN_int : PureFn P 115 F_cmp_isNaN_int := pureF_ok noTable fn_cmp_isNaN_int

end Go.AM.B1

/- The abstract code of the functions that the rows Auto* reach, part 3, printed by gen_b1.py: it is that of the program, and each is what its code computes. -/
set_option linter.unusedVariables false
namespace Go.AM.B1
open Go.AM

/-- cmp.Compare[int] -/
def b_cmp_Compare_int : AFn := ⟨2, [.tmp 4],
    (.seq (.region [⟨(some 4), .move (.c (.int .i64 0)), none, false⟩])
     (.seq (.region [⟨(some 7), .move (.t 0), none, false⟩,
       ⟨(some 8), .callP F_cmp_isNaN_int [(.t 7)], none, false⟩,
       ⟨(some 5), .move (.t 8), none, false⟩])
     (.seq (.region [⟨(some 9), .move (.t 1), none, false⟩,
       ⟨(some 10), .callP F_cmp_isNaN_int [(.t 9)], none, false⟩,
       ⟨(some 6), .move (.t 10), none, false⟩])
     (.seq (.seq (.region [⟨(some 11), .move (.t 5), none, false⟩])
     (.cond (.t 11) (.seq (.seq (.region [⟨(some 12), .move (.t 6), none, false⟩])
      (.cond (.t 12) (.seq (.region [⟨(some 4), .move (.c (.int .i64 0)), none, false⟩])
       (.ret)) (.skip)))
      (.seq (.region [⟨(some 4), .move (.c (.int .i64 (-1))), none, false⟩])
      (.ret))) (.skip)))
     (.seq (.seq (.region [⟨(some 13), .move (.t 6), none, false⟩])
     (.cond (.t 13) (.seq (.region [⟨(some 4), .move (.c (.int .i64 1)), none, false⟩])
      (.ret)) (.skip)))
     (.seq (.seq (.region [⟨(some 14), .move (.t 0), none, false⟩,
       ⟨(some 15), .move (.t 1), none, false⟩,
       ⟨(some 16), .bin .lss (.t 14) (.t 15), none, false⟩])
     (.cond (.t 16) (.seq (.region [⟨(some 4), .move (.c (.int .i64 (-1))), none, false⟩])
      (.ret)) (.skip)))
     (.seq (.seq (.region [⟨(some 17), .move (.t 0), none, false⟩,
       ⟨(some 18), .move (.t 1), none, false⟩,
       ⟨(some 19), .bin .gtr (.t 17) (.t 18), none, false⟩])
     (.cond (.t 19) (.seq (.region [⟨(some 4), .move (.c (.int .i64 1)), none, false⟩])
      (.ret)) (.skip)))
     (.seq (.region [⟨(some 4), .move (.c (.int .i64 0)), none, false⟩])
     (.ret)))))))))⟩
theorem ok_cmp_Compare_int : okFunc Go.Proofs.Try.prog fo Go.Proofs.Try.f109 b_cmp_Compare_int = true := by kernel_rfl
theorem du_cmp_Compare_int : dutiesF Go.Proofs.Try.f109 b_cmp_Compare_int = [(115, F_cmp_isNaN_int), (115, F_cmp_isNaN_int)] := by kernel_rfl
theorem fn_cmp_Compare_int : FnOk P fo 109 b_cmp_Compare_int := ⟨_, Go.Proofs.Try.func109, ok_cmp_Compare_int, by rw [du_cmp_Compare_int]; exact List.forall_mem_cons.2 ⟨p_cmp_isNaN_int, List.forall_mem_cons.2 ⟨p_cmp_isNaN_int, fun _ h => by cases h⟩⟩⟩
def F_cmp_Compare_int : List PV → Option PV := pureF (fun _ => none) b_cmp_Compare_int
theorem p_cmp_Compare_int : PureFn P 109 F_cmp_Compare_int := pureF_ok noTable fn_cmp_Compare_int

/-- leadtrail/sets.Norm$1 -/
def b_sets_Norm_1 : AFn := ⟨2, [.tmp 4],
    (.seq (.region [⟨(some 2), .boxR 2 (.t 0), none, false⟩,
       ⟨(some 3), .boxR 2 (.t 1), none, false⟩,
       ⟨(some 4), .move (.c (.int .i64 0)), none, false⟩])
     (.seq (.region [⟨(some 5), .faddr 0 (.t 2), none, true⟩,
       ⟨(some 6), .load false 1 (.t 5), none, true⟩,
       ⟨(some 7), .faddr 0 (.t 3), none, true⟩,
       ⟨(some 8), .load false 1 (.t 7), none, true⟩,
       ⟨(some 9), .callP F_cmp_Compare_int [(.t 6), (.t 8)], none, false⟩,
       ⟨(some 4), .move (.t 9), none, false⟩])
     (.ret)))⟩
theorem ok_sets_Norm_1 : okFunc Go.Proofs.Try.prog fo Go.Proofs.Try.f108 b_sets_Norm_1 = true := by kernel_rfl
theorem du_sets_Norm_1 : dutiesF Go.Proofs.Try.f108 b_sets_Norm_1 = [(109, F_cmp_Compare_int)] := by kernel_rfl
theorem fn_sets_Norm_1 : FnOk P fo 108 b_sets_Norm_1 := ⟨_, Go.Proofs.Try.func108, ok_sets_Norm_1, by rw [du_sets_Norm_1]; exact List.forall_mem_cons.2 ⟨p_cmp_Compare_int, fun _ h => by cases h⟩⟩

def b_sets_Norm_l0 : ACode :=
    (.seq (.region [⟨(some 12), .bin .lss (.t 11) (.t 10), none, false⟩])
     (.seq (.cond (.t 12) (.skip) (.exit 0))
     (.seq (.block 1 (.seq (.region [⟨(some 13), .iaddr 2 (.t 9) (.t 11), none, false⟩,
        ⟨(some 14), .load true 2 (.t 13), none, false⟩,
        ⟨(some 5), .alloc [(.int .i64 0), (.int .i64 0)], none, false⟩,
        ⟨none, .store 2 (.t 5) (.t 14), none, false⟩])
      (.seq (.seq (.region [⟨(some 15), .move (.t 3), none, false⟩,
        ⟨(some 16), .len 0 (.t 15), none, false⟩,
        ⟨(some 6), .move (.t 16), none, false⟩])
      (.seq (.region [⟨(some 17), .move (.t 6), none, false⟩,
        ⟨(some 18), .bin .gtr (.t 17) (.c (.int .i64 0)), none, false⟩,
        ⟨(some 19), .move (.t 18), none, false⟩,
        ⟨(some 20), .faddr 0 (.t 5), (some (19, true)), false⟩,
        ⟨(some 21), .load false 1 (.t 20), (some (19, true)), false⟩,
        ⟨(some 22), .move (.t 3), (some (19, true)), false⟩,
        ⟨(some 23), .move (.t 6), (some (19, true)), false⟩,
        ⟨(some 24), .bin .sub (.t 23) (.c (.int .i64 1)), (some (19, true)), false⟩,
        ⟨(some 25), .iaddr 2 (.t 22) (.t 24), (some (19, true)), false⟩,
        ⟨(some 26), .faddr 1 (.t 25), (some (19, true)), false⟩,
        ⟨(some 27), .load false 1 (.t 26), (some (19, true)), false⟩,
        ⟨(some 28), .bin .add (.t 27) (.c (.int .i64 1)), (some (19, true)), false⟩,
        ⟨(some 29), .bin .leq (.t 21) (.t 28), (some (19, true)), false⟩,
        ⟨(some 30), .pick (.t 19) (.t 29) (.c (.bool false)), none, false⟩])
      (.cond (.t 30) (.seq (.region [⟨(some 31), .move (.t 3), none, false⟩,
         ⟨(some 32), .move (.t 6), none, false⟩,
         ⟨(some 33), .bin .sub (.t 32) (.c (.int .i64 1)), none, false⟩,
         ⟨(some 34), .move (.t 3), none, false⟩,
         ⟨(some 35), .move (.t 6), none, false⟩,
         ⟨(some 36), .bin .sub (.t 35) (.c (.int .i64 1)), none, false⟩,
         ⟨(some 37), .iaddr 2 (.t 34) (.t 36), none, false⟩,
         ⟨(some 38), .faddr 1 (.t 37), none, false⟩,
         ⟨(some 39), .load false 1 (.t 38), none, false⟩,
         ⟨(some 40), .faddr 1 (.t 5), none, false⟩,
         ⟨(some 41), .load false 1 (.t 40), none, false⟩,
         ⟨(some 42), .mx [(.t 39), (.t 41)], none, false⟩,
         ⟨(some 43), .iaddr 2 (.t 31) (.t 33), none, false⟩,
         ⟨(some 44), .faddr 1 (.t 43), none, false⟩,
         ⟨none, .store 1 (.t 44) (.t 42), none, false⟩])
       (.exit 1)) (.skip))))
      (.region [⟨(some 45), .move (.t 3), none, false⟩,
        ⟨(some 46), .load true 2 (.t 5), none, false⟩,
        ⟨(some 47), .bslice .lit 2 true 1 [(.int .i64 0), (.int .i64 0)] [(0, (.t 46))], none, false⟩,
        ⟨(some 48), .append true .own 2 true 16 (.t 45) (.t 47), none, false⟩,
        ⟨(some 3), .move (.t 48), none, false⟩]))))
     (.region [⟨(some 49), .bin .add (.t 11) (.c (.int .i64 1)), none, false⟩,
       ⟨(some 11), .move (.t 49), none, false⟩]))))
/-- leadtrail/sets.Norm -/
def b_sets_Norm : AFn := ⟨1, [.tmp 2],
    (.seq (.region [⟨(some 2), .move (.c .nils), none, false⟩])
     (.seq (.region [⟨(some 7), .move (.t 0), none, false⟩,
       ⟨(some 8), .callI 22 [(.t 7), (.f 23)], none, false⟩])
     (.seq (.region [⟨(some 3), .move (.c .nils), none, false⟩])
     (.ghost (.mkown 3 2 true) (.seq (.seq (.region [⟨(some 9), .move (.t 0), none, false⟩,
       ⟨(some 10), .len 0 (.t 9), none, false⟩,
       ⟨(some 11), .move (.c (.int .i64 0)), none, false⟩])
     (.block 0 (.loop [3, 9, 10, 11] b_sets_Norm_l0)))
     (.seq (.region [⟨(some 50), .move (.t 3), none, false⟩,
       ⟨(some 2), .move (.t 50), none, false⟩])
     (.ret)))))))⟩
theorem ok_sets_Norm : okFunc Go.Proofs.Try.prog fo Go.Proofs.Try.f94 b_sets_Norm = true := by kernel_rfl
theorem du_sets_Norm : dutiesF Go.Proofs.Try.f94 b_sets_Norm = [] := by kernel_rfl
theorem fn_sets_Norm : FnOk P fo 94 b_sets_Norm := ⟨_, Go.Proofs.Try.func94, ok_sets_Norm, by rw [du_sets_Norm]; exact fun _ h => by cases h⟩

def b_sets_To_sets_Run_api_Range_own_l0 : ACode :=
    (.seq (.region [⟨(some 12), .bin .lss (.t 11) (.t 10), none, false⟩])
     (.seq (.cond (.t 12) (.skip) (.exit 0))
     (.seq (.block 1 (.seq (.region [⟨(some 13), .iaddr 2 (.t 9) (.t 11), none, false⟩,
        ⟨(some 14), .load true 2 (.t 13), none, false⟩,
        ⟨(some 5), .alloc [(.int .i64 0), (.int .i64 0)], none, false⟩,
        ⟨none, .store 2 (.t 5) (.t 14), none, false⟩])
      (.region [⟨(some 15), .move (.t 3), none, false⟩,
        ⟨(some 16), .load true 2 (.t 5), none, false⟩,
        ⟨(some 17), .bslice .lit 2 true 1 [(.int .i64 0), (.int .i64 0)] [(0, (.t 16))], none, false⟩,
        ⟨(some 18), .append true .own 2 true 16 (.t 15) (.t 17), none, false⟩,
        ⟨(some 3), .move (.t 18), none, false⟩])))
     (.region [⟨(some 19), .bin .add (.t 11) (.c (.int .i64 1)), none, false⟩,
       ⟨(some 11), .move (.t 19), none, false⟩]))))
/-- leadtrail/sets.To[leadtrail/sets.Run,leadtrail/api.Range] -/
def b_sets_To_sets_Run_api_Range_own : AFn := ⟨1, [.tmp 2],
    (.seq (.region [⟨(some 2), .move (.c .nils), none, false⟩])
     (.seq (.region [⟨(some 6), .move (.t 0), none, false⟩,
       ⟨(some 7), .len 0 (.t 6), none, false⟩,
       ⟨(some 8), .mkslice .own 2 true [(.int .i64 0), (.int .i64 0)] 16 (.c (.int .i64 0)) (.t 7), none, false⟩,
       ⟨(some 3), .move (.t 8), none, false⟩])
     (.seq (.seq (.region [⟨(some 9), .move (.t 0), none, false⟩,
       ⟨(some 10), .len 0 (.t 9), none, false⟩,
       ⟨(some 11), .move (.c (.int .i64 0)), none, false⟩])
     (.block 0 (.loop [3, 9, 10, 11] b_sets_To_sets_Run_api_Range_own_l0)))
     (.seq (.region [⟨(some 20), .move (.t 3), none, false⟩,
       ⟨(some 2), .move (.t 20), none, false⟩])
     (.ret)))))⟩
theorem ok_sets_To_sets_Run_api_Range_own : okFunc Go.Proofs.Try.prog fo Go.Proofs.Try.f106 b_sets_To_sets_Run_api_Range_own = true := by kernel_rfl
theorem du_sets_To_sets_Run_api_Range_own : dutiesF Go.Proofs.Try.f106 b_sets_To_sets_Run_api_Range_own = [] := by kernel_rfl
theorem fn_sets_To_sets_Run_api_Range_own : FnOk P fo 106 b_sets_To_sets_Run_api_Range_own := ⟨_, Go.Proofs.Try.func106, ok_sets_To_sets_Run_api_Range_own, by rw [du_sets_To_sets_Run_api_Range_own]; exact fun _ h => by cases h⟩

/-- leadtrail/scalars.set -/
def b_scalars_set_own : AFn := ⟨1, [.tmp 2],
    (.seq (.region [⟨(some 2), .move (.c .nils), none, false⟩])
     (.seq (.region [⟨(some 4), .move (.t 0), none, false⟩,
       ⟨(some 5), .callI 0 [(.t 4)], none, false⟩,
       ⟨(some 3), .move (.t 5), none, false⟩])
     (.seq (.seq (.region [⟨(some 6), .move (.t 3), none, false⟩,
       ⟨(some 7), .callP F_sets_Valid [(.t 6), (.c (.int .i64 1073741823))], none, false⟩,
       ⟨(some 8), .un .not (.t 7), none, false⟩])
     (.cond (.t 8) (.seq (.region [⟨(some 2), .move (.c .nils), none, false⟩])
      (.ret)) (.skip)))
     (.seq (.region [⟨(some 9), .move (.t 3), none, false⟩,
       ⟨(some 2), .move (.t 9), none, false⟩])
     (.ret)))))⟩
theorem ok_scalars_set_own : okFunc Go.Proofs.Try.prog fo Go.Proofs.Try.f93 b_scalars_set_own = true := by kernel_rfl
theorem du_scalars_set_own : dutiesF Go.Proofs.Try.f93 b_scalars_set_own = [(102, F_sets_Valid)] := by kernel_rfl
theorem fn_scalars_set_own : FnOk P fo 93 b_scalars_set_own := ⟨_, Go.Proofs.Try.func93, ok_scalars_set_own, by rw [du_scalars_set_own]; exact List.forall_mem_cons.2 ⟨p_sets_Valid, fun _ h => by cases h⟩⟩

def b_sets_To_api_Range_sets_Run_in_l0 : ACode :=
    (.seq (.region [⟨(some 12), .bin .lss (.t 11) (.t 10), none, false⟩])
     (.seq (.cond (.t 12) (.skip) (.exit 0))
     (.seq (.block 1 (.seq (.region [⟨(some 13), .iaddr 2 (.t 9) (.t 11), none, false⟩,
        ⟨(some 14), .load true 2 (.t 13), none, false⟩,
        ⟨(some 5), .alloc [(.int .i64 0), (.int .i64 0)], none, false⟩,
        ⟨none, .store 2 (.t 5) (.t 14), none, false⟩])
      (.region [⟨(some 15), .move (.t 3), none, false⟩,
        ⟨(some 16), .load true 2 (.t 5), none, false⟩,
        ⟨(some 17), .bslice .lit 2 true 1 [(.int .i64 0), (.int .i64 0)] [(0, (.t 16))], none, false⟩,
        ⟨(some 18), .append false .uq 2 true 16 (.t 15) (.t 17), none, false⟩,
        ⟨(some 3), .move (.t 18), none, false⟩])))
     (.region [⟨(some 19), .bin .add (.t 11) (.c (.int .i64 1)), none, false⟩,
       ⟨(some 11), .move (.t 19), none, false⟩]))))
/-- leadtrail/sets.To[leadtrail/api.Range,leadtrail/sets.Run] -/
def b_sets_To_api_Range_sets_Run_in : AFn := ⟨1, [.tmp 2],
    (.seq (.region [⟨(some 2), .move (.c .nils), none, false⟩])
     (.seq (.region [⟨(some 6), .move (.t 0), none, false⟩,
       ⟨(some 7), .len 0 (.t 6), none, false⟩,
       ⟨(some 8), .mkslice .uq 2 true [(.int .i64 0), (.int .i64 0)] 16 (.c (.int .i64 0)) (.t 7), none, false⟩,
       ⟨(some 3), .move (.t 8), none, false⟩])
     (.seq (.seq (.region [⟨(some 9), .move (.t 0), none, false⟩,
       ⟨(some 10), .len 0 (.t 9), none, false⟩,
       ⟨(some 11), .move (.c (.int .i64 0)), none, false⟩])
     (.block 0 (.loop [3, 9, 10, 11] b_sets_To_api_Range_sets_Run_in_l0)))
     (.seq (.region [⟨(some 20), .move (.t 3), none, false⟩,
       ⟨(some 2), .move (.t 20), none, false⟩])
     (.ret)))))⟩
theorem ok_sets_To_api_Range_sets_Run_in : okFunc Go.Proofs.Try.prog fo Go.Proofs.Try.f105 b_sets_To_api_Range_sets_Run_in = true := by kernel_rfl
theorem du_sets_To_api_Range_sets_Run_in : dutiesF Go.Proofs.Try.f105 b_sets_To_api_Range_sets_Run_in = [] := by kernel_rfl
theorem fn_sets_To_api_Range_sets_Run_in : FnOk P fo 105 b_sets_To_api_Range_sets_Run_in := ⟨_, Go.Proofs.Try.func105, ok_sets_To_api_Range_sets_Run_in, by rw [du_sets_To_api_Range_sets_Run_in]; exact fun _ h => by cases h⟩

/-- leadtrail/scalars.back -/
def b_scalars_back_in : AFn := ⟨1, [.tmp 2],
    (.seq (.region [⟨(some 2), .move (.c .nils), none, false⟩])
     (.seq (.region [⟨(some 3), .move (.t 0), none, false⟩,
       ⟨(some 4), .callI 2 [(.t 3)], none, false⟩,
       ⟨(some 2), .move (.t 4), none, false⟩])
     (.ret)))⟩
theorem ok_scalars_back_in : okFunc Go.Proofs.Try.prog fo Go.Proofs.Try.f91 b_scalars_back_in = true := by kernel_rfl
theorem du_scalars_back_in : dutiesF Go.Proofs.Try.f91 b_scalars_back_in = [] := by kernel_rfl
theorem fn_scalars_back_in : FnOk P fo 91 b_scalars_back_in := ⟨_, Go.Proofs.Try.func91, ok_scalars_back_in, by rw [du_scalars_back_in]; exact fun _ h => by cases h⟩

/-- leadtrail/scalars.Union -/
def b_scalars_Union : AFn := ⟨2, [.tmp 4],
    (.seq (.region [⟨(some 4), .move (.c .nils), none, false⟩])
     (.seq (.region [⟨(some 5), .move (.t 0), none, false⟩,
       ⟨(some 6), .callI 1 [(.t 5)], none, false⟩,
       ⟨(some 7), .move (.t 1), none, false⟩,
       ⟨(some 8), .callI 1 [(.t 7)], none, false⟩,
       ⟨(some 9), .append true .own 2 true 16 (.t 6) (.t 8), none, false⟩,
       ⟨(some 10), .callI 24 [(.t 9)], none, false⟩,
       ⟨(some 11), .callI 3 [(.t 10)], none, false⟩,
       ⟨(some 4), .move (.t 11), none, false⟩])
     (.ret)))⟩
theorem ok_scalars_Union : okFunc Go.Proofs.Try.prog fo Go.Proofs.Try.f74 b_scalars_Union = true := by kernel_rfl
theorem du_scalars_Union : dutiesF Go.Proofs.Try.f74 b_scalars_Union = [] := by kernel_rfl
theorem fn_scalars_Union : FnOk P fo 74 b_scalars_Union := ⟨_, Go.Proofs.Try.func74, ok_scalars_Union, by rw [du_scalars_Union]; exact fun _ h => by cases h⟩
def t_scalars_Union : Nat → Option AFn
  | 8 => some b_slices_insertionSortCmpFunc_sets_Run
  | 9 => some b_slices_siftDownCmpFunc_sets_Run
  | 10 => some b_slices_heapSortCmpFunc_sets_Run
  | 11 => some b_slices_xorshift_Next
  | 12 => some b_slices_breakPatternsCmpFunc_sets_Run
  | 13 => some b_slices_order2CmpFunc_sets_Run
  | 14 => some b_slices_medianCmpFunc_sets_Run
  | 15 => some b_slices_medianAdjacentCmpFunc_sets_Run
  | 16 => some b_slices_choosePivotCmpFunc_sets_Run
  | 17 => some b_slices_reverseRangeCmpFunc_sets_Run
  | 18 => some b_slices_partialInsertionSortCmpFunc_sets_Run
  | 19 => some b_slices_partitionEqualCmpFunc_sets_Run
  | 20 => some b_slices_partitionCmpFunc_sets_Run
  | 21 => some b_slices_pdqsortCmpFunc_sets_Run
  | 22 => some b_slices_SortFunc_sets_Run_sets_Run
  | 23 => some b_sets_Norm_1
  | 24 => some b_sets_Norm
  | 0 => some b_sets_To_sets_Run_api_Range_own
  | 1 => some b_scalars_set_own
  | 2 => some b_sets_To_api_Range_sets_Run_in
  | 3 => some b_scalars_back_in
  | _ => none
theorem tok_scalars_Union : TableOk P fo t_scalars_Union := by
  intro ix af h
  unfold t_scalars_Union at h
  split at h
  · injection h with h; subst h; exact fn_slices_insertionSortCmpFunc_sets_Run
  · injection h with h; subst h; exact fn_slices_siftDownCmpFunc_sets_Run
  · injection h with h; subst h; exact fn_slices_heapSortCmpFunc_sets_Run
  · injection h with h; subst h; exact fn_slices_xorshift_Next
  · injection h with h; subst h; exact fn_slices_breakPatternsCmpFunc_sets_Run
  · injection h with h; subst h; exact fn_slices_order2CmpFunc_sets_Run
  · injection h with h; subst h; exact fn_slices_medianCmpFunc_sets_Run
  · injection h with h; subst h; exact fn_slices_medianAdjacentCmpFunc_sets_Run
  · injection h with h; subst h; exact fn_slices_choosePivotCmpFunc_sets_Run
  · injection h with h; subst h; exact fn_slices_reverseRangeCmpFunc_sets_Run
  · injection h with h; subst h; exact fn_slices_partialInsertionSortCmpFunc_sets_Run
  · injection h with h; subst h; exact fn_slices_partitionEqualCmpFunc_sets_Run
  · injection h with h; subst h; exact fn_slices_partitionCmpFunc_sets_Run
  · injection h with h; subst h; exact fn_slices_pdqsortCmpFunc_sets_Run
  · injection h with h; subst h; exact fn_slices_SortFunc_sets_Run_sets_Run
  · injection h with h; subst h; exact fn_sets_Norm_1
  · injection h with h; subst h; exact fn_sets_Norm
  · injection h with h; subst h; exact fn_sets_To_sets_Run_api_Range_own
  · injection h with h; subst h; exact fn_scalars_set_own
  · injection h with h; subst h; exact fn_sets_To_api_Range_sets_Run_in
  · injection h with h; subst h; exact fn_scalars_back_in
  · cases h
def F_scalars_Union : List PV → Option PV := pureF t_scalars_Union b_scalars_Union
theorem p_scalars_Union : PureFn P 74 F_scalars_Union := pureF_ok tok_scalars_Union fn_scalars_Union

def b_scheme_Valid_l0 : ACode :=
    (.seq (.region [⟨(some 15), .bin .lss (.t 14) (.t 13), none, false⟩])
     (.seq (.cond (.t 15) (.skip) (.exit 0))
     (.seq (.block 1 (.seq (.region [⟨(some 16), .iaddr 2 (.t 12) (.t 14), none, false⟩,
        ⟨(some 17), .load true 2 (.t 16), none, false⟩,
        ⟨(some 5), .alloc [.nils, (.int .i64 0)], none, false⟩,
        ⟨none, .store 2 (.t 5) (.t 17), none, false⟩])
      (.seq (.seq (.region [⟨(some 18), .faddr 0 (.t 5), none, false⟩,
        ⟨(some 19), .load false 1 (.t 18), none, false⟩,
        ⟨(some 20), .len 0 (.t 19), none, false⟩,
        ⟨(some 21), .bin .lss (.t 20) (.c (.int .i64 1)), none, false⟩,
        ⟨(some 22), .move (.t 21), none, false⟩,
        ⟨(some 23), .faddr 0 (.t 5), (some (22, false)), false⟩,
        ⟨(some 24), .load false 1 (.t 23), (some (22, false)), false⟩,
        ⟨(some 25), .len 0 (.t 24), (some (22, false)), false⟩,
        ⟨(some 26), .bin .gtr (.t 25) (.c (.int .i64 8)), (some (22, false)), false⟩,
        ⟨(some 27), .pick (.t 22) (.c (.bool true)) (.t 26), none, false⟩,
        ⟨(some 28), .move (.t 27), none, false⟩,
        ⟨(some 29), .faddr 1 (.t 5), (some (28, false)), false⟩,
        ⟨(some 30), .load false 1 (.t 29), (some (28, false)), false⟩,
        ⟨(some 31), .bin .lss (.t 30) (.c (.int .i64 0)), (some (28, false)), false⟩,
        ⟨(some 32), .pick (.t 28) (.c (.bool true)) (.t 31), none, false⟩,
        ⟨(some 33), .move (.t 32), none, false⟩,
        ⟨(some 34), .faddr 1 (.t 5), (some (33, false)), false⟩,
        ⟨(some 35), .load false 1 (.t 34), (some (33, false)), false⟩,
        ⟨(some 36), .bin .gtr (.t 35) (.c (.int .i64 1073741823)), (some (33, false)), false⟩,
        ⟨(some 37), .pick (.t 33) (.c (.bool true)) (.t 36), none, false⟩,
        ⟨(some 38), .move (.t 37), none, false⟩,
        ⟨(some 39), .faddr 0 (.t 5), (some (38, false)), false⟩,
        ⟨(some 40), .load false 1 (.t 39), (some (38, false)), false⟩,
        ⟨(some 41), .callI 6 [(.t 40), (.f 7)], (some (38, false)), false⟩,
        ⟨(some 42), .pick (.t 38) (.c (.bool true)) (.t 41), none, false⟩])
      (.cond (.t 42) (.seq (.region [⟨(some 2), .move (.c (.bool false)), none, false⟩])
       (.ret)) (.skip)))
      (.seq (.region [⟨(some 43), .faddr 1 (.t 5), none, false⟩,
        ⟨(some 44), .load false 1 (.t 43), none, false⟩,
        ⟨(some 45), .load true 2 (.t 5), none, false⟩,
        ⟨(some 46), .callP F_scheme_last [(.t 45)], none, false⟩,
        ⟨(some 47), .build [(.int .i64 0), (.int .i64 0)] [(0, 1, (.t 44)), (1, 1, (.t 46))], none, false⟩,
        ⟨(some 48), .bslice .lit 2 true 1 [(.int .i64 0), (.int .i64 0)] [(0, (.t 47))], none, false⟩,
        ⟨(some 6), .move (.t 48), none, false⟩])
      (.seq (.seq (.region [⟨(some 49), .move (.t 6), none, false⟩,
        ⟨(some 50), .iaddr 2 (.t 49) (.c (.int .i64 0)), none, false⟩,
        ⟨(some 51), .faddr 1 (.t 50), none, false⟩,
        ⟨(some 52), .load false 1 (.t 51), none, false⟩,
        ⟨(some 53), .bin .gtr (.t 52) (.c (.int .i64 1073741823)), none, false⟩,
        ⟨(some 54), .move (.t 53), none, false⟩,
        ⟨(some 55), .move (.t 3), (some (54, false)), false⟩,
        ⟨(some 56), .move (.t 6), (some (54, false)), false⟩,
        ⟨(some 57), .callP F_scalars_Meet [(.t 55), (.t 56)], (some (54, false)), false⟩,
        ⟨(some 58), .len 0 (.t 57), (some (54, false)), false⟩,
        ⟨(some 59), .bin .gtr (.t 58) (.c (.int .i64 0)), (some (54, false)), false⟩,
        ⟨(some 60), .pick (.t 54) (.c (.bool true)) (.t 59), none, false⟩])
      (.cond (.t 60) (.seq (.region [⟨(some 2), .move (.c (.bool false)), none, false⟩])
       (.ret)) (.skip)))
      (.region [⟨(some 61), .move (.t 3), none, false⟩,
        ⟨(some 62), .move (.t 6), none, false⟩,
        ⟨(some 63), .callP F_scalars_Union [(.t 61), (.t 62)], none, false⟩,
        ⟨(some 3), .move (.t 63), none, false⟩]))))))
     (.region [⟨(some 64), .bin .add (.t 14) (.c (.int .i64 1)), none, false⟩,
       ⟨(some 14), .move (.t 64), none, false⟩]))))
/-- leadtrail/scheme.Valid -/
def b_scheme_Valid : AFn := ⟨1, [.tmp 2],
    (.seq (.region [⟨(some 1), .boxR 1 (.t 0), none, false⟩,
       ⟨(some 2), .move (.c (.bool false)), none, false⟩])
     (.seq (.seq (.region [⟨(some 7), .faddr 0 (.t 1), none, true⟩,
       ⟨(some 8), .load false 1 (.t 7), none, true⟩,
       ⟨(some 9), .len 0 (.t 8), none, false⟩,
       ⟨(some 10), .bin .gtr (.t 9) (.c (.int .i64 32)), none, false⟩])
     (.cond (.t 10) (.seq (.region [⟨(some 2), .move (.c (.bool false)), none, false⟩])
      (.ret)) (.skip)))
     (.seq (.region [⟨(some 3), .move (.c .nils), none, false⟩])
     (.seq (.seq (.region [⟨(some 11), .faddr 0 (.t 1), none, true⟩,
       ⟨(some 12), .load false 1 (.t 11), none, true⟩,
       ⟨(some 13), .len 0 (.t 12), none, false⟩,
       ⟨(some 14), .move (.c (.int .i64 0)), none, false⟩])
     (.block 0 (.loop [3, 12, 13, 14] b_scheme_Valid_l0)))
     (.seq (.region [⟨(some 2), .move (.c (.bool true)), none, false⟩])
     (.ret))))))⟩
theorem ok_scheme_Valid : okFunc Go.Proofs.Try.prog fo Go.Proofs.Try.f48 b_scheme_Valid = true := by kernel_rfl
theorem du_scheme_Valid : dutiesF Go.Proofs.Try.f48 b_scheme_Valid = [(72, F_scheme_last), (73, F_scalars_Meet), (74, F_scalars_Union)] := by kernel_rfl
theorem fn_scheme_Valid : FnOk P fo 48 b_scheme_Valid := ⟨_, Go.Proofs.Try.func48, ok_scheme_Valid, by rw [du_scheme_Valid]; exact List.forall_mem_cons.2 ⟨p_scheme_last, List.forall_mem_cons.2 ⟨p_scalars_Meet, List.forall_mem_cons.2 ⟨p_scalars_Union, fun _ h => by cases h⟩⟩⟩⟩
def t_scheme_Valid : Nat → Option AFn
  | 5 => some b_slices_IndexFunc_api_Span_api_Span
  | 6 => some b_slices_ContainsFunc_api_Span_api_Span
  | 7 => some b_scheme_none
  | _ => none
theorem tok_scheme_Valid : TableOk P fo t_scheme_Valid := by
  intro ix af h
  unfold t_scheme_Valid at h
  split at h
  · injection h with h; subst h; exact fn_slices_IndexFunc_api_Span_api_Span
  · injection h with h; subst h; exact fn_slices_ContainsFunc_api_Span_api_Span
  · injection h with h; subst h; exact fn_scheme_none
  · cases h
def F_scheme_Valid : List PV → Option PV := pureF t_scheme_Valid b_scheme_Valid
theorem p_scheme_Valid : PureFn P 48 F_scheme_Valid := pureF_ok tok_scheme_Valid fn_scheme_Valid

/-- leadtrail/shape.Valid -/
def b_shape_Valid : AFn := ⟨1, [.tmp 2],
    (.seq (.region [⟨(some 1), .boxR 2 (.t 0), none, false⟩,
       ⟨(some 2), .move (.c (.bool false)), none, false⟩])
     (.seq (.region [⟨(some 3), .load true 2 (.t 1), none, true⟩,
       ⟨(some 4), .bslice .lit 2 true 1 [.nils, (.int .i64 0)] [(0, (.t 3))], none, false⟩,
       ⟨(some 5), .build [.nils] [(0, 1, (.t 4))], none, false⟩,
       ⟨(some 6), .callP F_scheme_Valid [(.t 5)], none, false⟩,
       ⟨(some 2), .move (.t 6), none, false⟩])
     (.ret)))⟩
theorem ok_shape_Valid : okFunc Go.Proofs.Try.prog fo Go.Proofs.Try.f75 b_shape_Valid = true := by kernel_rfl
theorem du_shape_Valid : dutiesF Go.Proofs.Try.f75 b_shape_Valid = [(48, F_scheme_Valid)] := by kernel_rfl
theorem fn_shape_Valid : FnOk P fo 75 b_shape_Valid := ⟨_, Go.Proofs.Try.func75, ok_shape_Valid, by rw [du_shape_Valid]; exact List.forall_mem_cons.2 ⟨p_scheme_Valid, fun _ h => by cases h⟩⟩
def F_shape_Valid : List PV → Option PV := pureF (fun _ => none) b_shape_Valid
theorem p_shape_Valid : PureFn P 75 F_shape_Valid := pureF_ok noTable fn_shape_Valid

def b_shape_Common_l0 : ACode :=
    (.seq (.region [⟨(some 36), .bin .lss (.t 35) (.t 34), none, false⟩])
     (.seq (.cond (.t 36) (.skip) (.exit 0))
     (.seq (.block 1 (.seq (.region [⟨(some 37), .move (.t 35), none, false⟩,
        ⟨(some 9), .move (.t 37), none, false⟩])
      (.seq (.region [⟨(some 38), .faddr 0 (.t 3), none, true⟩,
        ⟨(some 39), .load false 1 (.t 38), none, true⟩,
        ⟨(some 40), .move (.t 9), none, false⟩,
        ⟨(some 41), .iaddr 1 (.t 39) (.t 40), none, true⟩,
        ⟨(some 42), .load false 1 (.t 41), none, true⟩,
        ⟨(some 43), .faddr 0 (.t 4), none, true⟩,
        ⟨(some 44), .load false 1 (.t 43), none, true⟩,
        ⟨(some 45), .move (.t 9), none, false⟩,
        ⟨(some 46), .iaddr 1 (.t 44) (.t 45), none, true⟩,
        ⟨(some 47), .load false 1 (.t 46), none, true⟩,
        ⟨(some 48), .callP F_spans_Meet [(.t 42), (.t 47)], none, false⟩,
        ⟨(some 10), .move (.t 48), none, false⟩])
      (.seq (.seq (.region [⟨(some 49), .move (.t 10), none, false⟩,
        ⟨(some 50), .len 0 (.t 49), none, false⟩,
        ⟨(some 51), .bin .eql (.t 50) (.c (.int .i64 0)), none, false⟩])
      (.cond (.t 51) (.seq (.region [⟨(some 6), .move (.c .nils), none, false⟩,
         ⟨(some 7), .move (.c (.bool false)), none, false⟩])
       (.ret)) (.skip)))
      (.region [⟨(some 52), .move (.t 8), none, false⟩,
        ⟨(some 53), .move (.t 10), none, false⟩,
        ⟨(some 54), .iaddr 2 (.t 53) (.c (.int .i64 0)), none, false⟩,
        ⟨(some 55), .faddr 0 (.t 54), none, false⟩,
        ⟨(some 56), .load false 1 (.t 55), none, false⟩,
        ⟨(some 57), .conv .u8 (.t 56), none, false⟩,
        ⟨(some 58), .bslice .lit 1 false 1 [(.int .u8 0)] [(0, (.t 57))], none, false⟩,
        ⟨(some 59), .append false .uq 1 false 1 (.t 52) (.t 58), none, false⟩,
        ⟨(some 8), .move (.t 59), none, false⟩])))))
     (.region [⟨(some 60), .bin .add (.t 35) (.c (.int .i64 1)), none, false⟩,
       ⟨(some 35), .move (.t 60), none, false⟩]))))
/-- leadtrail/shape.Common -/
def b_shape_Common : AFn := ⟨3, [.tmp 6, .tmp 7],
    (.seq (.region [⟨(some 3), .boxR 2 (.t 0), none, false⟩,
       ⟨(some 4), .boxR 2 (.t 1), none, false⟩,
       ⟨(some 6), .move (.c .nils), none, false⟩,
       ⟨(some 7), .move (.c (.bool false)), none, false⟩])
     (.seq (.seq (.region [⟨(some 11), .load true 2 (.t 3), none, true⟩,
       ⟨(some 12), .callP F_shape_Valid [(.t 11)], none, false⟩,
       ⟨(some 13), .un .not (.t 12), none, false⟩,
       ⟨(some 14), .move (.t 13), none, false⟩,
       ⟨(some 15), .load true 2 (.t 4), (some (14, false)), true⟩,
       ⟨(some 16), .callP F_shape_Valid [(.t 15)], (some (14, false)), false⟩,
       ⟨(some 17), .un .not (.t 16), (some (14, false)), false⟩,
       ⟨(some 18), .pick (.t 14) (.c (.bool true)) (.t 17), none, false⟩,
       ⟨(some 19), .move (.t 18), none, false⟩,
       ⟨(some 20), .move (.t 2), (some (19, false)), false⟩,
       ⟨(some 21), .bin .lss (.t 20) (.c (.int .i64 0)), (some (19, false)), false⟩,
       ⟨(some 22), .pick (.t 19) (.c (.bool true)) (.t 21), none, false⟩,
       ⟨(some 23), .move (.t 22), none, false⟩,
       ⟨(some 24), .move (.t 2), (some (23, false)), false⟩,
       ⟨(some 25), .faddr 0 (.t 3), (some (23, false)), true⟩,
       ⟨(some 26), .load false 1 (.t 25), (some (23, false)), true⟩,
       ⟨(some 27), .len 0 (.t 26), (some (23, false)), false⟩,
       ⟨(some 28), .faddr 0 (.t 4), (some (23, false)), true⟩,
       ⟨(some 29), .load false 1 (.t 28), (some (23, false)), true⟩,
       ⟨(some 30), .len 0 (.t 29), (some (23, false)), false⟩,
       ⟨(some 31), .mn [(.t 27), (.t 30)], (some (23, false)), false⟩,
       ⟨(some 32), .bin .gtr (.t 24) (.t 31), (some (23, false)), false⟩,
       ⟨(some 33), .pick (.t 23) (.c (.bool true)) (.t 32), none, false⟩])
     (.cond (.t 33) (.seq (.region [⟨(some 6), .move (.c .nils), none, false⟩,
        ⟨(some 7), .move (.c (.bool false)), none, false⟩])
      (.ret)) (.skip)))
     (.seq (.region [⟨(some 8), .move (.c .nils), none, false⟩])
     (.ghost (.mkuq 8 1) (.seq (.seq (.region [⟨(some 34), .move (.t 2), none, false⟩,
       ⟨(some 35), .move (.c (.int .i64 0)), none, false⟩])
     (.block 0 (.loop [3, 4, 8, 34, 35] b_shape_Common_l0)))
     (.seq (.region [⟨(some 61), .move (.t 8), none, false⟩,
       ⟨(some 6), .move (.t 61), none, false⟩,
       ⟨(some 7), .move (.c (.bool true)), none, false⟩])
     (.ret)))))))⟩
theorem ok_shape_Common : okFunc Go.Proofs.Try.prog fo Go.Proofs.Try.f83 b_shape_Common = true := by kernel_rfl
theorem du_shape_Common : dutiesF Go.Proofs.Try.f83 b_shape_Common = [(75, F_shape_Valid), (75, F_shape_Valid), (101, F_spans_Meet)] := by kernel_rfl
theorem fn_shape_Common : FnOk P fo 83 b_shape_Common := ⟨_, Go.Proofs.Try.func83, ok_shape_Common, by rw [du_shape_Common]; exact List.forall_mem_cons.2 ⟨p_shape_Valid, List.forall_mem_cons.2 ⟨p_shape_Valid, List.forall_mem_cons.2 ⟨p_spans_Meet, fun _ h => by cases h⟩⟩⟩⟩
def F_shape_Common : List PV → Option PV := pureF (fun _ => none) b_shape_Common
theorem p_shape_Common : PureFn P 83 F_shape_Common := pureF_ok noTable fn_shape_Common

def b_shape_steps_l0 : ACode :=
    (.seq (.seq (.region [⟨(some 14), .move (.t 5), none, false⟩,
       ⟨(some 15), .bin .gtr (.t 14) (.c (.int .i64 0)), none, false⟩])
     (.cond (.t 15) (.skip) (.exit 0)))
     (.seq (.block 1 (.seq (.region [⟨(some 18), .move (.t 3), none, false⟩,
        ⟨(some 19), .move (.t 5), none, false⟩,
        ⟨(some 20), .move (.t 4), none, false⟩,
        ⟨(some 21), .iaddr 1 (.t 18) (.t 19), none, false⟩,
        ⟨none, .store 1 (.t 21) (.t 20), none, false⟩])
      (.region [⟨(some 22), .move (.t 4), none, false⟩,
        ⟨(some 23), .faddr 0 (.t 1), none, true⟩,
        ⟨(some 24), .load false 1 (.t 23), none, true⟩,
        ⟨(some 25), .move (.t 5), none, false⟩,
        ⟨(some 26), .bin .sub (.t 25) (.c (.int .i64 1)), none, false⟩,
        ⟨(some 27), .iaddr 1 (.t 24) (.t 26), none, false⟩,
        ⟨(some 28), .load false 1 (.t 27), none, false⟩,
        ⟨(some 29), .callP F_spans_Size [(.t 28)], none, false⟩,
        ⟨(some 30), .bin .mul (.t 22) (.t 29), none, false⟩,
        ⟨(some 4), .move (.t 30), none, false⟩])))
     (.region [⟨(some 16), .move (.t 5), none, false⟩,
       ⟨(some 17), .bin .sub (.t 16) (.c (.int .i64 1)), none, false⟩,
       ⟨(some 5), .move (.t 17), none, false⟩])))
/-- leadtrail/shape.steps -/
def b_shape_steps : AFn := ⟨1, [.tmp 2],
    (.seq (.region [⟨(some 1), .boxR 2 (.t 0), none, false⟩,
       ⟨(some 2), .move (.c .nils), none, false⟩])
     (.seq (.region [⟨(some 6), .faddr 0 (.t 1), none, true⟩,
       ⟨(some 7), .load false 1 (.t 6), none, true⟩,
       ⟨(some 8), .len 0 (.t 7), none, false⟩,
       ⟨(some 9), .bin .add (.t 8) (.c (.int .i64 1)), none, false⟩,
       ⟨(some 10), .mkslice .own 1 false [(.int .i64 0)] 8 (.t 9) (.t 9), none, false⟩,
       ⟨(some 3), .move (.t 10), none, false⟩])
     (.seq (.region [⟨(some 4), .move (.c (.int .i64 1)), none, false⟩])
     (.seq (.seq (.region [⟨(some 11), .faddr 0 (.t 1), none, true⟩,
       ⟨(some 12), .load false 1 (.t 11), none, true⟩,
       ⟨(some 13), .len 0 (.t 12), none, false⟩,
       ⟨(some 5), .move (.t 13), none, false⟩])
     (.block 0 (.loop [1, 3, 4, 5] b_shape_steps_l0)))
     (.seq (.region [⟨(some 31), .move (.t 3), none, false⟩,
       ⟨(some 32), .move (.t 4), none, false⟩,
       ⟨(some 33), .iaddr 1 (.t 31) (.c (.int .i64 0)), none, false⟩,
       ⟨none, .store 1 (.t 33) (.t 32), none, false⟩])
     (.seq (.region [⟨(some 34), .move (.t 3), none, false⟩,
       ⟨(some 2), .move (.t 34), none, false⟩])
     (.ret)))))))⟩
theorem ok_shape_steps : okFunc Go.Proofs.Try.prog fo Go.Proofs.Try.f76 b_shape_steps = true := by kernel_rfl
theorem du_shape_steps : dutiesF Go.Proofs.Try.f76 b_shape_steps = [(90, F_spans_Size)] := by kernel_rfl
theorem fn_shape_steps : FnOk P fo 76 b_shape_steps := ⟨_, Go.Proofs.Try.func76, ok_shape_steps, by rw [du_shape_steps]; exact List.forall_mem_cons.2 ⟨p_spans_Size, fun _ h => by cases h⟩⟩
def F_shape_steps : List PV → Option PV := pureF (fun _ => none) b_shape_steps
theorem p_shape_steps : PureFn P 76 F_shape_steps := pureF_ok noTable fn_shape_steps

def b_shape_Rank_l0 : ACode :=
    (.seq (.region [⟨(some 27), .bin .lss (.t 26) (.t 25), none, false⟩])
     (.seq (.cond (.t 27) (.skip) (.exit 0))
     (.seq (.block 1 (.seq (.region [⟨(some 28), .move (.t 26), none, false⟩,
        ⟨(some 29), .iaddr 1 (.t 24) (.t 26), none, false⟩,
        ⟨(some 30), .load false 1 (.t 29), none, false⟩,
        ⟨(some 7), .move (.t 28), none, false⟩,
        ⟨(some 8), .move (.t 30), none, false⟩])
      (.seq (.region [⟨(some 32), .faddr 0 (.t 2), none, true⟩,
        ⟨(some 33), .load false 1 (.t 32), none, true⟩,
        ⟨(some 34), .move (.t 7), none, false⟩,
        ⟨(some 35), .iaddr 1 (.t 33) (.t 34), none, true⟩,
        ⟨(some 36), .load false 1 (.t 35), none, true⟩,
        ⟨(some 37), .move (.t 1), none, false⟩,
        ⟨(some 38), .move (.t 7), none, false⟩,
        ⟨(some 39), .iaddr 1 (.t 37) (.t 38), none, true⟩,
        ⟨(some 40), .load false 1 (.t 39), none, true⟩,
        ⟨(some 41), .conv .i64 (.t 40), none, true⟩,
        ⟨(some 42), .callP F_spans_Rank [(.t 36), (.t 41)], none, false⟩,
        ⟨(some 31), .move (.t 42), none, false⟩,
        ⟨(some 43), .ext 0 (.t 31), none, false⟩,
        ⟨(some 44), .ext 1 (.t 31), none, false⟩,
        ⟨(some 9), .move (.t 43), none, false⟩,
        ⟨(some 10), .move (.t 44), none, false⟩])
      (.seq (.seq (.region [⟨(some 45), .move (.t 10), none, false⟩,
        ⟨(some 46), .un .not (.t 45), none, false⟩])
      (.cond (.t 46) (.seq (.region [⟨(some 4), .move (.c (.int .i64 0)), none, false⟩,
         ⟨(some 5), .move (.c (.bool false)), none, false⟩])
       (.ret)) (.skip)))
      (.region [⟨(some 47), .move (.t 6), none, false⟩,
        ⟨(some 48), .move (.t 9), none, false⟩,
        ⟨(some 49), .move (.t 8), none, false⟩,
        ⟨(some 50), .bin .mul (.t 48) (.t 49), none, false⟩,
        ⟨(some 51), .bin .add (.t 47) (.t 50), none, false⟩,
        ⟨(some 6), .move (.t 51), none, false⟩])))))
     (.region [⟨(some 52), .bin .add (.t 26) (.c (.int .i64 1)), none, false⟩,
       ⟨(some 26), .move (.t 52), none, false⟩]))))
/-- leadtrail/shape.Rank -/
def b_shape_Rank : AFn := ⟨2, [.tmp 4, .tmp 5],
    (.seq (.region [⟨(some 2), .boxR 2 (.t 0), none, false⟩,
       ⟨(some 4), .move (.c (.int .i64 0)), none, false⟩,
       ⟨(some 5), .move (.c (.bool false)), none, false⟩])
     (.seq (.seq (.region [⟨(some 11), .load true 2 (.t 2), none, true⟩,
       ⟨(some 12), .callP F_shape_Valid [(.t 11)], none, false⟩,
       ⟨(some 13), .un .not (.t 12), none, false⟩,
       ⟨(some 14), .move (.t 13), none, false⟩,
       ⟨(some 15), .move (.t 1), (some (14, false)), false⟩,
       ⟨(some 16), .len 0 (.t 15), (some (14, false)), false⟩,
       ⟨(some 17), .faddr 0 (.t 2), (some (14, false)), true⟩,
       ⟨(some 18), .load false 1 (.t 17), (some (14, false)), true⟩,
       ⟨(some 19), .len 0 (.t 18), (some (14, false)), false⟩,
       ⟨(some 20), .bin .neq (.t 16) (.t 19), (some (14, false)), false⟩,
       ⟨(some 21), .pick (.t 14) (.c (.bool true)) (.t 20), none, false⟩])
     (.cond (.t 21) (.seq (.region [⟨(some 4), .move (.c (.int .i64 0)), none, false⟩,
        ⟨(some 5), .move (.c (.bool false)), none, false⟩])
      (.ret)) (.skip)))
     (.seq (.region [⟨(some 6), .move (.c (.int .i64 0)), none, false⟩])
     (.seq (.seq (.region [⟨(some 22), .load true 2 (.t 2), none, true⟩,
       ⟨(some 23), .callP F_shape_steps [(.t 22)], none, false⟩,
       ⟨(some 24), .slice 1 (.t 23) (some (.c (.int .i64 1))) none, none, false⟩,
       ⟨(some 25), .len 0 (.t 24), none, false⟩,
       ⟨(some 26), .move (.c (.int .i64 0)), none, false⟩])
     (.block 0 (.loop [1, 2, 6, 24, 25, 26] b_shape_Rank_l0)))
     (.seq (.region [⟨(some 53), .move (.t 6), none, false⟩,
       ⟨(some 4), .move (.t 53), none, false⟩,
       ⟨(some 5), .move (.c (.bool true)), none, false⟩])
     (.ret))))))⟩
theorem ok_shape_Rank : okFunc Go.Proofs.Try.prog fo Go.Proofs.Try.f49 b_shape_Rank = true := by kernel_rfl
theorem du_shape_Rank : dutiesF Go.Proofs.Try.f49 b_shape_Rank = [(75, F_shape_Valid), (76, F_shape_steps), (77, F_spans_Rank)] := by kernel_rfl
theorem fn_shape_Rank : FnOk P fo 49 b_shape_Rank := ⟨_, Go.Proofs.Try.func49, ok_shape_Rank, by rw [du_shape_Rank]; exact List.forall_mem_cons.2 ⟨p_shape_Valid, List.forall_mem_cons.2 ⟨p_shape_steps, List.forall_mem_cons.2 ⟨p_spans_Rank, fun _ h => by cases h⟩⟩⟩⟩
def F_shape_Rank : List PV → Option PV := pureF (fun _ => none) b_shape_Rank
theorem p_shape_Rank : PureFn P 49 F_shape_Rank := pureF_ok noTable fn_shape_Rank

def b_clash_first_l0 : ACode :=
    (.seq (.region [⟨(some 20), .bin .lss (.t 19) (.t 18), none, false⟩])
     (.seq (.cond (.t 20) (.skip) (.exit 0))
     (.seq (.block 1 (.seq (.region [⟨(some 21), .iaddr 1 (.t 17) (.t 19), none, false⟩,
        ⟨(some 22), .load false 1 (.t 21), none, false⟩,
        ⟨(some 7), .move (.t 22), none, false⟩])
      (.region [⟨(some 23), .move (.t 5), none, false⟩,
        ⟨(some 24), .move (.t 7), none, false⟩,
        ⟨(some 25), .iaddr 2 (.t 24) (.c (.int .i64 0)), none, false⟩,
        ⟨(some 26), .faddr 0 (.t 25), none, false⟩,
        ⟨(some 27), .load false 1 (.t 26), none, false⟩,
        ⟨(some 28), .conv .u8 (.t 27), none, false⟩,
        ⟨(some 29), .bslice .lit 1 false 1 [(.int .u8 0)] [(0, (.t 28))], none, false⟩,
        ⟨(some 30), .append false .uq 1 false 1 (.t 23) (.t 29), none, false⟩,
        ⟨(some 5), .move (.t 30), none, false⟩])))
     (.region [⟨(some 31), .bin .add (.t 19) (.c (.int .i64 1)), none, false⟩,
       ⟨(some 19), .move (.t 31), none, false⟩]))))
/-- leadtrail/clash.first -/
def b_clash_first : AFn := ⟨2, [.tmp 4],
    (.seq (.region [⟨(some 2), .boxR 2 (.t 0), none, false⟩,
       ⟨(some 4), .move (.c (.int .i64 0)), none, false⟩])
     (.seq (.region [⟨(some 10), .bslice .uq 1 false 0 [(.int .u8 0)] [], none, false⟩,
       ⟨(some 11), .move (.t 1), none, false⟩,
       ⟨(some 12), .append false .uq 1 false 1 (.t 10) (.t 11), none, false⟩,
       ⟨(some 5), .move (.t 12), none, false⟩])
     (.seq (.seq (.region [⟨(some 13), .faddr 0 (.t 2), none, true⟩,
       ⟨(some 14), .load false 1 (.t 13), none, true⟩,
       ⟨(some 15), .move (.t 1), none, false⟩,
       ⟨(some 16), .len 0 (.t 15), none, false⟩,
       ⟨(some 17), .slice 1 (.t 14) (some (.t 16)) none, none, false⟩,
       ⟨(some 18), .len 0 (.t 17), none, false⟩,
       ⟨(some 19), .move (.c (.int .i64 0)), none, false⟩])
     (.block 0 (.loop [2, 5, 17, 18, 19] b_clash_first_l0)))
     (.seq (.region [⟨(some 33), .load true 2 (.t 2), none, true⟩,
       ⟨(some 34), .move (.t 5), none, false⟩,
       ⟨(some 35), .callP F_shape_Rank [(.t 33), (.t 34)], none, false⟩,
       ⟨(some 32), .move (.t 35), none, false⟩,
       ⟨(some 36), .ext 0 (.t 32), none, false⟩,
       ⟨(some 37), .ext 1 (.t 32), none, false⟩,
       ⟨(some 8), .move (.t 36), none, false⟩,
       ⟨(some 9), .move (.t 37), none, false⟩])
     (.seq (.region [⟨(some 38), .faddr 1 (.t 2), none, true⟩,
       ⟨(some 39), .load false 1 (.t 38), none, true⟩,
       ⟨(some 40), .move (.t 8), none, false⟩,
       ⟨(some 41), .bin .add (.t 39) (.t 40), none, false⟩,
       ⟨(some 4), .move (.t 41), none, false⟩])
     (.ret))))))⟩
theorem ok_clash_first : okFunc Go.Proofs.Try.prog fo Go.Proofs.Try.f84 b_clash_first = true := by kernel_rfl
theorem du_clash_first : dutiesF Go.Proofs.Try.f84 b_clash_first = [(49, F_shape_Rank)] := by kernel_rfl
theorem fn_clash_first : FnOk P fo 84 b_clash_first := ⟨_, Go.Proofs.Try.func84, ok_clash_first, by rw [du_clash_first]; exact List.forall_mem_cons.2 ⟨p_shape_Rank, fun _ h => by cases h⟩⟩
def F_clash_first : List PV → Option PV := pureF (fun _ => none) b_clash_first
theorem p_clash_first : PureFn P 84 F_clash_first := pureF_ok noTable fn_clash_first

def b_clash_search_l1 : ACode :=
    (.seq (.region [⟨(some 30), .bin .lss (.t 29) (.t 28), none, false⟩])
     (.seq (.cond (.t 30) (.skip) (.exit 2))
     (.seq (.block 3 (.seq (.region [⟨(some 31), .move (.t 29), none, false⟩,
        ⟨(some 32), .iaddr 2 (.t 27) (.t 29), none, false⟩,
        ⟨(some 33), .load true 2 (.t 32), none, false⟩,
        ⟨(some 10), .alloc [.nils, (.int .i64 0)], none, false⟩,
        ⟨(some 9), .move (.t 31), none, false⟩,
        ⟨none, .store 2 (.t 10) (.t 33), none, false⟩])
      (.seq (.seq (.region [⟨(some 34), .move (.t 1), none, false⟩,
        ⟨(some 35), .move (.t 7), none, false⟩,
        ⟨(some 36), .move (.t 9), none, false⟩,
        ⟨(some 37), .callV (.t 34) [(.t 35), (.t 36)], none, false⟩,
        ⟨(some 38), .un .not (.t 37), none, false⟩])
      (.cond (.t 38) (.exit 3) (.skip)))
      (.seq (.region [⟨(some 40), .load true 2 (.t 8), none, false⟩,
        ⟨(some 41), .load true 2 (.t 10), none, false⟩,
        ⟨(some 42), .faddr 0 (.t 8), none, false⟩,
        ⟨(some 43), .load false 1 (.t 42), none, false⟩,
        ⟨(some 44), .len 0 (.t 43), none, false⟩,
        ⟨(some 45), .callP F_shape_Common [(.t 40), (.t 41), (.t 44)], none, false⟩,
        ⟨(some 39), .move (.t 45), none, false⟩,
        ⟨(some 46), .ext 0 (.t 39), none, false⟩,
        ⟨(some 47), .ext 1 (.t 39), none, false⟩,
        ⟨(some 11), .move (.t 46), none, false⟩,
        ⟨(some 12), .move (.t 47), none, false⟩])
      (.seq (.region [⟨(some 48), .move (.t 12), none, false⟩])
      (.cond (.t 48) (.seq (.region [⟨(some 49), .load true 2 (.t 8), none, false⟩,
         ⟨(some 50), .move (.t 11), none, false⟩,
         ⟨(some 51), .callP F_clash_first [(.t 49), (.t 50)], none, false⟩,
         ⟨(some 52), .load true 2 (.t 10), none, false⟩,
         ⟨(some 53), .move (.t 11), none, false⟩,
         ⟨(some 54), .callP F_clash_first [(.t 52), (.t 53)], none, false⟩,
         ⟨(some 55), .build [(.bool false), (.int .i64 0), (.int .i64 0)] [(1, 1, (.t 51)), (2, 1, (.t 54))], none, false⟩,
         ⟨none, .store 3 (.t 6) (.t 55), none, false⟩])
       (.exit 0)) (.skip)))))))
     (.region [⟨(some 56), .bin .add (.t 29) (.c (.int .i64 1)), none, false⟩,
       ⟨(some 29), .move (.t 56), none, false⟩]))))
def b_clash_search_l0 : ACode :=
    (.seq (.region [⟨(some 22), .bin .lss (.t 21) (.t 20), none, false⟩])
     (.seq (.cond (.t 22) (.skip) (.exit 0))
     (.seq (.block 1 (.seq (.region [⟨(some 23), .move (.t 21), none, false⟩,
        ⟨(some 24), .iaddr 2 (.t 19) (.t 21), none, false⟩,
        ⟨(some 25), .load true 2 (.t 24), none, false⟩,
        ⟨(some 8), .alloc [.nils, (.int .i64 0)], none, false⟩,
        ⟨(some 7), .move (.t 23), none, false⟩,
        ⟨none, .store 2 (.t 8) (.t 25), none, false⟩])
      (.seq (.region [⟨(some 26), .faddr 0 (.t 2), none, true⟩,
        ⟨(some 27), .load false 1 (.t 26), none, true⟩,
        ⟨(some 28), .len 0 (.t 27), none, false⟩,
        ⟨(some 29), .move (.c (.int .i64 0)), none, false⟩])
      (.block 2 (.loop [1, 2, 4, 6, 7, 8, 19, 20, 21, 27, 28, 29] b_clash_search_l1)))))
     (.region [⟨(some 57), .bin .add (.t 21) (.c (.int .i64 1)), none, false⟩,
       ⟨(some 21), .move (.t 57), none, false⟩]))))
/-- leadtrail/clash.search -/
def b_clash_search : AFn := ⟨2, [.cell 4 true 3, .tmp 5],
    (.seq (.region [⟨(some 2), .boxR 1 (.t 0), none, false⟩,
       ⟨(some 4), .alloc [(.bool false), (.int .i64 0), (.int .i64 0)], none, false⟩,
       ⟨(some 5), .move (.c (.int .i64 0)), none, false⟩])
     (.scope (.seq (.seq (.region [⟨(some 13), .load true 1 (.t 2), none, true⟩,
        ⟨(some 14), .callP F_scheme_Valid [(.t 13)], none, false⟩,
        ⟨(some 15), .un .not (.t 14), none, false⟩])
      (.cond (.t 15) (.seq (.region [⟨(some 16), .build [(.bool false), (.int .i64 0), (.int .i64 0)] [], none, false⟩,
         ⟨none, .store 3 (.t 4) (.t 16), none, false⟩,
         ⟨(some 5), .move (.c (.int .i64 84)), none, false⟩])
       (.ret)) (.skip)))
      (.seq (.region [⟨(some 17), .build [(.bool false), (.int .i64 0), (.int .i64 0)] [(0, 1, (.c (.bool true)))], none, false⟩,
        ⟨(some 6), .alloc [(.bool false), (.int .i64 0), (.int .i64 0)], none, false⟩,
        ⟨none, .store 3 (.t 6) (.t 17), none, false⟩])
      (.seq (.skip)
      (.seq (.seq (.region [⟨(some 18), .faddr 0 (.t 2), none, true⟩,
        ⟨(some 19), .load false 1 (.t 18), none, true⟩,
        ⟨(some 20), .len 0 (.t 19), none, false⟩,
        ⟨(some 21), .move (.c (.int .i64 0)), none, false⟩])
      (.block 0 (.loop [1, 2, 4, 6, 19, 20, 21] b_clash_search_l0)))
      (.seq (.region [⟨(some 58), .load true 3 (.t 6), none, false⟩,
        ⟨none, .store 3 (.t 4) (.t 58), none, false⟩,
        ⟨(some 5), .move (.c (.int .i64 0)), none, false⟩])
      (.ret))))))))⟩
theorem ok_clash_search : okFunc Go.Proofs.Try.prog fo Go.Proofs.Try.f57 b_clash_search = true := by kernel_rfl
theorem du_clash_search : dutiesF Go.Proofs.Try.f57 b_clash_search = [(48, F_scheme_Valid), (83, F_shape_Common), (84, F_clash_first), (84, F_clash_first)] := by kernel_rfl
theorem fn_clash_search : FnOk P fo 57 b_clash_search := ⟨_, Go.Proofs.Try.func57, ok_clash_search, by rw [du_clash_search]; exact List.forall_mem_cons.2 ⟨p_scheme_Valid, List.forall_mem_cons.2 ⟨p_shape_Common, List.forall_mem_cons.2 ⟨p_clash_first, List.forall_mem_cons.2 ⟨p_clash_first, fun _ h => by cases h⟩⟩⟩⟩⟩

/-- leadtrail/clash.Prefix -/
def b_clash_Prefix : AFn := ⟨1, [.cell 2 true 3, .tmp 3],
    (.seq (.region [⟨(some 1), .box 1 (.t 0), none, false⟩,
       ⟨(some 2), .alloc [(.bool false), (.int .i64 0), (.int .i64 0)], none, false⟩,
       ⟨(some 3), .move (.c (.int .i64 0)), none, false⟩])
     (.seq (.region [⟨(some 4), .load true 1 (.t 1), none, false⟩,
       ⟨(some 5), .mkfn 4 [(.t 1)], none, false⟩,
       ⟨(some 6), .callI 25 [(.t 4), (.t 5)], none, false⟩,
       ⟨(some 7), .ext 0 (.t 6), none, false⟩,
       ⟨(some 8), .ext 1 (.t 6), none, false⟩,
       ⟨none, .store 3 (.t 2) (.t 7), none, false⟩,
       ⟨(some 3), .move (.t 8), none, false⟩])
     (.ret)))⟩
theorem ok_clash_Prefix : okFunc Go.Proofs.Try.prog fo Go.Proofs.Try.f35 b_clash_Prefix = true := by kernel_rfl
theorem du_clash_Prefix : dutiesF Go.Proofs.Try.f35 b_clash_Prefix = [] := by kernel_rfl
theorem fn_clash_Prefix : FnOk P fo 35 b_clash_Prefix := ⟨_, Go.Proofs.Try.func35, ok_clash_Prefix, by rw [du_clash_Prefix]; exact fun _ h => by cases h⟩
def t_clash_Prefix : Nat → Option AFn
  | 4 => some b_clash_Prefix_1
  | 25 => some b_clash_search
  | _ => none
theorem tok_clash_Prefix : TableOk P fo t_clash_Prefix := by
  intro ix af h
  unfold t_clash_Prefix at h
  split at h
  · injection h with h; subst h; exact fn_clash_Prefix_1
  · injection h with h; subst h; exact fn_clash_search
  · cases h
def F_clash_Prefix : List PV → Option PV := pureF t_clash_Prefix b_clash_Prefix
theorem p_clash_Prefix : PureFn P 35 F_clash_Prefix := pureF_ok tok_clash_Prefix fn_clash_Prefix

/-- slices.Clone[[]leadtrail/api.Span,leadtrail/api.Span] -/
def b_slices_Clone_api_Span_api_Span : AFn := ⟨1, [.tmp 2],
    (.seq (.region [⟨(some 2), .move (.c .nils), none, false⟩])
     (.seq (.seq (.region [⟨(some 3), .move (.t 0), none, false⟩,
       ⟨(some 4), .eq 2 false (.t 3) (.c .nils), none, false⟩])
     (.cond (.t 4) (.seq (.region [⟨(some 2), .move (.c .nils), none, false⟩])
      (.ret)) (.skip)))
     (.seq (.region [⟨(some 5), .bslice .uq 2 true 0 [(.int .i64 0), (.int .i64 0)] [], none, false⟩,
       ⟨(some 6), .move (.t 0), none, false⟩,
       ⟨(some 7), .append false .uq 2 true 16 (.t 5) (.t 6), none, false⟩,
       ⟨(some 2), .move (.t 7), none, false⟩])
     (.ret))))⟩
theorem ok_slices_Clone_api_Span_api_Span : okFunc Go.Proofs.Try.prog fo Go.Proofs.Try.f59 b_slices_Clone_api_Span_api_Span = true := by kernel_rfl
theorem du_slices_Clone_api_Span_api_Span : dutiesF Go.Proofs.Try.f59 b_slices_Clone_api_Span_api_Span = [] := by kernel_rfl
theorem fn_slices_Clone_api_Span_api_Span : FnOk P fo 59 b_slices_Clone_api_Span_api_Span := ⟨_, Go.Proofs.Try.func59, ok_slices_Clone_api_Span_api_Span, by rw [du_slices_Clone_api_Span_api_Span]; exact fun _ h => by cases h⟩
def F_slices_Clone_api_Span_api_Span : List PV → Option PV := pureF (fun _ => none) b_slices_Clone_api_Span_api_Span
theorem p_slices_Clone_api_Span_api_Span : PureFn P 59 F_slices_Clone_api_Span_api_Span := pureF_ok noTable fn_slices_Clone_api_Span_api_Span

def b_scheme_Copy_l1 : ACode :=
    (.seq (.region [⟨(some 23), .bin .lss (.t 22) (.t 21), none, false⟩])
     (.seq (.cond (.t 23) (.skip) (.exit 2))
     (.seq (.block 3 (.seq (.region [⟨(some 24), .iaddr 1 (.t 20) (.t 22), none, false⟩,
        ⟨(some 25), .load false 1 (.t 24), none, false⟩,
        ⟨(some 8), .move (.t 25), none, false⟩])
      (.region [⟨(some 26), .faddr 0 (.t 6), none, false⟩,
        ⟨(some 27), .load false 1 (.t 26), none, false⟩,
        ⟨(some 28), .move (.t 8), none, false⟩,
        ⟨(some 29), .callP F_slices_Clone_api_Span_api_Span [(.t 28)], none, false⟩,
        ⟨(some 30), .bslice .lit 1 false 1 [.nils] [(0, (.t 29))], none, false⟩,
        ⟨(some 31), .append false .uq 1 false 24 (.t 27) (.t 30), none, false⟩,
        ⟨(some 32), .faddr 0 (.t 6), none, false⟩,
        ⟨none, .store 1 (.t 32) (.t 31), none, false⟩])))
     (.region [⟨(some 33), .bin .add (.t 22) (.c (.int .i64 1)), none, false⟩,
       ⟨(some 22), .move (.t 33), none, false⟩]))))
def b_scheme_Copy_l0 : ACode :=
    (.seq (.region [⟨(some 13), .bin .lss (.t 12) (.t 11), none, false⟩])
     (.seq (.cond (.t 13) (.skip) (.exit 0))
     (.seq (.block 1 (.seq (.region [⟨(some 14), .iaddr 2 (.t 10) (.t 12), none, false⟩,
        ⟨(some 15), .load true 2 (.t 14), none, false⟩,
        ⟨(some 5), .alloc [.nils, (.int .i64 0)], none, false⟩,
        ⟨none, .store 2 (.t 5) (.t 15), none, false⟩])
      (.seq (.region [⟨(some 16), .faddr 1 (.t 5), none, false⟩,
        ⟨(some 17), .load false 1 (.t 16), none, false⟩,
        ⟨(some 18), .build [.nils, (.int .i64 0)] [(1, 1, (.t 17))], none, false⟩,
        ⟨(some 6), .alloc [.nils, (.int .i64 0)], none, false⟩,
        ⟨none, .store 2 (.t 6) (.t 18), none, false⟩])
      (.ghost (.mkuqC 6 0 1) (.seq (.seq (.region [⟨(some 19), .faddr 0 (.t 5), none, false⟩,
        ⟨(some 20), .load false 1 (.t 19), none, false⟩,
        ⟨(some 21), .len 0 (.t 20), none, false⟩,
        ⟨(some 22), .move (.c (.int .i64 0)), none, false⟩])
      (.block 2 (.loop [2, 3, 6, 10, 11, 12, 20, 21, 22] b_scheme_Copy_l1)))
      (.region [⟨(some 34), .faddr 0 (.t 3), none, false⟩,
        ⟨(some 35), .load false 1 (.t 34), none, false⟩,
        ⟨(some 36), .load true 2 (.t 6), none, false⟩,
        ⟨(some 37), .bslice .lit 2 true 1 [.nils, (.int .i64 0)] [(0, (.t 36))], none, false⟩,
        ⟨(some 38), .append false .uq 2 true 32 (.t 35) (.t 37), none, false⟩,
        ⟨(some 39), .faddr 0 (.t 3), none, false⟩,
        ⟨none, .store 1 (.t 39) (.t 38), none, false⟩]))))))
     (.region [⟨(some 40), .bin .add (.t 12) (.c (.int .i64 1)), none, false⟩,
       ⟨(some 12), .move (.t 40), none, false⟩]))))
/-- leadtrail/scheme.Copy -/
def b_scheme_Copy : AFn := ⟨1, [.cell 2 true 1],
    (.seq (.region [⟨(some 1), .boxR 1 (.t 0), none, false⟩,
       ⟨(some 2), .alloc [.nils], none, false⟩])
     (.seq (.region [⟨(some 3), .alloc [.nils], none, false⟩])
     (.ghost (.mkuqC 3 0 2) (.seq (.seq (.region [⟨(some 9), .faddr 0 (.t 1), none, true⟩,
       ⟨(some 10), .load false 1 (.t 9), none, true⟩,
       ⟨(some 11), .len 0 (.t 10), none, false⟩,
       ⟨(some 12), .move (.c (.int .i64 0)), none, false⟩])
     (.block 0 (.loop [2, 3, 10, 11, 12] b_scheme_Copy_l0)))
     (.seq (.region [⟨(some 41), .load true 1 (.t 3), none, false⟩,
       ⟨none, .store 1 (.t 2) (.t 41), none, false⟩])
     (.ret))))))⟩
theorem ok_scheme_Copy : okFunc Go.Proofs.Try.prog fo Go.Proofs.Try.f36 b_scheme_Copy = true := by kernel_rfl
theorem du_scheme_Copy : dutiesF Go.Proofs.Try.f36 b_scheme_Copy = [(59, F_slices_Clone_api_Span_api_Span)] := by kernel_rfl
theorem fn_scheme_Copy : FnOk P fo 36 b_scheme_Copy := ⟨_, Go.Proofs.Try.func36, ok_scheme_Copy, by rw [du_scheme_Copy]; exact List.forall_mem_cons.2 ⟨p_slices_Clone_api_Span_api_Span, fun _ h => by cases h⟩⟩
def F_scheme_Copy : List PV → Option PV := pureF (fun _ => none) b_scheme_Copy
theorem p_scheme_Copy : PureFn P 36 F_scheme_Copy := pureF_ok noTable fn_scheme_Copy

/-- (*leadtrail/auto.builder).met -/
def b_auto_builder_met : AFn := ⟨2, [.tmp 4, .tmp 5],
    (.seq (.region [⟨(some 3), .boxR 2 (.t 1), none, false⟩,
       ⟨(some 4), .move (.c (.int .i64 0)), none, false⟩,
       ⟨(some 5), .move (.c (.bool false)), none, false⟩])
     (.seq (.region [⟨(some 9), .move (.t 0), none, false⟩,
       ⟨(some 10), .nilck (.t 9), none, false⟩,
       ⟨(some 11), .faddr 1 (.t 10), none, false⟩,
       ⟨(some 12), .load false 1 (.t 11), none, false⟩,
       ⟨(some 13), .load true 2 (.t 3), none, true⟩,
       ⟨(some 14), .lookup (.row [1, 1]) (.int .i64 0) true (.t 12) (.t 13), none, false⟩,
       ⟨(some 8), .move (.t 14), none, false⟩,
       ⟨(some 15), .ext 0 (.t 8), none, false⟩,
       ⟨(some 16), .ext 1 (.t 8), none, false⟩,
       ⟨(some 6), .move (.t 15), none, false⟩,
       ⟨(some 7), .move (.t 16), none, false⟩])
     (.seq (.seq (.region [⟨(some 17), .move (.t 7), none, false⟩,
       ⟨(some 18), .un .not (.t 17), none, false⟩])
     (.cond (.t 18) (.seq (.region [⟨(some 19), .move (.t 0), none, false⟩,
        ⟨(some 20), .nilck (.t 19), none, false⟩,
        ⟨(some 21), .faddr 2 (.t 20), none, false⟩,
        ⟨(some 22), .load false 1 (.t 21), none, false⟩,
        ⟨(some 23), .len 0 (.t 22), none, false⟩,
        ⟨(some 6), .move (.t 23), none, false⟩])
      (.seq (.seq (.region [⟨(some 24), .move (.t 6), none, false⟩,
        ⟨(some 25), .bin .eql (.t 24) (.c (.int .i64 64)), none, false⟩])
      (.cond (.t 25) (.seq (.region [⟨(some 4), .move (.c (.int .i64 0)), none, false⟩,
         ⟨(some 5), .move (.c (.bool false)), none, false⟩])
       (.ret)) (.skip)))
      (.seq (.region [⟨(some 26), .move (.t 0), none, false⟩,
        ⟨(some 27), .nilck (.t 26), none, false⟩,
        ⟨(some 28), .faddr 1 (.t 27), none, false⟩,
        ⟨(some 29), .load false 1 (.t 28), none, false⟩,
        ⟨(some 30), .load true 2 (.t 3), none, true⟩,
        ⟨(some 31), .move (.t 6), none, false⟩,
        ⟨none, .mapset (.row [1, 1]) (.t 29) (.t 30) (.t 31), none, false⟩])
      (.region [⟨(some 32), .move (.t 0), none, false⟩,
        ⟨(some 33), .move (.t 0), none, false⟩,
        ⟨(some 34), .nilck (.t 33), none, false⟩,
        ⟨(some 35), .faddr 2 (.t 34), none, false⟩,
        ⟨(some 36), .load false 1 (.t 35), none, false⟩,
        ⟨(some 37), .load true 2 (.t 3), none, true⟩,
        ⟨(some 38), .bslice .lit 2 true 1 [(.int .i64 0), (.int .u32 0)] [(0, (.t 37))], none, false⟩,
        ⟨(some 39), .append false .uq 2 true 16 (.t 36) (.t 38), none, false⟩,
        ⟨(some 40), .nilck (.t 32), none, false⟩,
        ⟨(some 41), .faddr 2 (.t 40), none, false⟩,
        ⟨none, .store 1 (.t 41) (.t 39), none, false⟩])))) (.skip)))
     (.seq (.region [⟨(some 42), .move (.t 6), none, false⟩,
       ⟨(some 4), .move (.t 42), none, false⟩,
       ⟨(some 5), .move (.c (.bool true)), none, false⟩])
     (.ret)))))⟩
theorem ok_auto_builder_met : okFunc Go.Proofs.Try.prog fo Go.Proofs.Try.f60 b_auto_builder_met = true := by kernel_rfl
theorem du_auto_builder_met : dutiesF Go.Proofs.Try.f60 b_auto_builder_met = [] := by kernel_rfl
theorem fn_auto_builder_met : FnOk P fo 60 b_auto_builder_met := ⟨_, Go.Proofs.Try.func60, ok_auto_builder_met, by rw [du_auto_builder_met]; exact fun _ h => by cases h⟩

def b_auto_builder_behind_l0 : ACode :=
    (.seq (.region [⟨(some 19), .bin .lss (.t 18) (.t 17), none, false⟩])
     (.seq (.cond (.t 19) (.skip) (.exit 0))
     (.seq (.block 1 (.seq (.region [⟨(some 20), .move (.t 18), none, false⟩,
        ⟨(some 21), .iaddr 2 (.t 16) (.t 18), none, false⟩,
        ⟨(some 22), .load true 2 (.t 21), none, false⟩,
        ⟨(some 11), .alloc [.nils, (.int .i64 0)], none, false⟩,
        ⟨(some 10), .move (.t 20), none, false⟩,
        ⟨none, .store 2 (.t 11) (.t 22), none, false⟩])
      (.seq (.region [⟨(some 23), .faddr 1 (.t 4), none, true⟩,
        ⟨(some 24), .load false 1 (.t 23), none, true⟩,
        ⟨(some 25), .move (.t 10), none, false⟩,
        ⟨(some 26), .bin .shr (.t 24) (.t 25), none, false⟩,
        ⟨(some 27), .bin .and (.t 26) (.c (.int .u32 1)), none, false⟩,
        ⟨(some 28), .bin .eql (.t 27) (.c (.int .u32 1)), none, false⟩,
        ⟨(some 29), .move (.t 28), none, false⟩,
        ⟨(some 30), .faddr 0 (.t 11), (some (29, true)), false⟩,
        ⟨(some 31), .load false 1 (.t 30), (some (29, true)), false⟩,
        ⟨(some 32), .faddr 0 (.t 4), (some (29, true)), true⟩,
        ⟨(some 33), .load false 1 (.t 32), (some (29, true)), true⟩,
        ⟨(some 34), .iaddr 1 (.t 31) (.t 33), (some (29, true)), false⟩,
        ⟨(some 35), .load false 1 (.t 34), (some (29, true)), false⟩,
        ⟨(some 36), .move (.t 2), (some (29, true)), false⟩,
        ⟨(some 37), .callP C_spans_Has [(.t 35), (.t 36)], (some (29, true)), false⟩,
        ⟨(some 38), .pick (.t 29) (.t 37) (.c (.bool false)), none, false⟩])
      (.cond (.t 38) (.seq (.region [⟨(some 39), .move (.t 8), none, false⟩,
         ⟨(some 40), .move (.t 10), none, false⟩,
         ⟨(some 41), .bin .shl (.c (.int .u32 1)) (.t 40), none, false⟩,
         ⟨(some 42), .bin .or (.t 39) (.t 41), none, false⟩,
         ⟨(some 8), .move (.t 42), none, false⟩])
       (.region [⟨(some 43), .move (.t 9), none, false⟩,
         ⟨(some 44), .move (.t 43), none, false⟩,
         ⟨(some 45), .faddr 0 (.t 11), (some (44, false)), false⟩,
         ⟨(some 46), .load false 1 (.t 45), (some (44, false)), false⟩,
         ⟨(some 47), .len 0 (.t 46), (some (44, false)), false⟩,
         ⟨(some 48), .faddr 0 (.t 4), (some (44, false)), true⟩,
         ⟨(some 49), .load false 1 (.t 48), (some (44, false)), true⟩,
         ⟨(some 50), .bin .add (.t 49) (.c (.int .i64 1)), (some (44, false)), false⟩,
         ⟨(some 51), .bin .eql (.t 47) (.t 50), (some (44, false)), false⟩,
         ⟨(some 52), .pick (.t 44) (.c (.bool true)) (.t 51), none, false⟩,
         ⟨(some 9), .move (.t 52), none, false⟩])) (.skip)))))
     (.region [⟨(some 53), .bin .add (.t 18) (.c (.int .i64 1)), none, false⟩,
       ⟨(some 18), .move (.t 53), none, false⟩]))))
/-- (*leadtrail/auto.builder).behind -/
def b_auto_builder_behind : AFn := ⟨3, [.tmp 6, .tmp 7],
    (.seq (.region [⟨(some 4), .boxR 2 (.t 1), none, false⟩,
       ⟨(some 6), .move (.c (.int .u32 0)), none, false⟩,
       ⟨(some 7), .move (.c (.bool false)), none, false⟩])
     (.seq (.region [⟨(some 8), .move (.c (.int .u32 0)), none, false⟩])
     (.seq (.region [⟨(some 9), .move (.c (.bool false)), none, false⟩])
     (.seq (.seq (.region [⟨(some 12), .move (.t 0), none, false⟩,
       ⟨(some 13), .nilck (.t 12), none, false⟩,
       ⟨(some 14), .faddr 0 (.t 13), none, false⟩,
       ⟨(some 15), .faddr 0 (.t 14), none, false⟩,
       ⟨(some 16), .load false 1 (.t 15), none, false⟩,
       ⟨(some 17), .len 0 (.t 16), none, false⟩,
       ⟨(some 18), .move (.c (.int .i64 0)), none, false⟩])
     (.block 0 (.loopG [2, 4, 8, 9, 16, 17, 18] b_auto_builder_behind_l0)))
     (.seq (.region [⟨(some 54), .move (.t 8), none, false⟩,
       ⟨(some 55), .move (.t 9), none, false⟩,
       ⟨(some 6), .move (.t 54), none, false⟩,
       ⟨(some 7), .move (.t 55), none, false⟩])
     (.ret))))))⟩
theorem ok_auto_builder_behind : okFunc Go.Proofs.Try.prog fo Go.Proofs.Try.f61 b_auto_builder_behind = true := by kernel_rfl
theorem du_auto_builder_behind : dutiesF Go.Proofs.Try.f61 b_auto_builder_behind = [(78, C_spans_Has)] := by kernel_rfl
theorem fn_auto_builder_behind : FnOk P fo 61 b_auto_builder_behind := ⟨_, Go.Proofs.Try.func61, ok_auto_builder_behind, by rw [du_auto_builder_behind]; exact List.forall_mem_cons.2 ⟨c_spans_Has, fun _ h => by cases h⟩⟩

def b_auto_builder_walk_l1 : ACode :=
    (.seq (.region [⟨(some 31), .bin .lss (.t 30) (.c (.int .i64 256)), none, false⟩])
     (.seq (.cond (.t 31) (.skip) (.exit 2))
     (.seq (.block 3 (.seq (.region [⟨(some 32), .move (.t 30), none, false⟩,
        ⟨(some 5), .move (.t 32), none, false⟩])
      (.seq (.region [⟨(some 34), .move (.t 0), none, false⟩,
        ⟨(some 35), .move (.t 0), none, false⟩,
        ⟨(some 36), .nilck (.t 35), none, false⟩,
        ⟨(some 37), .faddr 2 (.t 36), none, false⟩,
        ⟨(some 38), .load false 1 (.t 37), none, false⟩,
        ⟨(some 39), .move (.t 3), none, false⟩,
        ⟨(some 40), .iaddr 2 (.t 38) (.t 39), none, false⟩,
        ⟨(some 41), .load true 2 (.t 40), none, false⟩,
        ⟨(some 42), .move (.t 5), none, false⟩,
        ⟨(some 43), .callI 27 [(.t 34), (.t 41), (.t 42)], none, false⟩,
        ⟨(some 33), .move (.t 43), none, false⟩,
        ⟨(some 44), .ext 0 (.t 33), none, false⟩,
        ⟨(some 45), .ext 1 (.t 33), none, false⟩,
        ⟨(some 6), .move (.t 44), none, false⟩,
        ⟨(some 7), .move (.t 45), none, false⟩])
      (.block 4 (.seq (.region [⟨(some 68), .move (.t 6), none, false⟩,
         ⟨(some 69), .bin .eql (.t 68) (.c (.int .u32 0)), none, false⟩,
         ⟨(some 67), .move (.t 69), none, false⟩])
       (.cond (.t 67) (.region [⟨(some 70), .move (.t 5), none, false⟩,
          ⟨(some 71), .iaddrA 256 1 (.t 4) (.t 70), none, false⟩,
          ⟨none, .store 1 (.t 71) (.c (.int .i64 (-2))), none, false⟩]) (.seq (.region [⟨(some 73), .move (.t 7), none, false⟩,
          ⟨(some 72), .move (.t 73), none, false⟩])
        (.cond (.t 72) (.region [⟨(some 74), .move (.t 5), none, false⟩,
           ⟨(some 75), .iaddrA 256 1 (.t 4) (.t 74), none, false⟩,
           ⟨none, .store 1 (.t 75) (.c (.int .i64 (-1))), none, false⟩]) (.seq (.region [⟨(some 47), .move (.t 0), none, false⟩,
           ⟨(some 48), .move (.t 0), none, false⟩,
           ⟨(some 49), .nilck (.t 48), none, false⟩,
           ⟨(some 50), .faddr 2 (.t 49), none, false⟩,
           ⟨(some 51), .load false 1 (.t 50), none, false⟩,
           ⟨(some 52), .move (.t 3), none, false⟩,
           ⟨(some 53), .iaddr 2 (.t 51) (.t 52), none, false⟩,
           ⟨(some 54), .faddr 0 (.t 53), none, false⟩,
           ⟨(some 55), .load false 1 (.t 54), none, false⟩,
           ⟨(some 56), .bin .add (.t 55) (.c (.int .i64 1)), none, false⟩,
           ⟨(some 57), .move (.t 6), none, false⟩,
           ⟨(some 58), .build [(.int .i64 0), (.int .u32 0)] [(0, 1, (.t 56)), (1, 1, (.t 57))], none, false⟩,
           ⟨(some 59), .callI 26 [(.t 47), (.t 58)], none, false⟩,
           ⟨(some 46), .move (.t 59), none, false⟩,
           ⟨(some 60), .ext 0 (.t 46), none, false⟩,
           ⟨(some 61), .ext 1 (.t 46), none, false⟩,
           ⟨(some 8), .move (.t 60), none, false⟩,
           ⟨(some 9), .move (.t 61), none, false⟩])
         (.seq (.seq (.region [⟨(some 62), .move (.t 9), none, false⟩,
           ⟨(some 63), .un .not (.t 62), none, false⟩])
         (.cond (.t 63) (.seq (.region [⟨(some 2), .move (.c (.bool false)), none, false⟩])
          (.ret)) (.skip)))
         (.region [⟨(some 64), .move (.t 5), none, false⟩,
           ⟨(some 65), .move (.t 8), none, false⟩,
           ⟨(some 66), .iaddrA 256 1 (.t 4) (.t 64), none, false⟩,
           ⟨none, .store 1 (.t 66) (.t 65), none, false⟩])))))))))))
     (.region [⟨(some 76), .bin .add (.t 30) (.c (.int .i64 1)), none, false⟩,
       ⟨(some 30), .move (.t 76), none, false⟩]))))
def b_auto_builder_walk_l0 : ACode :=
    (.seq (.seq (.region [⟨(some 21), .move (.t 3), none, false⟩,
       ⟨(some 22), .move (.t 0), none, false⟩,
       ⟨(some 23), .nilck (.t 22), none, false⟩,
       ⟨(some 24), .faddr 2 (.t 23), none, false⟩,
       ⟨(some 25), .load false 1 (.t 24), none, false⟩,
       ⟨(some 26), .len 0 (.t 25), none, false⟩,
       ⟨(some 27), .bin .lss (.t 21) (.t 26), none, false⟩])
     (.cond (.t 27) (.skip) (.exit 0)))
     (.seq (.block 1 (.seq (.region [⟨(some 4), .alloc (List.replicate 256 (.int .i64 0)), none, false⟩])
      (.seq (.seq (.region [⟨(some 30), .move (.c (.int .i64 0)), none, false⟩])
      (.block 2 (.loop [0, 3, 4, 30] b_auto_builder_walk_l1)))
      (.region [⟨(some 77), .move (.t 0), none, false⟩,
        ⟨(some 78), .move (.t 0), none, false⟩,
        ⟨(some 79), .nilck (.t 78), none, false⟩,
        ⟨(some 80), .faddr 3 (.t 79), none, false⟩,
        ⟨(some 81), .load false 1 (.t 80), none, false⟩,
        ⟨(some 82), .load true 256 (.t 4), none, false⟩,
        ⟨(some 83), .bslice .lit 256 true 1 (List.replicate 256 (.int .i64 0)) [(0, (.t 82))], none, false⟩,
        ⟨(some 84), .append true .own 256 true 2048 (.t 81) (.t 83), none, false⟩,
        ⟨(some 85), .nilck (.t 77), none, false⟩,
        ⟨(some 86), .faddr 3 (.t 85), none, false⟩,
        ⟨none, .store 1 (.t 86) (.t 84), none, false⟩]))))
     (.region [⟨(some 28), .move (.t 3), none, false⟩,
       ⟨(some 29), .bin .add (.t 28) (.c (.int .i64 1)), none, false⟩,
       ⟨(some 3), .move (.t 29), none, false⟩])))
/-- (*leadtrail/auto.builder).walk -/
def b_auto_builder_walk : AFn := ⟨1, [.tmp 2],
    (.seq (.region [⟨(some 2), .move (.c (.bool false)), none, false⟩])
     (.seq (.region [⟨(some 10), .move (.t 0), none, false⟩,
       ⟨(some 11), .move (.t 0), none, false⟩,
       ⟨(some 12), .nilck (.t 11), none, false⟩,
       ⟨(some 13), .faddr 0 (.t 12), none, false⟩,
       ⟨(some 14), .faddr 0 (.t 13), none, false⟩,
       ⟨(some 15), .load false 1 (.t 14), none, false⟩,
       ⟨(some 16), .len 0 (.t 15), none, false⟩,
       ⟨(some 17), .bin .shl (.c (.int .u32 1)) (.t 16), none, false⟩,
       ⟨(some 18), .bin .sub (.t 17) (.c (.int .u32 1)), none, false⟩,
       ⟨(some 19), .build [(.int .i64 0), (.int .u32 0)] [(1, 1, (.t 18))], none, false⟩,
       ⟨(some 20), .callI 26 [(.t 10), (.t 19)], none, false⟩])
     (.seq (.seq (.region [⟨(some 3), .move (.c (.int .i64 0)), none, false⟩])
     (.block 0 (.loop [0, 3] b_auto_builder_walk_l0)))
     (.seq (.region [⟨(some 2), .move (.c (.bool true)), none, false⟩])
     (.ret)))))⟩
theorem ok_auto_builder_walk : okFunc Go.Proofs.Try.prog fo Go.Proofs.Try.f37 b_auto_builder_walk = true := by kernel_rfl
theorem du_auto_builder_walk : dutiesF Go.Proofs.Try.f37 b_auto_builder_walk = [] := by kernel_rfl
theorem fn_auto_builder_walk : FnOk P fo 37 b_auto_builder_walk := ⟨_, Go.Proofs.Try.func37, ok_auto_builder_walk, by rw [du_auto_builder_walk]; exact fun _ h => by cases h⟩

end Go.AM.B1

/- The abstract code of the functions that the rows Auto* reach, part 4, printed by gen_b1.py: it is that of the program, and each is what its code computes. -/
set_option linter.unusedVariables false
namespace Go.AM.B1
open Go.AM

def b_auto_builder_least_l1 : ACode :=
    (.seq (.region [⟨(some 35), .bin .lss (.t 34) (.c (.int .i64 256)), none, false⟩])
     (.seq (.cond (.t 35) (.skip) (.exit 2))
     (.seq (.block 3 (.seq (.region [⟨(some 36), .move (.t 34), none, false⟩,
        ⟨(some 37), .ixA 256 1 false (.t 33) (.t 34), none, false⟩,
        ⟨(some 6), .move (.t 36), none, false⟩,
        ⟨(some 7), .move (.t 37), none, false⟩])
      (.seq (.region [⟨(some 38), .move (.t 7), none, false⟩,
        ⟨(some 39), .bin .geq (.t 38) (.c (.int .i64 0)), none, false⟩])
      (.cond (.t 39) (.region [⟨(some 40), .move (.t 0), none, false⟩,
         ⟨(some 41), .nilck (.t 40), none, false⟩,
         ⟨(some 42), .faddr 3 (.t 41), none, false⟩,
         ⟨(some 43), .load false 1 (.t 42), none, false⟩,
         ⟨(some 44), .move (.t 5), none, false⟩,
         ⟨(some 45), .move (.t 6), none, false⟩,
         ⟨(some 46), .move (.t 3), none, false⟩,
         ⟨(some 47), .move (.t 7), none, false⟩,
         ⟨(some 48), .iaddr 1 (.t 46) (.t 47), none, false⟩,
         ⟨(some 49), .load false 1 (.t 48), none, false⟩,
         ⟨(some 50), .iaddr 256 (.t 43) (.t 44), none, false⟩,
         ⟨(some 51), .iaddrA 256 1 (.t 50) (.t 45), none, false⟩,
         ⟨none, .store 1 (.t 51) (.t 49), none, false⟩]) (.skip)))))
     (.region [⟨(some 52), .bin .add (.t 34) (.c (.int .i64 1)), none, false⟩,
       ⟨(some 34), .move (.t 52), none, false⟩]))))
def b_auto_builder_least_l0 : ACode :=
    (.seq (.seq (.region [⟨(some 23), .move (.t 5), none, false⟩,
       ⟨(some 24), .bin .geq (.t 23) (.c (.int .i64 0)), none, false⟩])
     (.cond (.t 24) (.skip) (.exit 0)))
     (.seq (.block 1 (.seq (.seq (.region [⟨(some 27), .move (.t 0), none, false⟩,
        ⟨(some 28), .nilck (.t 27), none, false⟩,
        ⟨(some 29), .faddr 3 (.t 28), none, false⟩,
        ⟨(some 30), .load false 1 (.t 29), none, false⟩,
        ⟨(some 31), .move (.t 5), none, false⟩,
        ⟨(some 32), .iaddr 256 (.t 30) (.t 31), none, false⟩,
        ⟨(some 33), .load true 256 (.t 32), none, false⟩,
        ⟨(some 34), .move (.c (.int .i64 0)), none, false⟩])
      (.block 2 (.loopG [0, 3, 4, 5, 33, 34] b_auto_builder_least_l1)))
      (.seq (.region [⟨(some 54), .move (.t 4), none, false⟩,
        ⟨(some 55), .move (.t 0), none, false⟩,
        ⟨(some 56), .nilck (.t 55), none, false⟩,
        ⟨(some 57), .faddr 3 (.t 56), none, false⟩,
        ⟨(some 58), .load false 1 (.t 57), none, false⟩,
        ⟨(some 59), .move (.t 5), none, false⟩,
        ⟨(some 60), .iaddr 256 (.t 58) (.t 59), none, false⟩,
        ⟨(some 61), .load true 256 (.t 60), none, false⟩,
        ⟨(some 62), .lookup (.row (List.replicate 256 1)) (.int .i64 0) true (.t 54) (.t 61), none, false⟩,
        ⟨(some 53), .move (.t 62), none, false⟩,
        ⟨(some 63), .ext 0 (.t 53), none, false⟩,
        ⟨(some 64), .ext 1 (.t 53), none, false⟩,
        ⟨(some 8), .move (.t 63), none, false⟩,
        ⟨(some 9), .move (.t 64), none, false⟩])
      (.seq (.seq (.region [⟨(some 65), .move (.t 9), none, false⟩,
        ⟨(some 66), .un .not (.t 65), none, false⟩])
      (.cond (.t 66) (.seq (.region [⟨(some 67), .move (.t 5), none, false⟩,
         ⟨(some 8), .move (.t 67), none, false⟩])
       (.region [⟨(some 68), .move (.t 4), none, false⟩,
         ⟨(some 69), .move (.t 0), none, false⟩,
         ⟨(some 70), .nilck (.t 69), none, false⟩,
         ⟨(some 71), .faddr 3 (.t 70), none, false⟩,
         ⟨(some 72), .load false 1 (.t 71), none, false⟩,
         ⟨(some 73), .move (.t 5), none, false⟩,
         ⟨(some 74), .iaddr 256 (.t 72) (.t 73), none, false⟩,
         ⟨(some 75), .load true 256 (.t 74), none, false⟩,
         ⟨(some 76), .move (.t 5), none, false⟩,
         ⟨none, .mapset (.row (List.replicate 256 1)) (.t 68) (.t 75) (.t 76), none, false⟩])) (.skip)))
      (.region [⟨(some 77), .move (.t 3), none, false⟩,
        ⟨(some 78), .move (.t 5), none, false⟩,
        ⟨(some 79), .move (.t 8), none, false⟩,
        ⟨(some 80), .iaddr 1 (.t 77) (.t 78), none, false⟩,
        ⟨none, .store 1 (.t 80) (.t 79), none, false⟩])))))
     (.region [⟨(some 25), .move (.t 5), none, false⟩,
       ⟨(some 26), .bin .sub (.t 25) (.c (.int .i64 1)), none, false⟩,
       ⟨(some 5), .move (.t 26), none, false⟩])))
/-- (*leadtrail/auto.builder).least -/
def b_auto_builder_least : AFn := ⟨1, [.tmp 2],
    (.seq (.region [⟨(some 2), .move (.c .nils), none, false⟩])
     (.seq (.region [⟨(some 10), .move (.t 0), none, false⟩,
       ⟨(some 11), .nilck (.t 10), none, false⟩,
       ⟨(some 12), .faddr 2 (.t 11), none, false⟩,
       ⟨(some 13), .load false 1 (.t 12), none, false⟩,
       ⟨(some 14), .len 0 (.t 13), none, false⟩,
       ⟨(some 15), .mkslice .own 1 false [(.int .i64 0)] 8 (.t 14) (.t 14), none, false⟩,
       ⟨(some 3), .move (.t 15), none, false⟩])
     (.seq (.region [⟨(some 16), .mkmap, none, false⟩,
       ⟨(some 4), .move (.t 16), none, false⟩])
     (.seq (.seq (.region [⟨(some 17), .move (.t 0), none, false⟩,
       ⟨(some 18), .nilck (.t 17), none, false⟩,
       ⟨(some 19), .faddr 2 (.t 18), none, false⟩,
       ⟨(some 20), .load false 1 (.t 19), none, false⟩,
       ⟨(some 21), .len 0 (.t 20), none, false⟩,
       ⟨(some 22), .bin .sub (.t 21) (.c (.int .i64 1)), none, false⟩,
       ⟨(some 5), .move (.t 22), none, false⟩])
     (.block 0 (.loopG [0, 3, 4, 5] b_auto_builder_least_l0)))
     (.seq (.region [⟨(some 81), .move (.t 3), none, false⟩,
       ⟨(some 2), .move (.t 81), none, false⟩])
     (.ret))))))⟩
theorem ok_auto_builder_least : okFunc Go.Proofs.Try.prog fo Go.Proofs.Try.f38 b_auto_builder_least = true := by kernel_rfl
theorem du_auto_builder_least : dutiesF Go.Proofs.Try.f38 b_auto_builder_least = [] := by kernel_rfl
theorem fn_auto_builder_least : FnOk P fo 38 b_auto_builder_least := ⟨_, Go.Proofs.Try.func38, ok_auto_builder_least, by rw [du_auto_builder_least]; exact fun _ h => by cases h⟩

def b_auto_edges_l0 : ACode :=
    (.seq (.region [⟨(some 9), .bin .lss (.t 8) (.c (.int .i64 256)), none, false⟩])
     (.seq (.cond (.t 9) (.skip) (.exit 0))
     (.seq (.block 1 (.seq (.region [⟨(some 10), .move (.t 8), none, false⟩,
        ⟨(some 11), .ixA 256 1 false (.t 7) (.t 8), none, false⟩,
        ⟨(some 4), .move (.t 10), none, false⟩,
        ⟨(some 5), .move (.t 11), none, false⟩])
      (.seq (.seq (.region [⟨(some 12), .move (.t 5), none, false⟩,
        ⟨(some 13), .bin .eql (.t 12) (.c (.int .i64 (-2))), none, false⟩])
      (.cond (.t 13) (.exit 1) (.skip)))
      (.seq (.seq (.region [⟨(some 14), .move (.t 3), none, false⟩,
        ⟨(some 15), .len 0 (.t 14), none, false⟩,
        ⟨(some 6), .move (.t 15), none, false⟩])
      (.seq (.region [⟨(some 16), .move (.t 6), none, false⟩,
        ⟨(some 17), .bin .gtr (.t 16) (.c (.int .i64 0)), none, false⟩,
        ⟨(some 18), .move (.t 17), none, false⟩,
        ⟨(some 19), .move (.t 3), (some (18, true)), false⟩,
        ⟨(some 20), .move (.t 6), (some (18, true)), false⟩,
        ⟨(some 21), .bin .sub (.t 20) (.c (.int .i64 1)), (some (18, true)), false⟩,
        ⟨(some 22), .iaddr 3 (.t 19) (.t 21), (some (18, true)), false⟩,
        ⟨(some 23), .faddr 2 (.t 22), (some (18, true)), false⟩,
        ⟨(some 24), .load false 1 (.t 23), (some (18, true)), false⟩,
        ⟨(some 25), .move (.t 5), (some (18, true)), false⟩,
        ⟨(some 26), .bin .eql (.t 24) (.t 25), (some (18, true)), false⟩,
        ⟨(some 27), .pick (.t 18) (.t 26) (.c (.bool false)), none, false⟩,
        ⟨(some 28), .move (.t 27), none, false⟩,
        ⟨(some 29), .move (.t 3), (some (28, true)), false⟩,
        ⟨(some 30), .move (.t 6), (some (28, true)), false⟩,
        ⟨(some 31), .bin .sub (.t 30) (.c (.int .i64 1)), (some (28, true)), false⟩,
        ⟨(some 32), .iaddr 3 (.t 29) (.t 31), (some (28, true)), false⟩,
        ⟨(some 33), .faddr 1 (.t 32), (some (28, true)), false⟩,
        ⟨(some 34), .load false 1 (.t 33), (some (28, true)), false⟩,
        ⟨(some 35), .move (.t 4), (some (28, true)), false⟩,
        ⟨(some 36), .bin .sub (.t 35) (.c (.int .i64 1)), (some (28, true)), false⟩,
        ⟨(some 37), .bin .eql (.t 34) (.t 36), (some (28, true)), false⟩,
        ⟨(some 38), .pick (.t 28) (.t 37) (.c (.bool false)), none, false⟩])
      (.cond (.t 38) (.seq (.region [⟨(some 39), .move (.t 3), none, false⟩,
         ⟨(some 40), .move (.t 6), none, false⟩,
         ⟨(some 41), .bin .sub (.t 40) (.c (.int .i64 1)), none, false⟩,
         ⟨(some 42), .move (.t 4), none, false⟩,
         ⟨(some 43), .iaddr 3 (.t 39) (.t 41), none, false⟩,
         ⟨(some 44), .faddr 1 (.t 43), none, false⟩,
         ⟨none, .store 1 (.t 44) (.t 42), none, false⟩])
       (.exit 1)) (.skip))))
      (.region [⟨(some 45), .move (.t 3), none, false⟩,
        ⟨(some 46), .move (.t 4), none, false⟩,
        ⟨(some 47), .move (.t 4), none, false⟩,
        ⟨(some 48), .move (.t 5), none, false⟩,
        ⟨(some 49), .build [(.int .i64 0), (.int .i64 0), (.int .i64 0)] [(0, 1, (.t 46)), (1, 1, (.t 47)), (2, 1, (.t 48))], none, false⟩,
        ⟨(some 50), .bslice .lit 3 true 1 [(.int .i64 0), (.int .i64 0), (.int .i64 0)] [(0, (.t 49))], none, false⟩,
        ⟨(some 51), .append true .own 3 true 24 (.t 45) (.t 50), none, false⟩,
        ⟨(some 3), .move (.t 51), none, false⟩])))))
     (.region [⟨(some 52), .bin .add (.t 8) (.c (.int .i64 1)), none, false⟩,
       ⟨(some 8), .move (.t 52), none, false⟩]))))
/-- leadtrail/auto.edges -/
def b_auto_edges : AFn := ⟨1, [.tmp 2],
    (.seq (.region [⟨(some 1), .boxR 256 (.t 0), none, false⟩,
       ⟨(some 2), .move (.c .nils), none, false⟩])
     (.seq (.region [⟨(some 3), .move (.c .nils), none, false⟩])
     (.ghost (.mkown 3 3 true) (.seq (.seq (.region [⟨(some 7), .load true 256 (.t 1), none, true⟩,
       ⟨(some 8), .move (.c (.int .i64 0)), none, false⟩])
     (.block 0 (.loopG [3, 7, 8] b_auto_edges_l0)))
     (.seq (.region [⟨(some 53), .move (.t 3), none, false⟩,
       ⟨(some 2), .move (.t 53), none, false⟩])
     (.ret))))))⟩
theorem ok_auto_edges : okFunc Go.Proofs.Try.prog fo Go.Proofs.Try.f62 b_auto_edges = true := by kernel_rfl
theorem du_auto_edges : dutiesF Go.Proofs.Try.f62 b_auto_edges = [] := by kernel_rfl
theorem fn_auto_edges : FnOk P fo 62 b_auto_edges := ⟨_, Go.Proofs.Try.func62, ok_auto_edges, by rw [du_auto_edges]; exact fun _ h => by cases h⟩
def F_auto_edges : List PV → Option PV := pureF (fun _ => none) b_auto_edges
theorem p_auto_edges : PureFn P 62 F_auto_edges := pureF_ok noTable fn_auto_edges

def b_auto_builder_told_l1 : ACode :=
    (.seq (.region [⟨(some 33), .bin .lss (.t 32) (.c (.int .i64 256)), none, false⟩])
     (.seq (.cond (.t 33) (.skip) (.exit 2))
     (.seq (.block 3 (.seq (.region [⟨(some 34), .move (.t 32), none, false⟩,
        ⟨(some 35), .ixA 256 1 false (.t 31) (.t 32), none, false⟩,
        ⟨(some 8), .move (.t 34), none, false⟩,
        ⟨(some 9), .move (.t 35), none, false⟩])
      (.seq (.seq (.region [⟨(some 36), .move (.t 9), none, false⟩,
        ⟨(some 37), .bin .lss (.t 36) (.c (.int .i64 0)), none, false⟩])
      (.cond (.t 37) (.exit 3) (.skip)))
      (.seq (.region [⟨(some 39), .move (.t 3), none, false⟩,
        ⟨(some 40), .move (.t 9), none, false⟩,
        ⟨(some 41), .lookup (.one 1) (.int .i64 0) true (.t 39) (.t 40), none, false⟩,
        ⟨(some 38), .move (.t 41), none, false⟩,
        ⟨(some 42), .ext 0 (.t 38), none, false⟩,
        ⟨(some 43), .ext 1 (.t 38), none, false⟩,
        ⟨(some 10), .move (.t 42), none, false⟩,
        ⟨(some 11), .move (.t 43), none, false⟩])
      (.seq (.seq (.region [⟨(some 44), .move (.t 11), none, false⟩,
        ⟨(some 45), .un .not (.t 44), none, false⟩])
      (.cond (.t 45) (.seq (.region [⟨(some 46), .move (.t 4), none, false⟩,
         ⟨(some 47), .len 0 (.t 46), none, false⟩,
         ⟨(some 10), .move (.t 47), none, false⟩])
       (.seq (.region [⟨(some 48), .move (.t 3), none, false⟩,
         ⟨(some 49), .move (.t 9), none, false⟩,
         ⟨(some 50), .move (.t 10), none, false⟩,
         ⟨none, .mapset (.one 1) (.t 48) (.t 49) (.t 50), none, false⟩])
       (.region [⟨(some 51), .move (.t 4), none, false⟩,
         ⟨(some 52), .move (.t 9), none, false⟩,
         ⟨(some 53), .bslice .lit 1 false 1 [(.int .i64 0)] [(0, (.t 52))], none, false⟩,
         ⟨(some 54), .append false .uq 1 false 8 (.t 51) (.t 53), none, false⟩,
         ⟨(some 4), .move (.t 54), none, false⟩]))) (.skip)))
      (.region [⟨(some 55), .move (.t 8), none, false⟩,
        ⟨(some 56), .move (.t 10), none, false⟩,
        ⟨(some 57), .iaddrA 256 1 (.t 7) (.t 55), none, false⟩,
        ⟨none, .store 1 (.t 57) (.t 56), none, false⟩]))))))
     (.region [⟨(some 58), .bin .add (.t 32) (.c (.int .i64 1)), none, false⟩,
       ⟨(some 32), .move (.t 58), none, false⟩]))))
def b_auto_builder_told_l0 : ACode :=
    (.seq (.seq (.region [⟨(some 15), .move (.t 6), none, false⟩,
       ⟨(some 16), .move (.t 4), none, false⟩,
       ⟨(some 17), .len 0 (.t 16), none, false⟩,
       ⟨(some 18), .bin .lss (.t 15) (.t 17), none, false⟩])
     (.cond (.t 18) (.skip) (.exit 0)))
     (.seq (.block 1 (.seq (.region [⟨(some 21), .move (.t 0), none, false⟩,
        ⟨(some 22), .nilck (.t 21), none, false⟩,
        ⟨(some 23), .faddr 3 (.t 22), none, false⟩,
        ⟨(some 24), .load false 1 (.t 23), none, false⟩,
        ⟨(some 25), .move (.t 4), none, false⟩,
        ⟨(some 26), .move (.t 6), none, false⟩,
        ⟨(some 27), .iaddr 1 (.t 25) (.t 26), none, false⟩,
        ⟨(some 28), .load false 1 (.t 27), none, false⟩,
        ⟨(some 29), .iaddr 256 (.t 24) (.t 28), none, false⟩,
        ⟨(some 30), .load true 256 (.t 29), none, false⟩,
        ⟨(some 7), .alloc (List.replicate 256 (.int .i64 0)), none, false⟩,
        ⟨none, .store 256 (.t 7) (.t 30), none, false⟩])
      (.seq (.seq (.region [⟨(some 31), .load true 256 (.t 7), none, false⟩,
        ⟨(some 32), .move (.c (.int .i64 0)), none, false⟩])
      (.block 2 (.loopG [0, 2, 3, 4, 5, 6, 7, 31, 32] b_auto_builder_told_l1)))
      (.region [⟨(some 59), .faddr 0 (.t 5), none, false⟩,
        ⟨(some 60), .load false 1 (.t 59), none, false⟩,
        ⟨(some 61), .load true 256 (.t 7), none, false⟩,
        ⟨(some 62), .callP F_auto_edges [(.t 61)], none, false⟩,
        ⟨(some 63), .bslice .lit 1 false 1 [.nils] [(0, (.t 62))], none, false⟩,
        ⟨(some 64), .append false .uq 1 false 24 (.t 60) (.t 63), none, false⟩,
        ⟨(some 65), .faddr 0 (.t 5), none, false⟩,
        ⟨none, .store 1 (.t 65) (.t 64), none, false⟩]))))
     (.region [⟨(some 19), .move (.t 6), none, false⟩,
       ⟨(some 20), .bin .add (.t 19) (.c (.int .i64 1)), none, false⟩,
       ⟨(some 6), .move (.t 20), none, false⟩])))
/-- (*leadtrail/auto.builder).told -/
def b_auto_builder_told : AFn := ⟨1, [.cell 2 true 1],
    (.seq (.region [⟨(some 2), .alloc [.nils], none, false⟩])
     (.seq (.region [⟨(some 12), .mkmap, none, false⟩,
       ⟨none, .mapset (.one 1) (.t 12) (.c (.int .i64 0)) (.c (.int .i64 0)), none, false⟩,
       ⟨(some 13), .move (.t 12), none, false⟩,
       ⟨(some 3), .move (.t 13), none, false⟩])
     (.seq (.region [⟨(some 14), .bslice .uq 1 false 1 [(.int .i64 0)] [(0, (.c (.int .i64 0)))], none, false⟩,
       ⟨(some 4), .move (.t 14), none, false⟩])
     (.seq (.region [⟨(some 5), .alloc [.nils], none, false⟩])
     (.ghost (.mkuqC 5 0 1) (.seq (.seq (.region [⟨(some 6), .move (.c (.int .i64 0)), none, false⟩])
     (.block 0 (.loopG [0, 2, 3, 4, 5, 6] b_auto_builder_told_l0)))
     (.seq (.region [⟨(some 66), .load true 1 (.t 5), none, false⟩,
       ⟨none, .store 1 (.t 2) (.t 66), none, false⟩])
     (.ret))))))))⟩
theorem ok_auto_builder_told : okFunc Go.Proofs.Try.prog fo Go.Proofs.Try.f39 b_auto_builder_told = true := by kernel_rfl
theorem du_auto_builder_told : dutiesF Go.Proofs.Try.f39 b_auto_builder_told = [(62, F_auto_edges)] := by kernel_rfl
theorem fn_auto_builder_told : FnOk P fo 39 b_auto_builder_told := ⟨_, Go.Proofs.Try.func39, ok_auto_builder_told, by rw [du_auto_builder_told]; exact List.forall_mem_cons.2 ⟨p_auto_edges, fun _ h => by cases h⟩⟩

/-- leadtrail/auto.Build -/
def b_auto_Build : AFn := ⟨1, [.cell 2 true 1, .tmp 3],
    (.seq (.region [⟨(some 1), .boxR 1 (.t 0), none, false⟩,
       ⟨(some 2), .alloc [.nils], none, false⟩,
       ⟨(some 3), .move (.c (.int .i64 0)), none, false⟩])
     (.seq (.region [⟨(some 8), .load true 1 (.t 1), none, true⟩,
       ⟨(some 9), .callP F_clash_Prefix [(.t 8)], none, false⟩,
       ⟨(some 7), .move (.t 9), none, false⟩,
       ⟨(some 10), .ext 0 (.t 7), none, false⟩,
       ⟨(some 11), .ext 1 (.t 7), none, false⟩,
       ⟨(some 4), .alloc [(.bool false), (.int .i64 0), (.int .i64 0)], none, false⟩,
       ⟨none, .store 3 (.t 4) (.t 10), none, false⟩,
       ⟨(some 5), .move (.t 11), none, false⟩])
     (.seq (.block 0 (.seq (.region [⟨(some 13), .move (.t 5), none, false⟩,
        ⟨(some 14), .bin .neq (.t 13) (.c (.int .i64 0)), none, false⟩,
        ⟨(some 12), .move (.t 14), none, false⟩])
      (.cond (.t 12) (.seq (.region [⟨(some 15), .build [.nils] [], none, false⟩,
         ⟨(some 16), .move (.t 5), none, false⟩,
         ⟨none, .store 1 (.t 2) (.t 15), none, false⟩,
         ⟨(some 3), .move (.t 16), none, false⟩])
       (.ret)) (.seq (.region [⟨(some 18), .faddr 0 (.t 4), none, false⟩,
         ⟨(some 19), .load false 1 (.t 18), none, false⟩,
         ⟨(some 20), .un .not (.t 19), none, false⟩,
         ⟨(some 17), .move (.t 20), none, false⟩])
       (.cond (.t 17) (.seq (.region [⟨(some 21), .build [.nils] [], none, false⟩,
          ⟨none, .store 1 (.t 2) (.t 21), none, false⟩,
          ⟨(some 3), .move (.c (.int .i64 110)), none, false⟩])
        (.ret)) (.skip))))))
     (.seq (.region [⟨(some 22), .load true 1 (.t 1), none, true⟩,
       ⟨(some 23), .callP F_scheme_Copy [(.t 22)], none, false⟩,
       ⟨(some 24), .mkmap, none, false⟩,
       ⟨(some 25), .build [.nils, .nilm, .nils, .nils] [(0, 1, (.t 23)), (1, 1, (.t 24))], none, false⟩,
       ⟨(some 26), .box 4 (.t 25), none, false⟩,
       ⟨(some 6), .move (.t 26), none, false⟩])
     (.ghost (.mkuqC 26 2 2) (.ghost (.mkownC 26 3 256 true) (.seq (.seq (.region [⟨(some 27), .move (.t 6), none, false⟩,
       ⟨(some 28), .callI 28 [(.t 27)], none, false⟩,
       ⟨(some 29), .un .not (.t 28), none, false⟩])
     (.cond (.t 29) (.seq (.region [⟨(some 30), .build [.nils] [], none, false⟩,
        ⟨none, .store 1 (.t 2) (.t 30), none, false⟩,
        ⟨(some 3), .move (.c (.int .i64 130)), none, false⟩])
      (.ret)) (.skip)))
     (.seq (.region [⟨(some 31), .move (.t 6), none, false⟩,
       ⟨(some 32), .callI 29 [(.t 31)], none, false⟩])
     (.seq (.region [⟨(some 33), .move (.t 6), none, false⟩,
       ⟨(some 34), .callI 30 [(.t 33)], none, false⟩,
       ⟨none, .store 1 (.t 2) (.t 34), none, false⟩,
       ⟨(some 3), .move (.c (.int .i64 0)), none, false⟩])
     (.ret))))))))))⟩
theorem ok_auto_Build : okFunc Go.Proofs.Try.prog fo Go.Proofs.Try.f14 b_auto_Build = true := by kernel_rfl
theorem du_auto_Build : dutiesF Go.Proofs.Try.f14 b_auto_Build = [(35, F_clash_Prefix), (36, F_scheme_Copy)] := by kernel_rfl
theorem fn_auto_Build : FnOk P fo 14 b_auto_Build := ⟨_, Go.Proofs.Try.func14, ok_auto_Build, by rw [du_auto_Build]; exact List.forall_mem_cons.2 ⟨p_clash_Prefix, List.forall_mem_cons.2 ⟨p_scheme_Copy, fun _ h => by cases h⟩⟩⟩
def t_auto_Build : Nat → Option AFn
  | 26 => some b_auto_builder_met
  | 27 => some b_auto_builder_behind
  | 28 => some b_auto_builder_walk
  | 29 => some b_auto_builder_least
  | 30 => some b_auto_builder_told
  | _ => none
theorem tok_auto_Build : TableOk P fo t_auto_Build := by
  intro ix af h
  unfold t_auto_Build at h
  split at h
  · injection h with h; subst h; exact fn_auto_builder_met
  · injection h with h; subst h; exact fn_auto_builder_behind
  · injection h with h; subst h; exact fn_auto_builder_walk
  · injection h with h; subst h; exact fn_auto_builder_least
  · injection h with h; subst h; exact fn_auto_builder_told
  · cases h
def F_auto_Build : List PV → Option PV := pureF t_auto_Build b_auto_Build
theorem p_auto_Build : PureFn P 14 F_auto_Build := pureF_ok tok_auto_Build fn_auto_Build

def b_leadtrailref13_Same_l1 : ACode :=
    (.seq (.seq (.region [⟨(some 34), .move (.t 6), none, false⟩,
       ⟨(some 35), .faddr 0 (.t 2), none, true⟩,
       ⟨(some 36), .load false 1 (.t 35), none, true⟩,
       ⟨(some 37), .move (.t 5), none, false⟩,
       ⟨(some 38), .iaddr 1 (.t 36) (.t 37), none, false⟩,
       ⟨(some 39), .load false 1 (.t 38), none, false⟩,
       ⟨(some 40), .len 0 (.t 39), none, false⟩,
       ⟨(some 41), .bin .lss (.t 34) (.t 40), none, false⟩])
     (.cond (.t 41) (.skip) (.exit 2)))
     (.seq (.block 3 (.seq (.region [⟨(some 44), .faddr 0 (.t 2), none, true⟩,
        ⟨(some 45), .load false 1 (.t 44), none, true⟩,
        ⟨(some 46), .move (.t 5), none, false⟩,
        ⟨(some 47), .iaddr 1 (.t 45) (.t 46), none, true⟩,
        ⟨(some 48), .load false 1 (.t 47), none, true⟩,
        ⟨(some 49), .move (.t 6), none, false⟩,
        ⟨(some 50), .iaddr 3 (.t 48) (.t 49), none, true⟩,
        ⟨(some 51), .load true 3 (.t 50), none, true⟩,
        ⟨(some 52), .faddr 0 (.t 3), none, true⟩,
        ⟨(some 53), .load false 1 (.t 52), none, true⟩,
        ⟨(some 54), .move (.t 5), none, false⟩,
        ⟨(some 55), .iaddr 1 (.t 53) (.t 54), none, true⟩,
        ⟨(some 56), .load false 1 (.t 55), none, true⟩,
        ⟨(some 57), .move (.t 6), none, false⟩,
        ⟨(some 58), .iaddr 3 (.t 56) (.t 57), none, true⟩,
        ⟨(some 59), .load true 3 (.t 58), none, true⟩,
        ⟨(some 60), .eqR (.row [1, 1, 1]) true (.t 51) (.t 59), none, false⟩])
      (.cond (.t 60) (.seq (.region [⟨(some 4), .move (.c (.bool false)), none, false⟩])
       (.ret)) (.skip))))
     (.region [⟨(some 42), .move (.t 6), none, false⟩,
       ⟨(some 43), .bin .add (.t 42) (.c (.int .i64 1)), none, false⟩,
       ⟨(some 6), .move (.t 43), none, false⟩])))
def b_leadtrailref13_Same_l0 : ACode :=
    (.seq (.seq (.region [⟨(some 14), .move (.t 5), none, false⟩,
       ⟨(some 15), .faddr 0 (.t 2), none, true⟩,
       ⟨(some 16), .load false 1 (.t 15), none, true⟩,
       ⟨(some 17), .len 0 (.t 16), none, false⟩,
       ⟨(some 18), .bin .lss (.t 14) (.t 17), none, false⟩])
     (.cond (.t 18) (.skip) (.exit 0)))
     (.seq (.block 1 (.seq (.seq (.region [⟨(some 21), .faddr 0 (.t 2), none, true⟩,
        ⟨(some 22), .load false 1 (.t 21), none, true⟩,
        ⟨(some 23), .move (.t 5), none, false⟩,
        ⟨(some 24), .iaddr 1 (.t 22) (.t 23), none, true⟩,
        ⟨(some 25), .load false 1 (.t 24), none, true⟩,
        ⟨(some 26), .len 0 (.t 25), none, true⟩,
        ⟨(some 27), .faddr 0 (.t 3), none, true⟩,
        ⟨(some 28), .load false 1 (.t 27), none, true⟩,
        ⟨(some 29), .move (.t 5), none, false⟩,
        ⟨(some 30), .iaddr 1 (.t 28) (.t 29), none, true⟩,
        ⟨(some 31), .load false 1 (.t 30), none, true⟩,
        ⟨(some 32), .len 0 (.t 31), none, true⟩,
        ⟨(some 33), .bin .neq (.t 26) (.t 32), none, false⟩])
      (.cond (.t 33) (.seq (.region [⟨(some 4), .move (.c (.bool false)), none, false⟩])
       (.ret)) (.skip)))
      (.seq (.region [⟨(some 6), .move (.c (.int .i64 0)), none, false⟩])
      (.block 2 (.loop [2, 3, 5, 6] b_leadtrailref13_Same_l1)))))
     (.region [⟨(some 19), .move (.t 5), none, false⟩,
       ⟨(some 20), .bin .add (.t 19) (.c (.int .i64 1)), none, false⟩,
       ⟨(some 5), .move (.t 20), none, false⟩])))
/-- leadtrail/leadtrailref13.Same -/
def b_leadtrailref13_Same : AFn := ⟨2, [.tmp 4],
    (.seq (.region [⟨(some 2), .boxR 1 (.t 0), none, false⟩,
       ⟨(some 3), .boxR 1 (.t 1), none, false⟩,
       ⟨(some 4), .move (.c (.bool false)), none, false⟩])
     (.seq (.seq (.region [⟨(some 7), .faddr 0 (.t 2), none, true⟩,
       ⟨(some 8), .load false 1 (.t 7), none, true⟩,
       ⟨(some 9), .len 0 (.t 8), none, false⟩,
       ⟨(some 10), .faddr 0 (.t 3), none, true⟩,
       ⟨(some 11), .load false 1 (.t 10), none, true⟩,
       ⟨(some 12), .len 0 (.t 11), none, false⟩,
       ⟨(some 13), .bin .neq (.t 9) (.t 12), none, false⟩])
     (.cond (.t 13) (.seq (.region [⟨(some 4), .move (.c (.bool false)), none, false⟩])
      (.ret)) (.skip)))
     (.seq (.seq (.region [⟨(some 5), .move (.c (.int .i64 0)), none, false⟩])
     (.block 0 (.loop [2, 3, 5] b_leadtrailref13_Same_l0)))
     (.seq (.region [⟨(some 4), .move (.c (.bool true)), none, false⟩])
     (.ret)))))⟩
theorem ok_leadtrailref13_Same : okFunc Go.Proofs.Try.prog fo Go.Proofs.Try.f16 b_leadtrailref13_Same = true := by kernel_rfl
theorem du_leadtrailref13_Same : dutiesF Go.Proofs.Try.f16 b_leadtrailref13_Same = [] := by kernel_rfl
theorem fn_leadtrailref13_Same : FnOk P fo 16 b_leadtrailref13_Same := ⟨_, Go.Proofs.Try.func16, ok_leadtrailref13_Same, by rw [du_leadtrailref13_Same]; exact fun _ h => by cases h⟩
def F_leadtrailref13_Same : List PV → Option PV := pureF (fun _ => none) b_leadtrailref13_Same
theorem p_leadtrailref13_Same : PureFn P 16 F_leadtrailref13_Same := pureF_ok noTable fn_leadtrailref13_Same

/-- leadtrail/leadtraillaw13.fixed -/
def b_leadtraillaw13_fixed : AFn := ⟨0, [.tmp 0],
    (.seq (.region [⟨(some 0), .move (.c (.bool false)), none, false⟩])
     (.seq (.region [⟨(some 4), .callP F_leadtraillaw13_some [], none, false⟩,
       ⟨(some 5), .callP F_auto_Build [(.t 4)], none, false⟩,
       ⟨(some 3), .move (.t 5), none, false⟩,
       ⟨(some 6), .ext 0 (.t 3), none, false⟩,
       ⟨(some 7), .ext 1 (.t 3), none, false⟩,
       ⟨(some 1), .alloc [.nils], none, false⟩,
       ⟨none, .store 1 (.t 1) (.t 6), none, false⟩,
       ⟨(some 2), .move (.t 7), none, false⟩])
     (.seq (.region [⟨(some 8), .move (.t 2), none, false⟩,
       ⟨(some 9), .bin .eql (.t 8) (.c (.int .i64 0)), none, false⟩,
       ⟨(some 10), .move (.t 9), none, false⟩,
       ⟨(some 11), .load true 1 (.t 1), (some (10, true)), false⟩,
       ⟨(some 12), .build [(.int .i64 0), (.int .i64 0), (.int .i64 0)] [(0, 1, (.c (.int .i64 0))), (1, 1, (.c (.int .i64 127))), (2, 1, (.c (.int .i64 (-1))))], (some (10, true)), false⟩,
       ⟨(some 13), .build [(.int .i64 0), (.int .i64 0), (.int .i64 0)] [(0, 1, (.c (.int .i64 194))), (1, 1, (.c (.int .i64 223))), (2, 1, (.c (.int .i64 1)))], (some (10, true)), false⟩,
       ⟨(some 14), .build [(.int .i64 0), (.int .i64 0), (.int .i64 0)] [(0, 1, (.c (.int .i64 224))), (1, 1, (.c (.int .i64 224))), (2, 1, (.c (.int .i64 2)))], (some (10, true)), false⟩,
       ⟨(some 15), .bslice .lit 3 true 3 [(.int .i64 0), (.int .i64 0), (.int .i64 0)] [(0, (.t 12)), (1, (.t 13)), (2, (.t 14))], (some (10, true)), false⟩,
       ⟨(some 16), .build [(.int .i64 0), (.int .i64 0), (.int .i64 0)] [(0, 1, (.c (.int .i64 128))), (1, 1, (.c (.int .i64 191))), (2, 1, (.c (.int .i64 (-1))))], (some (10, true)), false⟩,
       ⟨(some 17), .bslice .lit 3 true 1 [(.int .i64 0), (.int .i64 0), (.int .i64 0)] [(0, (.t 16))], (some (10, true)), false⟩,
       ⟨(some 18), .build [(.int .i64 0), (.int .i64 0), (.int .i64 0)] [(0, 1, (.c (.int .i64 160))), (1, 1, (.c (.int .i64 191))), (2, 1, (.c (.int .i64 1)))], (some (10, true)), false⟩,
       ⟨(some 19), .bslice .lit 3 true 1 [(.int .i64 0), (.int .i64 0), (.int .i64 0)] [(0, (.t 18))], (some (10, true)), false⟩,
       ⟨(some 20), .bslice .lit 1 false 3 [.nils] [(0, (.t 15)), (1, (.t 17)), (2, (.t 19))], (some (10, true)), false⟩,
       ⟨(some 21), .build [.nils] [(0, 1, (.t 20))], (some (10, true)), false⟩,
       ⟨(some 22), .callP F_leadtrailref13_Same [(.t 11), (.t 21)], (some (10, true)), false⟩,
       ⟨(some 23), .pick (.t 10) (.t 22) (.c (.bool false)), none, false⟩,
       ⟨(some 0), .move (.t 23), none, false⟩])
     (.ret))))⟩
theorem ok_leadtraillaw13_fixed : okFunc Go.Proofs.Try.prog fo Go.Proofs.Try.f12 b_leadtraillaw13_fixed = true := by kernel_rfl
theorem du_leadtraillaw13_fixed : dutiesF Go.Proofs.Try.f12 b_leadtraillaw13_fixed = [(20, F_leadtraillaw13_some), (14, F_auto_Build), (16, F_leadtrailref13_Same)] := by kernel_rfl
theorem fn_leadtraillaw13_fixed : FnOk P fo 12 b_leadtraillaw13_fixed := ⟨_, Go.Proofs.Try.func12, ok_leadtraillaw13_fixed, by rw [du_leadtraillaw13_fixed]; exact List.forall_mem_cons.2 ⟨p_leadtraillaw13_some, List.forall_mem_cons.2 ⟨p_auto_Build, List.forall_mem_cons.2 ⟨p_leadtrailref13_Same, fun _ h => by cases h⟩⟩⟩⟩
def F_leadtraillaw13_fixed : List PV → Option PV := pureF (fun _ => none) b_leadtraillaw13_fixed
theorem p_leadtraillaw13_fixed : PureFn P 12 F_leadtraillaw13_fixed := pureF_ok noTable fn_leadtraillaw13_fixed

end Go.AM.B1
