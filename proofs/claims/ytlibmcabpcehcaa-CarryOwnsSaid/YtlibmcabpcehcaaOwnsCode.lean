/- The abstract code of CarryOwns, OwnBytes, and Bytes with a result that may be written: printed by gen_c1o.py. -/
import Derived.Test.YtlibmcabpcehcaaTab
set_option linter.unusedVariables false
namespace Go.AM.C1
open Go.AM

def o_carry_Carry_Bytes_l0 : ACode :=
    (.seq (.region [⟨(some 13), .bin .lss (.t 12) (.t 11), none, false⟩])
     (.seq (.cond (.t 13) (.skip) (.exit 0))
     (.seq (.block 1 (.seq (.region [⟨(some 14), .move (.t 12), none, false⟩,
        ⟨(some 4), .move (.t 14), none, false⟩])
      (.seq (.region [⟨(some 16), .move (.t 0), none, false⟩,
        ⟨(some 17), .move (.t 4), none, false⟩,
        ⟨(some 18), .callI 6 [(.t 16), (.t 17)], none, false⟩,
        ⟨(some 15), .move (.t 18), none, false⟩,
        ⟨(some 19), .ext 0 (.t 15), none, false⟩,
        ⟨(some 20), .ext 1 (.t 15), none, false⟩,
        ⟨(some 5), .move (.t 19), none, false⟩,
        ⟨(some 6), .move (.t 20), none, false⟩])
      (.region [⟨(some 21), .move (.t 3), none, false⟩,
        ⟨(some 22), .move (.t 5), none, false⟩,
        ⟨(some 23), .bslice .lit 1 false 1 [(.int .u8 0)] [(0, (.t 22))], none, false⟩,
        ⟨(some 24), .append true .own 1 false 1 (.t 21) (.t 23), none, false⟩,
        ⟨(some 3), .move (.t 24), none, false⟩]))))
     (.region [⟨(some 25), .bin .add (.t 12) (.c (.int .i64 1)), none, false⟩,
       ⟨(some 12), .move (.t 25), none, false⟩]))))
/-- (*leadtrail/carry.Carry).Bytes -/
def o_carry_Carry_Bytes : AFn := ⟨1, [.tmp 2],
    (.seq (.region [⟨(some 2), .move (.c .nils), none, false⟩])
     (.seq (.region [⟨(some 7), .move (.t 0), none, false⟩,
       ⟨(some 8), .callI 10 [(.t 7)], none, false⟩,
       ⟨(some 9), .mkslice .own 1 false [(.int .u8 0)] 1 (.c (.int .i64 0)) (.t 8), none, false⟩,
       ⟨(some 3), .move (.t 9), none, false⟩])
     (.seq (.seq (.region [⟨(some 10), .move (.t 0), none, false⟩,
       ⟨(some 11), .callI 10 [(.t 10)], none, false⟩,
       ⟨(some 12), .move (.c (.int .i64 0)), none, false⟩])
     (.block 0 (.loop [0, 3, 11, 12] o_carry_Carry_Bytes_l0)))
     (.seq (.region [⟨(some 26), .move (.t 3), none, false⟩,
       ⟨(some 2), .move (.t 26), none, false⟩])
     (.ret)))))⟩

def o_leadtrailmem_OwnBytes_l1 : ACode :=
    (.seq (.region [⟨(some 23), .bin .lss (.t 22) (.t 21), none, false⟩])
     (.seq (.cond (.t 23) (.skip) (.exit 2))
     (.seq (.block 3 (.seq (.region [⟨(some 24), .move (.t 22), none, false⟩,
        ⟨(some 6), .move (.t 24), none, false⟩])
      (.region [⟨(some 25), .move (.t 5), none, false⟩,
        ⟨(some 26), .move (.t 6), none, false⟩,
        ⟨(some 27), .move (.t 4), none, false⟩,
        ⟨(some 28), .conv .u8 (.t 27), none, false⟩,
        ⟨(some 29), .iaddr 1 (.t 25) (.t 26), none, false⟩,
        ⟨none, .store 1 (.t 29) (.t 28), none, false⟩])))
     (.region [⟨(some 30), .bin .add (.t 22) (.c (.int .i64 1)), none, false⟩,
       ⟨(some 22), .move (.t 30), none, false⟩]))))
def o_leadtrailmem_OwnBytes_l0 : ACode :=
    (.seq (.region [⟨(some 16), .bin .lss (.t 15) (.t 14), none, false⟩])
     (.seq (.cond (.t 16) (.skip) (.exit 0))
     (.seq (.block 1 (.seq (.region [⟨(some 17), .move (.t 15), none, false⟩,
        ⟨(some 18), .iaddr 1 (.t 13) (.t 15), none, false⟩,
        ⟨(some 19), .load false 1 (.t 18), none, false⟩,
        ⟨(some 4), .move (.t 17), none, false⟩,
        ⟨(some 5), .move (.t 19), none, false⟩])
      (.seq (.region [⟨(some 20), .move (.t 5), none, false⟩,
        ⟨(some 21), .len 0 (.t 20), none, false⟩,
        ⟨(some 22), .move (.c (.int .i64 0)), none, false⟩])
      (.block 2 (.loop [0, 3, 4, 5, 13, 14, 15, 21, 22] o_leadtrailmem_OwnBytes_l1)))))
     (.region [⟨(some 31), .bin .add (.t 15) (.c (.int .i64 1)), none, false⟩,
       ⟨(some 15), .move (.t 31), none, false⟩]))))
def o_leadtrailmem_OwnBytes_l3 : ACode :=
    (.seq (.seq (.region [⟨(some 39), .move (.t 9), none, false⟩,
       ⟨(some 40), .bin .lss (.t 39) (.c (.int .i64 24)), none, false⟩])
     (.cond (.t 40) (.skip) (.exit 6)))
     (.seq (.block 7 (.region [⟨(some 43), .move (.t 8), none, false⟩,
        ⟨(some 44), .move (.t 7), none, false⟩,
        ⟨(some 45), .bin .add (.t 44) (.c (.int .i64 1)), none, false⟩,
        ⟨(some 46), .conv .u8 (.t 45), none, false⟩,
        ⟨(some 47), .bslice .lit 1 false 1 [(.int .u8 0)] [(0, (.t 46))], none, false⟩,
        ⟨(some 48), .append true .own 1 false 1 (.t 43) (.t 47), none, false⟩,
        ⟨(some 8), .move (.t 48), none, false⟩]))
     (.region [⟨(some 41), .move (.t 9), none, false⟩,
       ⟨(some 42), .bin .add (.t 41) (.c (.int .i64 1)), none, false⟩,
       ⟨(some 9), .move (.t 42), none, false⟩])))
def o_leadtrailmem_OwnBytes_l2 : ACode :=
    (.seq (.region [⟨(some 35), .bin .lss (.t 34) (.t 33), none, false⟩])
     (.seq (.cond (.t 35) (.skip) (.exit 4))
     (.seq (.block 5 (.seq (.region [⟨(some 36), .move (.t 34), none, false⟩,
        ⟨(some 37), .iaddr 1 (.t 32) (.t 34), none, false⟩,
        ⟨(some 38), .load false 1 (.t 37), none, false⟩,
        ⟨(some 7), .move (.t 36), none, false⟩,
        ⟨(some 8), .move (.t 38), none, false⟩])
      (.seq (.seq (.region [⟨(some 9), .move (.c (.int .i64 0)), none, false⟩])
      (.block 6 (.loop [0, 3, 7, 8, 9, 32, 33, 34] o_leadtrailmem_OwnBytes_l3)))
      (.region [⟨(some 49), .move (.t 3), none, false⟩,
        ⟨(some 50), .move (.t 8), none, false⟩,
        ⟨(some 51), .bslice .own 1 false 1 [.nils] [(0, (.t 50))], none, false⟩,
        ⟨(some 52), .append true .own 1 false 24 (.t 49) (.t 51), none, false⟩,
        ⟨(some 3), .move (.t 52), none, false⟩]))))
     (.region [⟨(some 53), .bin .add (.t 34) (.c (.int .i64 1)), none, false⟩,
       ⟨(some 34), .move (.t 53), none, false⟩]))))
def o_leadtrailmem_OwnBytes_l5 : ACode :=
    (.seq (.region [⟨(some 64), .bin .lss (.t 63) (.t 62), none, false⟩])
     (.seq (.cond (.t 64) (.skip) (.exit 10))
     (.seq (.block 11 (.seq (.region [⟨(some 65), .move (.t 63), none, false⟩,
        ⟨(some 12), .move (.t 65), none, false⟩])
      (.seq (.region [⟨(some 66), .move (.t 12), none, false⟩,
        ⟨(some 67), .move (.t 0), none, false⟩,
        ⟨(some 68), .move (.t 10), none, false⟩,
        ⟨(some 69), .iaddr 1 (.t 67) (.t 68), none, false⟩,
        ⟨(some 70), .load false 1 (.t 69), none, false⟩,
        ⟨(some 71), .len 0 (.t 70), none, false⟩,
        ⟨(some 72), .bin .lss (.t 66) (.t 71), none, false⟩,
        ⟨(some 73), .move (.t 72), none, false⟩,
        ⟨(some 74), .move (.t 11), (some (73, true)), false⟩,
        ⟨(some 75), .move (.t 12), (some (73, true)), false⟩,
        ⟨(some 76), .iaddr 1 (.t 74) (.t 75), (some (73, true)), false⟩,
        ⟨(some 77), .load false 1 (.t 76), (some (73, true)), false⟩,
        ⟨(some 78), .move (.t 10), (some (73, true)), false⟩,
        ⟨(some 79), .conv .u8 (.t 78), (some (73, true)), false⟩,
        ⟨(some 80), .bin .neq (.t 77) (.t 79), (some (73, true)), false⟩,
        ⟨(some 81), .move (.t 80), (some (73, true)), false⟩,
        ⟨(some 82), .move (.t 0), (some (81, false)), false⟩,
        ⟨(some 83), .move (.t 10), (some (81, false)), false⟩,
        ⟨(some 84), .iaddr 1 (.t 82) (.t 83), (some (81, false)), false⟩,
        ⟨(some 85), .load false 1 (.t 84), (some (81, false)), false⟩,
        ⟨(some 86), .move (.t 12), (some (81, false)), false⟩,
        ⟨(some 87), .iaddr 1 (.t 85) (.t 86), (some (81, false)), false⟩,
        ⟨(some 88), .load false 1 (.t 87), (some (81, false)), false⟩,
        ⟨(some 89), .move (.t 10), (some (81, false)), false⟩,
        ⟨(some 90), .conv .u8 (.t 89), (some (81, false)), false⟩,
        ⟨(some 91), .bin .neq (.t 88) (.t 90), (some (81, false)), false⟩,
        ⟨(some 92), .pick (.t 81) (.c (.bool true)) (.t 91), (some (73, true)), false⟩,
        ⟨(some 93), .pick (.t 73) (.t 92) (.c (.bool false)), none, false⟩,
        ⟨(some 94), .move (.t 93), none, false⟩,
        ⟨(some 95), .move (.t 12), (some (94, false)), false⟩,
        ⟨(some 96), .move (.t 0), (some (94, false)), false⟩,
        ⟨(some 97), .move (.t 10), (some (94, false)), false⟩,
        ⟨(some 98), .iaddr 1 (.t 96) (.t 97), (some (94, false)), false⟩,
        ⟨(some 99), .load false 1 (.t 98), (some (94, false)), false⟩,
        ⟨(some 100), .len 0 (.t 99), (some (94, false)), false⟩,
        ⟨(some 101), .bin .geq (.t 95) (.t 100), (some (94, false)), false⟩,
        ⟨(some 102), .move (.t 101), (some (94, false)), false⟩,
        ⟨(some 103), .move (.t 11), (some (102, true)), false⟩,
        ⟨(some 104), .move (.t 12), (some (102, true)), false⟩,
        ⟨(some 105), .iaddr 1 (.t 103) (.t 104), (some (102, true)), false⟩,
        ⟨(some 106), .load false 1 (.t 105), (some (102, true)), false⟩,
        ⟨(some 107), .move (.t 10), (some (102, true)), false⟩,
        ⟨(some 108), .bin .add (.t 107) (.c (.int .i64 1)), (some (102, true)), false⟩,
        ⟨(some 109), .conv .u8 (.t 108), (some (102, true)), false⟩,
        ⟨(some 110), .bin .neq (.t 106) (.t 109), (some (102, true)), false⟩,
        ⟨(some 111), .pick (.t 102) (.t 110) (.c (.bool false)), (some (94, false)), false⟩,
        ⟨(some 112), .pick (.t 94) (.c (.bool true)) (.t 111), none, false⟩])
      (.cond (.t 112) (.seq (.region [⟨(some 2), .move (.c (.bool false)), none, false⟩])
       (.ret)) (.skip)))))
     (.region [⟨(some 113), .bin .add (.t 63) (.c (.int .i64 1)), none, false⟩,
       ⟨(some 63), .move (.t 113), none, false⟩]))))
def o_leadtrailmem_OwnBytes_l4 : ACode :=
    (.seq (.region [⟨(some 57), .bin .lss (.t 56) (.t 55), none, false⟩])
     (.seq (.cond (.t 57) (.skip) (.exit 8))
     (.seq (.block 9 (.seq (.region [⟨(some 58), .move (.t 56), none, false⟩,
        ⟨(some 59), .iaddr 1 (.t 54) (.t 56), none, false⟩,
        ⟨(some 60), .load false 1 (.t 59), none, false⟩,
        ⟨(some 10), .move (.t 58), none, false⟩,
        ⟨(some 11), .move (.t 60), none, false⟩])
      (.seq (.region [⟨(some 61), .move (.t 11), none, false⟩,
        ⟨(some 62), .len 0 (.t 61), none, false⟩,
        ⟨(some 63), .move (.c (.int .i64 0)), none, false⟩])
      (.block 10 (.loop [0, 10, 11, 54, 55, 56, 62, 63] o_leadtrailmem_OwnBytes_l5)))))
     (.region [⟨(some 114), .bin .add (.t 56) (.c (.int .i64 1)), none, false⟩,
       ⟨(some 56), .move (.t 114), none, false⟩]))))
/-- leadtrail/leadtrailmem.OwnBytes -/
def o_leadtrailmem_OwnBytes : AFn := ⟨1, [.tmp 2],
    (.seq (.region [⟨(some 2), .move (.c (.bool false)), none, false⟩])
     (.seq (.region [⟨(some 3), .move (.c .nils), none, false⟩])
     (.seq (.seq (.region [⟨(some 13), .move (.t 0), none, false⟩,
       ⟨(some 14), .len 0 (.t 13), none, false⟩,
       ⟨(some 15), .move (.c (.int .i64 0)), none, false⟩])
     (.block 0 (.loop [0, 3, 13, 14, 15] o_leadtrailmem_OwnBytes_l0)))
     (.seq (.seq (.ghost (.mkown 3 1 false) (.region [⟨(some 32), .move (.t 0), none, false⟩,
       ⟨(some 33), .len 0 (.t 32), none, false⟩,
       ⟨(some 34), .move (.c (.int .i64 0)), none, false⟩]))
     (.block 4 (.loop [0, 3, 32, 33, 34] o_leadtrailmem_OwnBytes_l2)))
     (.seq (.seq (.region [⟨(some 54), .move (.t 3), none, false⟩,
       ⟨(some 55), .len 0 (.t 54), none, false⟩,
       ⟨(some 56), .move (.c (.int .i64 0)), none, false⟩])
     (.block 8 (.loop [0, 54, 55, 56] o_leadtrailmem_OwnBytes_l4)))
     (.seq (.region [⟨(some 2), .move (.c (.bool true)), none, false⟩])
     (.ret)))))))⟩

def o_leadtraillaw02_CarryOwns_l0 : ACode :=
    (.seq (.region [⟨(some 35), .bin .lss (.t 34) (.t 33), none, false⟩])
     (.seq (.cond (.t 35) (.skip) (.exit 0))
     (.seq (.block 1 (.seq (.region [⟨(some 36), .move (.t 34), none, false⟩,
        ⟨(some 37), .iaddr 1 (.t 32) (.t 34), none, false⟩,
        ⟨(some 38), .load false 1 (.t 37), none, false⟩,
        ⟨(some 7), .move (.t 36), none, false⟩,
        ⟨(some 8), .move (.t 38), none, false⟩])
      (.seq (.region [⟨(some 39), .move (.t 7), none, false⟩,
        ⟨(some 40), .bin .lss (.t 39) (.c (.int .i64 8)), none, false⟩,
        ⟨(some 41), .move (.t 40), none, false⟩,
        ⟨(some 42), .move (.t 3), (some (41, true)), false⟩,
        ⟨(some 43), .move (.t 8), (some (41, true)), false⟩,
        ⟨(some 44), .callI 4 [(.t 42), (.t 43)], (some (41, true)), false⟩,
        ⟨(some 45), .bin .neq (.t 44) (.c (.int .i64 0)), (some (41, true)), false⟩,
        ⟨(some 46), .move (.t 45), (some (41, true)), false⟩,
        ⟨(some 47), .move (.t 5), (some (46, false)), false⟩,
        ⟨(some 48), .move (.t 8), (some (46, false)), false⟩,
        ⟨(some 49), .bin .xor (.t 48) (.c (.int .u8 255)), (some (46, false)), false⟩,
        ⟨(some 50), .callI 4 [(.t 47), (.t 49)], (some (46, false)), false⟩,
        ⟨(some 51), .bin .neq (.t 50) (.c (.int .i64 0)), (some (46, false)), false⟩,
        ⟨(some 52), .pick (.t 46) (.c (.bool true)) (.t 51), (some (41, true)), false⟩,
        ⟨(some 53), .pick (.t 41) (.t 52) (.c (.bool false)), none, false⟩])
      (.cond (.t 53) (.seq (.region [⟨(some 2), .move (.c (.bool false)), none, false⟩])
       (.ret)) (.skip)))))
     (.region [⟨(some 54), .bin .add (.t 34) (.c (.int .i64 1)), none, false⟩,
       ⟨(some 34), .move (.t 54), none, false⟩]))))
def o_leadtraillaw02_CarryOwns_l1 : ACode :=
    (.seq (.region [⟨(some 91), .bin .lss (.t 90) (.t 89), none, false⟩])
     (.seq (.cond (.t 91) (.skip) (.exit 2))
     (.seq (.block 3 (.seq (.region [⟨(some 92), .move (.t 90), none, false⟩,
        ⟨(some 13), .move (.t 92), none, false⟩])
      (.seq (.region [⟨(some 94), .move (.t 5), none, false⟩,
        ⟨(some 95), .move (.t 13), none, false⟩,
        ⟨(some 96), .callI 6 [(.t 94), (.t 95)], none, false⟩,
        ⟨(some 93), .move (.t 96), none, false⟩,
        ⟨(some 97), .ext 0 (.t 93), none, false⟩,
        ⟨(some 98), .ext 1 (.t 93), none, false⟩,
        ⟨(some 14), .move (.t 97), none, false⟩,
        ⟨(some 15), .move (.t 98), none, false⟩])
      (.seq (.region [⟨(some 99), .move (.t 15), none, false⟩,
        ⟨(some 100), .un .not (.t 99), none, false⟩,
        ⟨(some 101), .move (.t 100), none, false⟩,
        ⟨(some 102), .move (.t 14), (some (101, false)), false⟩,
        ⟨(some 103), .move (.t 0), (some (101, false)), false⟩,
        ⟨(some 104), .move (.t 13), (some (101, false)), false⟩,
        ⟨(some 105), .iaddr 1 (.t 103) (.t 104), (some (101, false)), false⟩,
        ⟨(some 106), .load false 1 (.t 105), (some (101, false)), false⟩,
        ⟨(some 107), .bin .xor (.t 106) (.c (.int .u8 255)), (some (101, false)), false⟩,
        ⟨(some 108), .bin .neq (.t 102) (.t 107), (some (101, false)), false⟩,
        ⟨(some 109), .pick (.t 101) (.c (.bool true)) (.t 108), none, false⟩])
      (.cond (.t 109) (.seq (.region [⟨(some 2), .move (.c (.bool false)), none, false⟩])
       (.ret)) (.skip))))))
     (.region [⟨(some 110), .bin .add (.t 90) (.c (.int .i64 1)), none, false⟩,
       ⟨(some 90), .move (.t 110), none, false⟩]))))
/-- leadtrail/leadtraillaw02.CarryOwns -/
def o_leadtraillaw02_CarryOwns : AFn := ⟨1, [.tmp 2],
    (.seq (.region [⟨(some 2), .move (.c (.bool false)), none, false⟩])
     (.seq (.seq (.region [⟨(some 16), .callP F_fixed [], none, false⟩,
       ⟨(some 17), .un .not (.t 16), none, false⟩])
     (.cond (.t 17) (.seq (.region [⟨(some 2), .move (.c (.bool false)), none, false⟩])
      (.ret)) (.skip)))
     (.seq (.region [⟨(some 19), .callI 3 [(.c (.int .i64 8))], none, false⟩,
       ⟨(some 18), .move (.t 19), none, false⟩,
       ⟨(some 20), .ext 0 (.t 18), none, false⟩,
       ⟨(some 21), .ext 1 (.t 18), none, false⟩,
       ⟨(some 3), .move (.t 20), none, false⟩,
       ⟨(some 4), .move (.t 21), none, false⟩])
     (.seq (.region [⟨(some 23), .callI 3 [(.c (.int .i64 8))], none, false⟩,
       ⟨(some 22), .move (.t 23), none, false⟩,
       ⟨(some 24), .ext 0 (.t 22), none, false⟩,
       ⟨(some 25), .ext 1 (.t 22), none, false⟩,
       ⟨(some 5), .move (.t 24), none, false⟩,
       ⟨(some 6), .move (.t 25), none, false⟩])
     (.seq (.seq (.region [⟨(some 26), .move (.t 3), none, false⟩,
       ⟨(some 27), .eq 1 false (.t 26) (.c .nilp), none, false⟩,
       ⟨(some 28), .move (.t 27), none, false⟩,
       ⟨(some 29), .move (.t 5), (some (28, false)), false⟩,
       ⟨(some 30), .eq 1 false (.t 29) (.c .nilp), (some (28, false)), false⟩,
       ⟨(some 31), .pick (.t 28) (.c (.bool true)) (.t 30), none, false⟩])
     (.cond (.t 31) (.seq (.region [⟨(some 2), .move (.c (.bool false)), none, false⟩])
      (.ret)) (.skip)))
     (.seq (.seq (.region [⟨(some 32), .move (.t 0), none, false⟩,
       ⟨(some 33), .len 0 (.t 32), none, false⟩,
       ⟨(some 34), .move (.c (.int .i64 0)), none, false⟩])
     (.block 0 (.loop [0, 3, 5, 32, 33, 34] o_leadtraillaw02_CarryOwns_l0)))
     (.seq (.region [⟨(some 55), .move (.t 0), none, false⟩,
       ⟨(some 56), .len 0 (.t 55), none, false⟩,
       ⟨(some 57), .mn [(.t 56), (.c (.int .i64 8))], none, false⟩,
       ⟨(some 9), .move (.t 57), none, false⟩])
     (.seq (.region [⟨(some 58), .move (.t 3), none, false⟩,
       ⟨(some 59), .callI 16 [(.t 58)], none, false⟩,
       ⟨(some 60), .move (.t 3), none, false⟩,
       ⟨(some 61), .callI 16 [(.t 60)], none, false⟩,
       ⟨(some 62), .move (.t 5), none, false⟩,
       ⟨(some 63), .callI 16 [(.t 62)], none, false⟩,
       ⟨(some 10), .move (.t 59), none, false⟩,
       ⟨(some 11), .move (.t 61), none, false⟩,
       ⟨(some 12), .move (.t 63), none, false⟩])
     (.seq (.seq (.region [⟨(some 64), .move (.t 10), none, false⟩,
       ⟨(some 65), .b2s (.t 64), none, false⟩,
       ⟨(some 66), .move (.t 0), none, false⟩,
       ⟨(some 67), .move (.t 9), none, false⟩,
       ⟨(some 68), .slice 1 (.t 66) none (some (.t 67)), none, true⟩,
       ⟨(some 69), .b2s (.t 68), none, true⟩,
       ⟨(some 70), .bin .neq (.t 65) (.t 69), none, false⟩,
       ⟨(some 71), .move (.t 70), none, false⟩,
       ⟨(some 72), .move (.t 10), (some (71, false)), false⟩,
       ⟨(some 73), .move (.t 11), (some (71, false)), false⟩,
       ⟨(some 74), .move (.t 12), (some (71, false)), false⟩,
       ⟨(some 75), .bslice .own 1 false 3 [.nils] [(0, (.t 72)), (1, (.t 73)), (2, (.t 74))], (some (71, false)), false⟩,
       ⟨(some 76), .callI 17 [(.t 75)], (some (71, false)), false⟩,
       ⟨(some 77), .un .not (.t 76), (some (71, false)), false⟩,
       ⟨(some 78), .pick (.t 71) (.c (.bool true)) (.t 77), none, false⟩,
       ⟨(some 79), .move (.t 78), none, false⟩,
       ⟨(some 80), .move (.t 3), (some (79, false)), false⟩,
       ⟨(some 81), .callI 16 [(.t 80)], (some (79, false)), false⟩,
       ⟨(some 82), .b2s (.t 81), (some (79, false)), false⟩,
       ⟨(some 83), .move (.t 0), (some (79, false)), false⟩,
       ⟨(some 84), .move (.t 9), (some (79, false)), false⟩,
       ⟨(some 85), .slice 1 (.t 83) none (some (.t 84)), (some (79, false)), true⟩,
       ⟨(some 86), .b2s (.t 85), (some (79, false)), true⟩,
       ⟨(some 87), .bin .neq (.t 82) (.t 86), (some (79, false)), false⟩,
       ⟨(some 88), .pick (.t 79) (.c (.bool true)) (.t 87), none, false⟩])
     (.cond (.t 88) (.seq (.region [⟨(some 2), .move (.c (.bool false)), none, false⟩])
      (.ret)) (.skip)))
     (.seq (.seq (.region [⟨(some 89), .move (.t 9), none, false⟩,
       ⟨(some 90), .move (.c (.int .i64 0)), none, false⟩])
     (.block 2 (.loop [0, 5, 89, 90] o_leadtraillaw02_CarryOwns_l1)))
     (.seq (.region [⟨(some 2), .move (.c (.bool true)), none, false⟩])
     (.ret))))))))))))⟩


def tabO : Nat → Option AFn
  | 3 => some c_carry_New
  | 4 => some c_carry_Carry_Push
  | 6 => some c_carry_Carry_At
  | 10 => some c_carry_Carry_Len
  | 16 => some o_carry_Carry_Bytes
  | 17 => some o_leadtrailmem_OwnBytes
  | _ => none

def foO : Nat → FuncId
  | 3 => 8
  | 4 => 9
  | 6 => 12
  | 10 => 16
  | 16 => 10
  | 17 => 11
  | _ => 0

theorem oo3 : okFunc Go.Proofs.Try.prog foO Go.Proofs.Try.f8 c_carry_New = true := by kernel_rfl
theorem oo4 : okFunc Go.Proofs.Try.prog foO Go.Proofs.Try.f9 c_carry_Carry_Push = true := by kernel_rfl
theorem oo6 : okFunc Go.Proofs.Try.prog foO Go.Proofs.Try.f12 c_carry_Carry_At = true := by kernel_rfl
theorem oo10 : okFunc Go.Proofs.Try.prog foO Go.Proofs.Try.f16 c_carry_Carry_Len = true := by kernel_rfl
theorem oo16 : okFunc Go.Proofs.Try.prog foO Go.Proofs.Try.f10 o_carry_Carry_Bytes = true := by kernel_rfl
theorem oo17 : okFunc Go.Proofs.Try.prog foO Go.Proofs.Try.f11 o_leadtrailmem_OwnBytes = true := by kernel_rfl
theorem oo18 : okFunc Go.Proofs.Try.prog foO Go.Proofs.Try.f3 o_leadtraillaw02_CarryOwns = true := by kernel_rfl
theorem od16 : dutiesF Go.Proofs.Try.f10 o_carry_Carry_Bytes = [] := by kernel_rfl
theorem od17 : dutiesF Go.Proofs.Try.f11 o_leadtrailmem_OwnBytes = [] := by kernel_rfl
theorem od18 : dutiesF Go.Proofs.Try.f3 o_leadtraillaw02_CarryOwns = [(7, F_fixed)] := by kernel_rfl

theorem tabO_ok : TableOk P foO tabO := by
  intro ix af h
  unfold tabO at h
  split at h
  · injection h with h; subst h; exact ⟨_, Go.Proofs.Try.func8, oo3, by rw [du3]; exact fun _ h => noDuty h⟩
  · injection h with h; subst h; exact ⟨_, Go.Proofs.Try.func9, oo4, by rw [du4]; exact fun _ h => noDuty h⟩
  · injection h with h; subst h; exact ⟨_, Go.Proofs.Try.func12, oo6, by rw [du6]; exact fun _ h => noDuty h⟩
  · injection h with h; subst h; exact ⟨_, Go.Proofs.Try.func16, oo10, by rw [du10]; exact fun _ h => noDuty h⟩
  · injection h with h; subst h; exact ⟨_, Go.Proofs.Try.func10, oo16, by rw [od16]; exact fun _ h => noDuty h⟩
  · injection h with h; subst h; exact ⟨_, Go.Proofs.Try.func11, oo17, by rw [od17]; exact fun _ h => noDuty h⟩
  · cases h

theorem owns_ok : FnOk P foO 3 o_leadtraillaw02_CarryOwns := ⟨_, Go.Proofs.Try.func3, oo18, by rw [od18]; exact fun _ h => duty7 h⟩

theorem owns_t1 : pureF tabO o_leadtraillaw02_CarryOwns [.lit 1 [.int .u8 97, .int .u8 98, .int .u8 99]] = some (.bool true) := by kernel_rfl

end Go.AM.C1
