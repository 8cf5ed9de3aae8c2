/- The abstract code of the functions of the rows Carry*: printed by gen_c1.py. -/
import Derived.Test.YtlibmcabpcehcaaAm22
import Derived.Test.YtlibmcabpcehcaaProg
set_option linter.unusedVariables false
namespace Go.AM.C1
open Go.AM

def F_fixed : List PV → Option PV
  | [] => some (.bool true)
  | _ => none

/-- leadtrail/leadtraillaw02.CarryNil -/
def c_leadtraillaw02_CarryNil : AFn := ⟨1, [.tmp 2],
    (.seq (.region [⟨(some 1), .boxR 3 (.t 0), none, false⟩,
       ⟨(some 2), .move (.c (.bool false)), none, false⟩])
     (.seq (.seq (.region [⟨(some 5), .callP F_fixed [], none, false⟩,
       ⟨(some 6), .un .not (.t 5), none, false⟩])
     (.cond (.t 6) (.seq (.region [⟨(some 2), .move (.c (.bool false)), none, false⟩])
      (.ret)) (.skip)))
     (.seq (.region [⟨(some 3), .move (.c .nilp), none, false⟩])
     (.seq (.region [⟨(some 7), .build [(.int .i64 0), .nils] [], none, false⟩,
       ⟨(some 4), .alloc [(.int .i64 0), .nils], none, false⟩,
       ⟨none, .store 2 (.t 4) (.t 7), none, false⟩])
     (.seq (.region [⟨(some 8), .move (.t 3), none, false⟩,
       ⟨(some 9), .load true 3 (.t 1), none, true⟩,
       ⟨(some 10), .callI 8 [(.t 8), (.t 4), (.t 9)], none, false⟩,
       ⟨(some 11), .move (.t 10), none, false⟩,
       ⟨(some 12), .move (.t 3), (some (11, true)), false⟩,
       ⟨(some 13), .load true 2 (.t 4), (some (11, true)), false⟩,
       ⟨(some 14), .callI 9 [(.t 12), (.t 13)], (some (11, true)), false⟩,
       ⟨(some 15), .pick (.t 11) (.t 14) (.c (.bool false)), none, false⟩,
       ⟨(some 2), .move (.t 15), none, false⟩])
     (.ret))))))⟩

def c_leadtraillaw02_CarryPlays_l0 : ACode :=
    (.seq (.region [⟨(some 38), .bin .lss (.t 37) (.t 36), none, false⟩])
     (.seq (.cond (.t 38) (.skip) (.exit 0))
     (.seq (.block 1 (.seq (.region [⟨(some 39), .iaddr 3 (.t 35) (.t 37), none, false⟩,
        ⟨(some 40), .load true 3 (.t 39), none, false⟩,
        ⟨(some 10), .alloc [(.int .i64 0), (.int .i64 0), (.int .u8 0)], none, false⟩,
        ⟨none, .store 3 (.t 10) (.t 40), none, false⟩])
      (.seq (.region [⟨(some 41), .move (.t 5), none, false⟩,
        ⟨(some 42), .load true 3 (.t 10), none, false⟩,
        ⟨(some 43), .callI 8 [(.t 41), (.t 7), (.t 42)], none, false⟩,
        ⟨(some 44), .un .not (.t 43), none, false⟩,
        ⟨(some 45), .move (.t 44), none, false⟩,
        ⟨(some 46), .move (.t 5), (some (45, false)), false⟩,
        ⟨(some 47), .load true 2 (.t 7), (some (45, false)), false⟩,
        ⟨(some 48), .callI 9 [(.t 46), (.t 47)], (some (45, false)), false⟩,
        ⟨(some 49), .un .not (.t 48), (some (45, false)), false⟩,
        ⟨(some 50), .pick (.t 45) (.c (.bool true)) (.t 49), none, false⟩])
      (.cond (.t 50) (.seq (.region [⟨(some 4), .move (.c (.bool false)), none, false⟩])
       (.ret)) (.skip)))))
     (.region [⟨(some 51), .bin .add (.t 37) (.c (.int .i64 1)), none, false⟩,
       ⟨(some 37), .move (.t 51), none, false⟩]))))
/-- leadtrail/leadtraillaw02.CarryPlays -/
def c_leadtraillaw02_CarryPlays : AFn := ⟨2, [.tmp 4],
    (.seq (.region [⟨(some 4), .move (.c (.bool false)), none, false⟩])
     (.seq (.seq (.region [⟨(some 11), .callP F_fixed [], none, false⟩,
       ⟨(some 12), .un .not (.t 11), none, false⟩])
     (.cond (.t 12) (.seq (.region [⟨(some 4), .move (.c (.bool false)), none, false⟩])
      (.ret)) (.skip)))
     (.seq (.region [⟨(some 14), .move (.t 0), none, false⟩,
       ⟨(some 15), .callI 3 [(.t 14)], none, false⟩,
       ⟨(some 13), .move (.t 15), none, false⟩,
       ⟨(some 16), .ext 0 (.t 13), none, false⟩,
       ⟨(some 17), .ext 1 (.t 13), none, false⟩,
       ⟨(some 5), .move (.t 16), none, false⟩,
       ⟨(some 6), .move (.t 17), none, false⟩])
     (.seq (.region [⟨(some 19), .move (.t 0), none, false⟩,
       ⟨(some 20), .callI 7 [(.t 19)], none, false⟩,
       ⟨(some 18), .move (.t 20), none, false⟩,
       ⟨(some 21), .ext 0 (.t 18), none, false⟩,
       ⟨(some 22), .ext 1 (.t 18), none, false⟩,
       ⟨(some 7), .alloc [(.int .i64 0), .nils], none, false⟩,
       ⟨none, .store 2 (.t 7) (.t 21), none, false⟩,
       ⟨(some 8), .move (.t 22), none, false⟩])
     (.seq (.seq (.region [⟨(some 23), .move (.t 6), none, false⟩,
       ⟨(some 24), .move (.t 8), none, false⟩,
       ⟨(some 25), .bin .neq (.t 23) (.t 24), none, false⟩,
       ⟨(some 26), .move (.t 25), none, false⟩,
       ⟨(some 27), .move (.t 5), (some (26, false)), false⟩,
       ⟨(some 28), .eq 1 false (.t 27) (.c .nilp), (some (26, false)), false⟩,
       ⟨(some 29), .move (.t 8), (some (26, false)), false⟩,
       ⟨(some 30), .bin .neq (.t 29) (.c (.int .i64 0)), (some (26, false)), false⟩,
       ⟨(some 31), .eq 0 true (.t 28) (.t 30), (some (26, false)), false⟩,
       ⟨(some 32), .pick (.t 26) (.c (.bool true)) (.t 31), none, false⟩])
     (.cond (.t 32) (.seq (.region [⟨(some 4), .move (.c (.bool false)), none, false⟩])
      (.ret)) (.skip)))
     (.seq (.seq (.region [⟨(some 33), .move (.t 5), none, false⟩,
       ⟨(some 34), .eq 1 false (.t 33) (.c .nilp), none, false⟩])
     (.cond (.t 34) (.seq (.region [⟨(some 4), .move (.c (.bool true)), none, false⟩])
      (.ret)) (.skip)))
     (.seq (.seq (.region [⟨(some 35), .move (.t 1), none, false⟩,
       ⟨(some 36), .len 0 (.t 35), none, false⟩,
       ⟨(some 37), .move (.c (.int .i64 0)), none, false⟩])
     (.block 0 (.loop [5, 7, 35, 36, 37] c_leadtraillaw02_CarryPlays_l0)))
     (.seq (.region [⟨(some 52), .move (.t 5), none, false⟩,
       ⟨(some 53), .load true 2 (.t 7), none, false⟩,
       ⟨(some 54), .callI 9 [(.t 52), (.t 53)], none, false⟩,
       ⟨(some 4), .move (.t 54), none, false⟩])
     (.ret)))))))))⟩

/-- leadtrail/leadtraillaw02.fixed -/
def c_leadtraillaw02_fixed : AFn := ⟨0, [.tmp 0],
    (.seq (.region [⟨(some 0), .move (.c (.bool false)), none, false⟩])
     (.seq (.region [⟨(some 4), .callI 3 [(.c (.int .i64 2))], none, false⟩,
       ⟨(some 3), .move (.t 4), none, false⟩,
       ⟨(some 5), .ext 0 (.t 3), none, false⟩,
       ⟨(some 6), .ext 1 (.t 3), none, false⟩,
       ⟨(some 1), .move (.t 5), none, false⟩,
       ⟨(some 2), .move (.t 6), none, false⟩])
     (.seq (.seq (.region [⟨(some 7), .move (.t 1), none, false⟩,
       ⟨(some 8), .eq 1 false (.t 7) (.c .nilp), none, false⟩,
       ⟨(some 9), .move (.t 8), none, false⟩,
       ⟨(some 10), .move (.t 2), (some (9, false)), false⟩,
       ⟨(some 11), .bin .neq (.t 10) (.c (.int .i64 0)), (some (9, false)), false⟩,
       ⟨(some 12), .pick (.t 9) (.c (.bool true)) (.t 11), none, false⟩])
     (.cond (.t 12) (.seq (.region [⟨(some 0), .move (.c (.bool false)), none, false⟩])
      (.ret)) (.skip)))
     (.seq (.region [⟨(some 13), .move (.t 1), none, false⟩,
       ⟨(some 14), .callI 4 [(.t 13), (.c (.int .u8 97))], none, false⟩,
       ⟨(some 15), .bin .eql (.t 14) (.c (.int .i64 0)), none, false⟩,
       ⟨(some 16), .move (.t 15), none, false⟩,
       ⟨(some 17), .move (.t 1), (some (16, true)), false⟩,
       ⟨(some 18), .callI 4 [(.t 17), (.c (.int .u8 98))], (some (16, true)), false⟩,
       ⟨(some 19), .bin .eql (.t 18) (.c (.int .i64 0)), (some (16, true)), false⟩,
       ⟨(some 20), .pick (.t 16) (.t 19) (.c (.bool false)), none, false⟩,
       ⟨(some 21), .move (.t 20), none, false⟩,
       ⟨(some 22), .move (.t 1), (some (21, true)), false⟩,
       ⟨(some 23), .callI 4 [(.t 22), (.c (.int .u8 99))], (some (21, true)), false⟩,
       ⟨(some 24), .bin .eql (.t 23) (.c (.int .i64 3)), (some (21, true)), false⟩,
       ⟨(some 25), .pick (.t 21) (.t 24) (.c (.bool false)), none, false⟩,
       ⟨(some 26), .move (.t 25), none, false⟩,
       ⟨(some 27), .move (.t 1), (some (26, true)), false⟩,
       ⟨(some 28), .callI 12 [(.t 27), (.c (.int .i64 1))], (some (26, true)), false⟩,
       ⟨(some 29), .bin .eql (.t 28) (.c (.int .i64 0)), (some (26, true)), false⟩,
       ⟨(some 30), .pick (.t 26) (.t 29) (.c (.bool false)), none, false⟩,
       ⟨(some 31), .move (.t 30), none, false⟩,
       ⟨(some 32), .move (.t 1), (some (31, true)), false⟩,
       ⟨(some 33), .callI 4 [(.t 32), (.c (.int .u8 100))], (some (31, true)), false⟩,
       ⟨(some 34), .bin .eql (.t 33) (.c (.int .i64 0)), (some (31, true)), false⟩,
       ⟨(some 35), .pick (.t 31) (.t 34) (.c (.bool false)), none, false⟩,
       ⟨(some 36), .move (.t 35), none, false⟩,
       ⟨(some 37), .move (.t 1), (some (36, true)), false⟩,
       ⟨(some 38), .callI 5 [(.t 37)], (some (36, true)), false⟩,
       ⟨(some 39), .b2s (.t 38), (some (36, true)), false⟩,
       ⟨(some 40), .bin .eql (.t 39) (.c (.str ⟨#[98, 100]⟩)), (some (36, true)), false⟩,
       ⟨(some 41), .pick (.t 36) (.t 40) (.c (.bool false)), none, false⟩,
       ⟨(some 0), .move (.t 41), none, false⟩])
     (.ret)))))⟩

/-- leadtrail/carry.New -/
def c_carry_New : AFn := ⟨1, [.tmp 2, .tmp 3],
    (.seq (.region [⟨(some 2), .move (.c .nilp), none, false⟩,
       ⟨(some 3), .move (.c (.int .i64 0)), none, false⟩])
     (.seq (.seq (.region [⟨(some 4), .move (.t 0), none, false⟩,
       ⟨(some 5), .bin .lss (.t 4) (.c (.int .i64 1)), none, false⟩,
       ⟨(some 6), .move (.t 5), none, false⟩,
       ⟨(some 7), .move (.t 0), (some (6, false)), false⟩,
       ⟨(some 8), .bin .gtr (.t 7) (.c (.int .i64 8)), (some (6, false)), false⟩,
       ⟨(some 9), .pick (.t 6) (.c (.bool true)) (.t 8), none, false⟩])
     (.cond (.t 9) (.seq (.region [⟨(some 2), .move (.c .nilp), none, false⟩,
        ⟨(some 3), .move (.c (.int .i64 1)), none, false⟩])
      (.ret)) (.skip)))
     (.seq (.region [⟨(some 10), .move (.t 0), none, false⟩,
       ⟨(some 11), .build [(.int .u8 0), (.int .u8 0), (.int .u8 0), (.int .u8 0), (.int .u8 0), (.int .u8 0), (.int .u8 0), (.int .u8 0), (.int .i64 0), (.int .i64 0), (.int .i64 0)] [(8, 1, (.t 10))], none, false⟩,
       ⟨(some 12), .box 11 (.t 11), none, false⟩,
       ⟨(some 2), .move (.t 12), none, false⟩,
       ⟨(some 3), .move (.c (.int .i64 0)), none, false⟩])
     (.ret))))⟩

/-- (*leadtrail/carry.Carry).Push -/
def c_carry_Carry_Push : AFn := ⟨2, [.tmp 4],
    (.seq (.region [⟨(some 4), .move (.c (.int .i64 0)), none, false⟩])
     (.seq (.block 0 (.seq (.region [⟨(some 6), .move (.t 0), none, false⟩,
        ⟨(some 7), .eq 1 false (.t 6) (.c .nilp), none, false⟩,
        ⟨(some 5), .move (.t 7), none, false⟩])
      (.cond (.t 5) (.seq (.region [⟨(some 4), .move (.c (.int .i64 2)), none, false⟩])
       (.ret)) (.seq (.region [⟨(some 9), .move (.t 0), none, false⟩,
         ⟨(some 10), .nilck (.t 9), none, false⟩,
         ⟨(some 11), .faddr 10 (.t 10), none, false⟩,
         ⟨(some 12), .load false 1 (.t 11), none, false⟩,
         ⟨(some 13), .move (.t 0), none, false⟩,
         ⟨(some 14), .nilck (.t 13), none, false⟩,
         ⟨(some 15), .faddr 8 (.t 14), none, false⟩,
         ⟨(some 16), .load false 1 (.t 15), none, false⟩,
         ⟨(some 17), .bin .geq (.t 12) (.t 16), none, false⟩,
         ⟨(some 8), .move (.t 17), none, false⟩])
       (.cond (.t 8) (.seq (.region [⟨(some 4), .move (.c (.int .i64 3)), none, false⟩])
        (.ret)) (.skip))))))
     (.seq (.region [⟨(some 18), .move (.t 0), none, false⟩,
       ⟨(some 19), .move (.t 0), none, false⟩,
       ⟨(some 20), .nilck (.t 19), none, false⟩,
       ⟨(some 21), .faddr 9 (.t 20), none, false⟩,
       ⟨(some 22), .load false 1 (.t 21), none, false⟩,
       ⟨(some 23), .move (.t 0), none, false⟩,
       ⟨(some 24), .nilck (.t 23), none, false⟩,
       ⟨(some 25), .faddr 10 (.t 24), none, false⟩,
       ⟨(some 26), .load false 1 (.t 25), none, false⟩,
       ⟨(some 27), .bin .add (.t 22) (.t 26), none, false⟩,
       ⟨(some 28), .bin .rem (.t 27) (.c (.int .i64 8)), none, false⟩,
       ⟨(some 29), .move (.t 1), none, false⟩,
       ⟨(some 30), .nilck (.t 18), none, false⟩,
       ⟨(some 31), .faddr 0 (.t 30), none, false⟩,
       ⟨(some 32), .iaddrA 8 1 (.t 31) (.t 28), none, false⟩,
       ⟨none, .store 1 (.t 32) (.t 29), none, false⟩])
     (.seq (.region [⟨(some 33), .move (.t 0), none, false⟩,
       ⟨(some 34), .nilck (.t 33), none, false⟩,
       ⟨(some 35), .faddr 10 (.t 34), none, false⟩,
       ⟨(some 36), .load false 1 (.t 35), none, false⟩,
       ⟨(some 37), .bin .add (.t 36) (.c (.int .i64 1)), none, false⟩,
       ⟨(some 38), .nilck (.t 33), none, false⟩,
       ⟨(some 39), .faddr 10 (.t 38), none, false⟩,
       ⟨none, .store 1 (.t 39) (.t 37), none, false⟩])
     (.seq (.region [⟨(some 4), .move (.c (.int .i64 0)), none, false⟩])
     (.ret))))))⟩

def c_carry_Carry_Bytes_l0 : ACode :=
    (.seq (.region [⟨(some 13), .bin .lss (.t 12) (.t 11), none, false⟩])
     (.seq (.cond (.t 13) (.skip) (.exit 0))
     (.seq (.block 1 (.seq (.region [⟨(some 14), .move (.t 12), none, false⟩,
        ⟨(some 4), .move (.t 14), none, false⟩])
      (.seq (.region [⟨(some 16), .move (.t 0), none, false⟩,
        ⟨(some 17), .move (.t 4), none, false⟩,
        ⟨(some 18), .callI 6 [(.t 16), (.t 17)], none, false⟩,
        ⟨(some 15), .move (.t 18), none, false⟩,
        ⟨(some 19), .ext 0 (.t 15), none, false⟩,
        ⟨(some 20), .ext 1 (.t 15), none, false⟩,
        ⟨(some 5), .move (.t 19), none, false⟩,
        ⟨(some 6), .move (.t 20), none, false⟩])
      (.region [⟨(some 21), .move (.t 3), none, false⟩,
        ⟨(some 22), .move (.t 5), none, false⟩,
        ⟨(some 23), .bslice .lit 1 false 1 [(.int .u8 0)] [(0, (.t 22))], none, false⟩,
        ⟨(some 24), .append false .uq 1 false 1 (.t 21) (.t 23), none, false⟩,
        ⟨(some 3), .move (.t 24), none, false⟩]))))
     (.region [⟨(some 25), .bin .add (.t 12) (.c (.int .i64 1)), none, false⟩,
       ⟨(some 12), .move (.t 25), none, false⟩]))))
/-- (*leadtrail/carry.Carry).Bytes -/
def c_carry_Carry_Bytes : AFn := ⟨1, [.tmp 2],
    (.seq (.region [⟨(some 2), .move (.c .nils), none, false⟩])
     (.seq (.region [⟨(some 7), .move (.t 0), none, false⟩,
       ⟨(some 8), .callI 10 [(.t 7)], none, false⟩,
       ⟨(some 9), .mkslice .uq 1 false [(.int .u8 0)] 1 (.c (.int .i64 0)) (.t 8), none, false⟩,
       ⟨(some 3), .move (.t 9), none, false⟩])
     (.seq (.seq (.region [⟨(some 10), .move (.t 0), none, false⟩,
       ⟨(some 11), .callI 10 [(.t 10)], none, false⟩,
       ⟨(some 12), .move (.c (.int .i64 0)), none, false⟩])
     (.block 0 (.loop [0, 3, 11, 12] c_carry_Carry_Bytes_l0)))
     (.seq (.region [⟨(some 26), .move (.t 3), none, false⟩,
       ⟨(some 2), .move (.t 26), none, false⟩])
     (.ret)))))⟩

/-- (*leadtrail/carry.Carry).At -/
def c_carry_Carry_At : AFn := ⟨2, [.tmp 4, .tmp 5],
    (.seq (.region [⟨(some 4), .move (.c (.int .u8 0)), none, false⟩,
       ⟨(some 5), .move (.c (.bool false)), none, false⟩])
     (.seq (.seq (.region [⟨(some 6), .move (.t 1), none, false⟩,
       ⟨(some 7), .bin .lss (.t 6) (.c (.int .i64 0)), none, false⟩,
       ⟨(some 8), .move (.t 7), none, false⟩,
       ⟨(some 9), .move (.t 1), (some (8, false)), false⟩,
       ⟨(some 10), .move (.t 0), (some (8, false)), false⟩,
       ⟨(some 11), .callI 10 [(.t 10)], (some (8, false)), false⟩,
       ⟨(some 12), .bin .geq (.t 9) (.t 11), (some (8, false)), false⟩,
       ⟨(some 13), .pick (.t 8) (.c (.bool true)) (.t 12), none, false⟩])
     (.cond (.t 13) (.seq (.region [⟨(some 4), .move (.c (.int .u8 0)), none, false⟩,
        ⟨(some 5), .move (.c (.bool false)), none, false⟩])
      (.ret)) (.skip)))
     (.seq (.region [⟨(some 14), .move (.t 0), none, false⟩,
       ⟨(some 15), .move (.t 0), none, false⟩,
       ⟨(some 16), .nilck (.t 15), none, false⟩,
       ⟨(some 17), .faddr 9 (.t 16), none, false⟩,
       ⟨(some 18), .load false 1 (.t 17), none, false⟩,
       ⟨(some 19), .move (.t 1), none, false⟩,
       ⟨(some 20), .bin .add (.t 18) (.t 19), none, false⟩,
       ⟨(some 21), .bin .rem (.t 20) (.c (.int .i64 8)), none, false⟩,
       ⟨(some 22), .nilck (.t 14), none, false⟩,
       ⟨(some 23), .faddr 0 (.t 22), none, false⟩,
       ⟨(some 24), .iaddrA 8 1 (.t 23) (.t 21), none, false⟩,
       ⟨(some 25), .load false 1 (.t 24), none, false⟩,
       ⟨(some 4), .move (.t 25), none, false⟩,
       ⟨(some 5), .move (.c (.bool true)), none, false⟩])
     (.ret))))⟩

/-- leadtrail/leadtrailref02.New -/
def c_leadtrailref02_New : AFn := ⟨1, [.cell 2 true 2, .tmp 3],
    (.seq (.region [⟨(some 2), .alloc [(.int .i64 0), .nils], none, false⟩,
       ⟨(some 3), .move (.c (.int .i64 0)), none, false⟩])
     (.seq (.seq (.region [⟨(some 4), .move (.t 0), none, false⟩,
       ⟨(some 5), .bin .lss (.t 4) (.c (.int .i64 1)), none, false⟩,
       ⟨(some 6), .move (.t 5), none, false⟩,
       ⟨(some 7), .move (.t 0), (some (6, false)), false⟩,
       ⟨(some 8), .bin .gtr (.t 7) (.c (.int .i64 8)), (some (6, false)), false⟩,
       ⟨(some 9), .pick (.t 6) (.c (.bool true)) (.t 8), none, false⟩])
     (.cond (.t 9) (.seq (.region [⟨(some 10), .build [(.int .i64 0), .nils] [], none, false⟩,
        ⟨none, .store 2 (.t 2) (.t 10), none, false⟩,
        ⟨(some 3), .move (.c (.int .i64 1)), none, false⟩])
      (.ret)) (.skip)))
     (.seq (.region [⟨(some 11), .move (.t 0), none, false⟩,
       ⟨(some 12), .build [(.int .i64 0), .nils] [(0, 1, (.t 11))], none, false⟩,
       ⟨none, .store 2 (.t 2) (.t 12), none, false⟩,
       ⟨(some 3), .move (.c (.int .i64 0)), none, false⟩])
     (.ret))))⟩

/-- leadtrail/leadtraillaw02.step -/
def c_leadtraillaw02_step : AFn := ⟨3, [.tmp 6],
    (.seq (.region [⟨(some 5), .boxR 3 (.t 2), none, false⟩,
       ⟨(some 6), .move (.c (.bool false)), none, false⟩])
     (.seq (.seq (.region [⟨(some 9), .faddr 0 (.t 5), none, true⟩,
       ⟨(some 10), .load false 1 (.t 9), none, true⟩])
     (.block 0 (.seq (.region [⟨(some 12), .bin .eql (.t 10) (.c (.int .i64 1)), none, false⟩,
        ⟨(some 11), .move (.t 12), none, false⟩])
      (.cond (.t 11) (.seq (.region [⟨(some 13), .move (.t 0), none, false⟩,
         ⟨(some 14), .faddr 2 (.t 5), none, true⟩,
         ⟨(some 15), .load false 1 (.t 14), none, true⟩,
         ⟨(some 16), .callI 4 [(.t 13), (.t 15)], none, false⟩,
         ⟨(some 17), .move (.t 1), none, false⟩,
         ⟨(some 18), .faddr 2 (.t 5), none, true⟩,
         ⟨(some 19), .load false 1 (.t 18), none, true⟩,
         ⟨(some 20), .callI 13 [(.t 17), (.t 19)], none, false⟩,
         ⟨(some 21), .bin .eql (.t 16) (.t 20), none, false⟩,
         ⟨(some 6), .move (.t 21), none, false⟩])
       (.ret)) (.seq (.region [⟨(some 23), .bin .eql (.t 10) (.c (.int .i64 2)), none, false⟩,
         ⟨(some 22), .move (.t 23), none, false⟩])
       (.cond (.t 22) (.seq (.region [⟨(some 25), .move (.t 0), none, false⟩,
          ⟨(some 26), .faddr 1 (.t 5), none, true⟩,
          ⟨(some 27), .load false 1 (.t 26), none, true⟩,
          ⟨(some 28), .callI 6 [(.t 25), (.t 27)], none, false⟩,
          ⟨(some 24), .move (.t 28), none, false⟩,
          ⟨(some 29), .ext 0 (.t 24), none, false⟩,
          ⟨(some 30), .ext 1 (.t 24), none, false⟩,
          ⟨(some 7), .move (.t 29), none, false⟩,
          ⟨(some 8), .move (.t 30), none, false⟩])
        (.seq (.seq (.region [⟨(some 31), .faddr 1 (.t 5), none, true⟩,
          ⟨(some 32), .load false 1 (.t 31), none, true⟩,
          ⟨(some 33), .bin .lss (.t 32) (.c (.int .i64 0)), none, false⟩,
          ⟨(some 34), .move (.t 33), none, false⟩,
          ⟨(some 35), .faddr 1 (.t 5), (some (34, false)), true⟩,
          ⟨(some 36), .load false 1 (.t 35), (some (34, false)), true⟩,
          ⟨(some 37), .move (.t 1), (some (34, false)), false⟩,
          ⟨(some 38), .nilck (.t 37), (some (34, false)), false⟩,
          ⟨(some 39), .faddr 1 (.t 38), (some (34, false)), false⟩,
          ⟨(some 40), .load false 1 (.t 39), (some (34, false)), false⟩,
          ⟨(some 41), .len 0 (.t 40), (some (34, false)), true⟩,
          ⟨(some 42), .bin .geq (.t 36) (.t 41), (some (34, false)), false⟩,
          ⟨(some 43), .pick (.t 34) (.c (.bool true)) (.t 42), none, false⟩])
        (.cond (.t 43) (.seq (.region [⟨(some 44), .move (.t 7), none, false⟩,
           ⟨(some 45), .bin .eql (.t 44) (.c (.int .u8 0)), none, false⟩,
           ⟨(some 46), .move (.t 45), none, false⟩,
           ⟨(some 47), .move (.t 8), (some (46, true)), false⟩,
           ⟨(some 48), .un .not (.t 47), (some (46, true)), false⟩,
           ⟨(some 49), .pick (.t 46) (.t 48) (.c (.bool false)), none, false⟩,
           ⟨(some 6), .move (.t 49), none, false⟩])
         (.ret)) (.skip)))
        (.seq (.region [⟨(some 50), .move (.t 7), none, false⟩,
          ⟨(some 51), .move (.t 1), none, false⟩,
          ⟨(some 52), .nilck (.t 51), none, false⟩,
          ⟨(some 53), .faddr 1 (.t 52), none, false⟩,
          ⟨(some 54), .load false 1 (.t 53), none, false⟩,
          ⟨(some 55), .faddr 1 (.t 5), none, true⟩,
          ⟨(some 56), .load false 1 (.t 55), none, true⟩,
          ⟨(some 57), .iaddr 1 (.t 54) (.t 56), none, true⟩,
          ⟨(some 58), .load false 1 (.t 57), none, true⟩,
          ⟨(some 59), .bin .eql (.t 50) (.t 58), none, false⟩,
          ⟨(some 60), .move (.t 59), none, false⟩,
          ⟨(some 61), .move (.t 8), (some (60, true)), false⟩,
          ⟨(some 62), .pick (.t 60) (.t 61) (.c (.bool false)), none, false⟩,
          ⟨(some 6), .move (.t 62), none, false⟩])
        (.ret)))) (.seq (.region [⟨(some 64), .bin .eql (.t 10) (.c (.int .i64 3)), none, false⟩,
          ⟨(some 63), .move (.t 64), none, false⟩])
        (.cond (.t 63) (.seq (.region [⟨(some 65), .move (.t 0), none, false⟩,
           ⟨(some 66), .faddr 1 (.t 5), none, true⟩,
           ⟨(some 67), .load false 1 (.t 66), none, true⟩,
           ⟨(some 68), .callI 12 [(.t 65), (.t 67)], none, false⟩,
           ⟨(some 69), .move (.t 1), none, false⟩,
           ⟨(some 70), .faddr 1 (.t 5), none, true⟩,
           ⟨(some 71), .load false 1 (.t 70), none, true⟩,
           ⟨(some 72), .callI 14 [(.t 69), (.t 71)], none, false⟩,
           ⟨(some 73), .bin .eql (.t 68) (.t 72), none, false⟩,
           ⟨(some 6), .move (.t 73), none, false⟩])
         (.ret)) (.skip)))))))))
     (.seq (.region [⟨(some 6), .move (.c (.bool true)), none, false⟩])
     (.ret))))⟩

/-- leadtrail/leadtraillaw02.same -/
def c_leadtraillaw02_same : AFn := ⟨2, [.tmp 4],
    (.seq (.region [⟨(some 3), .boxR 2 (.t 1), none, false⟩,
       ⟨(some 4), .move (.c (.bool false)), none, false⟩])
     (.seq (.region [⟨(some 5), .move (.t 0), none, false⟩,
       ⟨(some 6), .callI 11 [(.t 5)], none, false⟩,
       ⟨(some 7), .faddr 0 (.t 3), none, true⟩,
       ⟨(some 8), .load false 1 (.t 7), none, true⟩,
       ⟨(some 9), .bin .eql (.t 6) (.t 8), none, false⟩,
       ⟨(some 10), .move (.t 9), none, false⟩,
       ⟨(some 11), .move (.t 0), (some (10, true)), false⟩,
       ⟨(some 12), .callI 10 [(.t 11)], (some (10, true)), false⟩,
       ⟨(some 13), .faddr 1 (.t 3), (some (10, true)), true⟩,
       ⟨(some 14), .load false 1 (.t 13), (some (10, true)), true⟩,
       ⟨(some 15), .len 0 (.t 14), (some (10, true)), true⟩,
       ⟨(some 16), .bin .eql (.t 12) (.t 15), (some (10, true)), false⟩,
       ⟨(some 17), .pick (.t 10) (.t 16) (.c (.bool false)), none, false⟩,
       ⟨(some 18), .move (.t 17), none, false⟩,
       ⟨(some 19), .move (.t 0), (some (18, true)), false⟩,
       ⟨(some 20), .callI 5 [(.t 19)], (some (18, true)), false⟩,
       ⟨(some 21), .b2s (.t 20), (some (18, true)), true⟩,
       ⟨(some 22), .faddr 1 (.t 3), (some (18, true)), true⟩,
       ⟨(some 23), .load false 1 (.t 22), (some (18, true)), true⟩,
       ⟨(some 24), .b2s (.t 23), (some (18, true)), true⟩,
       ⟨(some 25), .bin .eql (.t 21) (.t 24), (some (18, true)), false⟩,
       ⟨(some 26), .pick (.t 18) (.t 25) (.c (.bool false)), none, false⟩,
       ⟨(some 4), .move (.t 26), none, false⟩])
     (.ret)))⟩

/-- (*leadtrail/carry.Carry).Len -/
def c_carry_Carry_Len : AFn := ⟨1, [.tmp 2],
    (.seq (.region [⟨(some 2), .move (.c (.int .i64 0)), none, false⟩])
     (.seq (.seq (.region [⟨(some 3), .move (.t 0), none, false⟩,
       ⟨(some 4), .eq 1 false (.t 3) (.c .nilp), none, false⟩])
     (.cond (.t 4) (.seq (.region [⟨(some 2), .move (.c (.int .i64 0)), none, false⟩])
      (.ret)) (.skip)))
     (.seq (.region [⟨(some 5), .move (.t 0), none, false⟩,
       ⟨(some 6), .nilck (.t 5), none, false⟩,
       ⟨(some 7), .faddr 10 (.t 6), none, false⟩,
       ⟨(some 8), .load false 1 (.t 7), none, false⟩,
       ⟨(some 2), .move (.t 8), none, false⟩])
     (.ret))))⟩

/-- (*leadtrail/carry.Carry).Room -/
def c_carry_Carry_Room : AFn := ⟨1, [.tmp 2],
    (.seq (.region [⟨(some 2), .move (.c (.int .i64 0)), none, false⟩])
     (.seq (.seq (.region [⟨(some 3), .move (.t 0), none, false⟩,
       ⟨(some 4), .eq 1 false (.t 3) (.c .nilp), none, false⟩])
     (.cond (.t 4) (.seq (.region [⟨(some 2), .move (.c (.int .i64 0)), none, false⟩])
      (.ret)) (.skip)))
     (.seq (.region [⟨(some 5), .move (.t 0), none, false⟩,
       ⟨(some 6), .nilck (.t 5), none, false⟩,
       ⟨(some 7), .faddr 8 (.t 6), none, false⟩,
       ⟨(some 8), .load false 1 (.t 7), none, false⟩,
       ⟨(some 2), .move (.t 8), none, false⟩])
     (.ret))))⟩

/-- (*leadtrail/carry.Carry).Drop -/
def c_carry_Carry_Drop : AFn := ⟨2, [.tmp 4],
    (.seq (.region [⟨(some 4), .move (.c (.int .i64 0)), none, false⟩])
     (.seq (.block 0 (.seq (.region [⟨(some 6), .move (.t 0), none, false⟩,
        ⟨(some 7), .eq 1 false (.t 6) (.c .nilp), none, false⟩,
        ⟨(some 5), .move (.t 7), none, false⟩])
      (.cond (.t 5) (.seq (.region [⟨(some 4), .move (.c (.int .i64 2)), none, false⟩])
       (.ret)) (.seq (.region [⟨(some 9), .move (.t 1), none, false⟩,
         ⟨(some 10), .bin .lss (.t 9) (.c (.int .i64 0)), none, false⟩,
         ⟨(some 11), .move (.t 10), none, false⟩,
         ⟨(some 12), .move (.t 1), (some (11, false)), false⟩,
         ⟨(some 13), .move (.t 0), (some (11, false)), false⟩,
         ⟨(some 14), .nilck (.t 13), (some (11, false)), false⟩,
         ⟨(some 15), .faddr 10 (.t 14), (some (11, false)), false⟩,
         ⟨(some 16), .load false 1 (.t 15), (some (11, false)), false⟩,
         ⟨(some 17), .bin .gtr (.t 12) (.t 16), (some (11, false)), false⟩,
         ⟨(some 18), .pick (.t 11) (.c (.bool true)) (.t 17), none, false⟩,
         ⟨(some 8), .move (.t 18), none, false⟩])
       (.cond (.t 8) (.seq (.region [⟨(some 4), .move (.c (.int .i64 1)), none, false⟩])
        (.ret)) (.skip))))))
     (.seq (.region [⟨(some 19), .move (.t 0), none, false⟩,
       ⟨(some 20), .move (.t 0), none, false⟩,
       ⟨(some 21), .nilck (.t 20), none, false⟩,
       ⟨(some 22), .faddr 9 (.t 21), none, false⟩,
       ⟨(some 23), .load false 1 (.t 22), none, false⟩,
       ⟨(some 24), .move (.t 1), none, false⟩,
       ⟨(some 25), .bin .add (.t 23) (.t 24), none, false⟩,
       ⟨(some 26), .bin .rem (.t 25) (.c (.int .i64 8)), none, false⟩,
       ⟨(some 27), .nilck (.t 19), none, false⟩,
       ⟨(some 28), .faddr 9 (.t 27), none, false⟩,
       ⟨none, .store 1 (.t 28) (.t 26), none, false⟩])
     (.seq (.region [⟨(some 29), .move (.t 0), none, false⟩,
       ⟨(some 30), .nilck (.t 29), none, false⟩,
       ⟨(some 31), .faddr 10 (.t 30), none, false⟩,
       ⟨(some 32), .load false 1 (.t 31), none, false⟩,
       ⟨(some 33), .move (.t 1), none, false⟩,
       ⟨(some 34), .bin .sub (.t 32) (.t 33), none, false⟩,
       ⟨(some 35), .nilck (.t 29), none, false⟩,
       ⟨(some 36), .faddr 10 (.t 35), none, false⟩,
       ⟨none, .store 1 (.t 36) (.t 34), none, false⟩])
     (.seq (.region [⟨(some 4), .move (.c (.int .i64 0)), none, false⟩])
     (.ret))))))⟩

/-- (*leadtrail/leadtrailref02.Carry).Push -/
def c_leadtrailref02_Carry_Push : AFn := ⟨2, [.tmp 4],
    (.seq (.region [⟨(some 4), .move (.c (.int .i64 0)), none, false⟩])
     (.seq (.seq (.region [⟨(some 5), .move (.t 0), none, false⟩,
       ⟨(some 6), .nilck (.t 5), none, false⟩,
       ⟨(some 7), .faddr 0 (.t 6), none, false⟩,
       ⟨(some 8), .load false 1 (.t 7), none, false⟩,
       ⟨(some 9), .bin .eql (.t 8) (.c (.int .i64 0)), none, false⟩])
     (.cond (.t 9) (.seq (.region [⟨(some 4), .move (.c (.int .i64 2)), none, false⟩])
      (.ret)) (.skip)))
     (.seq (.seq (.region [⟨(some 10), .move (.t 0), none, false⟩,
       ⟨(some 11), .nilck (.t 10), none, false⟩,
       ⟨(some 12), .faddr 1 (.t 11), none, false⟩,
       ⟨(some 13), .load false 1 (.t 12), none, false⟩,
       ⟨(some 14), .len 0 (.t 13), none, true⟩,
       ⟨(some 15), .move (.t 0), none, false⟩,
       ⟨(some 16), .nilck (.t 15), none, false⟩,
       ⟨(some 17), .faddr 0 (.t 16), none, false⟩,
       ⟨(some 18), .load false 1 (.t 17), none, false⟩,
       ⟨(some 19), .bin .eql (.t 14) (.t 18), none, false⟩])
     (.cond (.t 19) (.seq (.region [⟨(some 4), .move (.c (.int .i64 3)), none, false⟩])
      (.ret)) (.skip)))
     (.seq (.region [⟨(some 20), .move (.t 0), none, false⟩,
       ⟨(some 21), .bslice .uq 1 false 0 [(.int .u8 0)] [], none, false⟩,
       ⟨(some 22), .move (.t 0), none, false⟩,
       ⟨(some 23), .nilck (.t 22), none, false⟩,
       ⟨(some 24), .faddr 1 (.t 23), none, false⟩,
       ⟨(some 25), .load false 1 (.t 24), none, false⟩,
       ⟨(some 26), .append false .uq 1 false 1 (.t 21) (.t 25), none, false⟩,
       ⟨(some 27), .move (.t 1), none, false⟩,
       ⟨(some 28), .bslice .lit 1 false 1 [(.int .u8 0)] [(0, (.t 27))], none, false⟩,
       ⟨(some 29), .append false .uq 1 false 1 (.t 26) (.t 28), none, false⟩,
       ⟨(some 30), .nilck (.t 20), none, false⟩,
       ⟨(some 31), .faddr 1 (.t 30), none, false⟩,
       ⟨none, .store 1 (.t 31) (.t 29), none, false⟩])
     (.seq (.region [⟨(some 4), .move (.c (.int .i64 0)), none, false⟩])
     (.ret))))))⟩

/-- (*leadtrail/leadtrailref02.Carry).Drop -/
def c_leadtrailref02_Carry_Drop : AFn := ⟨2, [.tmp 4],
    (.seq (.region [⟨(some 4), .move (.c (.int .i64 0)), none, false⟩])
     (.seq (.seq (.region [⟨(some 5), .move (.t 0), none, false⟩,
       ⟨(some 6), .nilck (.t 5), none, false⟩,
       ⟨(some 7), .faddr 0 (.t 6), none, false⟩,
       ⟨(some 8), .load false 1 (.t 7), none, false⟩,
       ⟨(some 9), .bin .eql (.t 8) (.c (.int .i64 0)), none, false⟩])
     (.cond (.t 9) (.seq (.region [⟨(some 4), .move (.c (.int .i64 2)), none, false⟩])
      (.ret)) (.skip)))
     (.seq (.seq (.region [⟨(some 10), .move (.t 1), none, false⟩,
       ⟨(some 11), .bin .lss (.t 10) (.c (.int .i64 0)), none, false⟩,
       ⟨(some 12), .move (.t 11), none, false⟩,
       ⟨(some 13), .move (.t 1), (some (12, false)), false⟩,
       ⟨(some 14), .move (.t 0), (some (12, false)), false⟩,
       ⟨(some 15), .nilck (.t 14), (some (12, false)), false⟩,
       ⟨(some 16), .faddr 1 (.t 15), (some (12, false)), false⟩,
       ⟨(some 17), .load false 1 (.t 16), (some (12, false)), false⟩,
       ⟨(some 18), .len 0 (.t 17), (some (12, false)), false⟩,
       ⟨(some 19), .bin .gtr (.t 13) (.t 18), (some (12, false)), false⟩,
       ⟨(some 20), .pick (.t 12) (.c (.bool true)) (.t 19), none, false⟩])
     (.cond (.t 20) (.seq (.region [⟨(some 4), .move (.c (.int .i64 1)), none, false⟩])
      (.ret)) (.skip)))
     (.seq (.region [⟨(some 21), .move (.t 0), none, false⟩,
       ⟨(some 22), .bslice .uq 1 false 0 [(.int .u8 0)] [], none, false⟩,
       ⟨(some 23), .move (.t 0), none, false⟩,
       ⟨(some 24), .nilck (.t 23), none, false⟩,
       ⟨(some 25), .faddr 1 (.t 24), none, false⟩,
       ⟨(some 26), .load false 1 (.t 25), none, false⟩,
       ⟨(some 27), .move (.t 1), none, false⟩,
       ⟨(some 28), .slice 1 (.t 26) (some (.t 27)) none, none, false⟩,
       ⟨(some 29), .append false .uq 1 false 1 (.t 22) (.t 28), none, false⟩,
       ⟨(some 30), .nilck (.t 21), none, false⟩,
       ⟨(some 31), .faddr 1 (.t 30), none, false⟩,
       ⟨none, .store 1 (.t 31) (.t 29), none, false⟩])
     (.seq (.region [⟨(some 4), .move (.c (.int .i64 0)), none, false⟩])
     (.ret))))))⟩

def c_leadtraillaw02_CarryQueue_l0 : ACode :=
    (.seq (.region [⟨(some 29), .bin .lss (.t 28) (.t 27), none, false⟩])
     (.seq (.cond (.t 29) (.skip) (.exit 0))
     (.seq (.block 1 (.seq (.region [⟨(some 30), .move (.t 28), none, false⟩,
        ⟨(some 31), .iaddr 1 (.t 26) (.t 28), none, false⟩,
        ⟨(some 32), .load false 1 (.t 31), none, false⟩,
        ⟨(some 9), .move (.t 30), none, false⟩,
        ⟨(some 10), .move (.t 32), none, false⟩])
      (.seq (.region [⟨(some 33), .move (.t 5), none, false⟩,
        ⟨(some 34), .callI 10 [(.t 33)], none, false⟩,
        ⟨(some 35), .move (.t 5), none, false⟩,
        ⟨(some 36), .callI 11 [(.t 35)], none, false⟩,
        ⟨(some 37), .bin .eql (.t 34) (.t 36), none, false⟩,
        ⟨(some 11), .move (.t 37), none, false⟩])
      (.seq (.region [⟨(some 38), .move (.t 5), none, false⟩,
        ⟨(some 39), .move (.t 10), none, false⟩,
        ⟨(some 40), .callI 4 [(.t 38), (.t 39)], none, false⟩,
        ⟨(some 12), .move (.t 40), none, false⟩])
      (.seq (.seq (.region [⟨(some 41), .move (.t 11), none, false⟩,
        ⟨(some 42), .move (.t 12), none, false⟩,
        ⟨(some 43), .bin .eql (.t 42) (.c (.int .i64 3)), none, false⟩,
        ⟨(some 44), .eq 0 true (.t 41) (.t 43), none, false⟩,
        ⟨(some 45), .move (.t 44), none, false⟩,
        ⟨(some 46), .move (.t 11), (some (45, false)), false⟩,
        ⟨(some 47), .un .not (.t 46), (some (45, false)), false⟩,
        ⟨(some 48), .move (.t 47), (some (45, false)), false⟩,
        ⟨(some 49), .move (.t 12), (some (48, true)), false⟩,
        ⟨(some 50), .bin .neq (.t 49) (.c (.int .i64 0)), (some (48, true)), false⟩,
        ⟨(some 51), .pick (.t 48) (.t 50) (.c (.bool false)), (some (45, false)), false⟩,
        ⟨(some 52), .pick (.t 45) (.c (.bool true)) (.t 51), none, false⟩])
      (.cond (.t 52) (.seq (.region [⟨(some 4), .move (.c (.bool false)), none, false⟩])
       (.ret)) (.skip)))
      (.seq (.seq (.region [⟨(some 53), .move (.t 11), none, false⟩,
        ⟨(some 54), .un .not (.t 53), none, false⟩])
      (.cond (.t 54) (.region [⟨(some 55), .move (.t 7), none, false⟩,
         ⟨(some 56), .move (.t 10), none, false⟩,
         ⟨(some 57), .bslice .lit 1 false 1 [(.int .u8 0)] [(0, (.t 56))], none, false⟩,
         ⟨(some 58), .append false .uq 1 false 1 (.t 55) (.t 57), none, false⟩,
         ⟨(some 7), .move (.t 58), none, false⟩]) (.skip)))
      (.seq (.seq (.region [⟨(some 59), .move (.t 9), none, false⟩,
        ⟨(some 60), .move (.t 1), none, false⟩,
        ⟨(some 61), .len 0 (.t 60), none, false⟩,
        ⟨(some 62), .bin .lss (.t 59) (.t 61), none, false⟩])
      (.cond (.t 62) (.seq (.region [⟨(some 63), .move (.t 1), none, false⟩,
         ⟨(some 64), .move (.t 9), none, false⟩,
         ⟨(some 65), .iaddr 1 (.t 63) (.t 64), none, true⟩,
         ⟨(some 66), .load false 1 (.t 65), none, true⟩,
         ⟨(some 67), .mx [(.t 66), (.c (.int .i64 0))], none, false⟩,
         ⟨(some 68), .move (.t 5), none, false⟩,
         ⟨(some 69), .callI 10 [(.t 68)], none, false⟩,
         ⟨(some 70), .mn [(.t 67), (.t 69)], none, false⟩,
         ⟨(some 13), .move (.t 70), none, false⟩])
       (.seq (.region [⟨(some 71), .move (.t 8), none, false⟩,
         ⟨(some 72), .move (.t 5), none, false⟩,
         ⟨(some 73), .callI 5 [(.t 72)], none, false⟩,
         ⟨(some 74), .move (.t 13), none, false⟩,
         ⟨(some 75), .slice 1 (.t 73) none (some (.t 74)), none, false⟩,
         ⟨(some 76), .append false .uq 1 false 1 (.t 71) (.t 75), none, false⟩,
         ⟨(some 8), .move (.t 76), none, false⟩])
       (.seq (.region [⟨(some 77), .move (.t 5), none, false⟩,
         ⟨(some 78), .move (.t 13), none, false⟩,
         ⟨(some 79), .callI 12 [(.t 77), (.t 78)], none, false⟩,
         ⟨(some 80), .bin .neq (.t 79) (.c (.int .i64 0)), none, false⟩])
       (.cond (.t 80) (.seq (.region [⟨(some 4), .move (.c (.bool false)), none, false⟩])
        (.ret)) (.skip))))) (.skip)))
      (.seq (.region [⟨(some 81), .move (.t 5), none, false⟩,
        ⟨(some 82), .callI 10 [(.t 81)], none, false⟩,
        ⟨(some 83), .move (.t 5), none, false⟩,
        ⟨(some 84), .callI 11 [(.t 83)], none, false⟩,
        ⟨(some 85), .bin .gtr (.t 82) (.t 84), none, false⟩])
      (.cond (.t 85) (.seq (.region [⟨(some 4), .move (.c (.bool false)), none, false⟩])
       (.ret)) (.skip))))))))))
     (.region [⟨(some 86), .bin .add (.t 28) (.c (.int .i64 1)), none, false⟩,
       ⟨(some 28), .move (.t 86), none, false⟩]))))
/-- leadtrail/leadtraillaw02.CarryQueue -/
def c_leadtraillaw02_CarryQueue : AFn := ⟨2, [.tmp 4],
    (.seq (.region [⟨(some 4), .move (.c (.bool false)), none, false⟩])
     (.seq (.seq (.region [⟨(some 14), .callP F_fixed [], none, false⟩,
       ⟨(some 15), .un .not (.t 14), none, false⟩])
     (.cond (.t 15) (.seq (.region [⟨(some 4), .move (.c (.bool false)), none, false⟩])
      (.ret)) (.skip)))
     (.seq (.region [⟨(some 17), .callI 3 [(.c (.int .i64 8))], none, false⟩,
       ⟨(some 16), .move (.t 17), none, false⟩,
       ⟨(some 18), .ext 0 (.t 16), none, false⟩,
       ⟨(some 19), .ext 1 (.t 16), none, false⟩,
       ⟨(some 5), .move (.t 18), none, false⟩,
       ⟨(some 6), .move (.t 19), none, false⟩])
     (.seq (.seq (.region [⟨(some 20), .move (.t 5), none, false⟩,
       ⟨(some 21), .eq 1 false (.t 20) (.c .nilp), none, false⟩,
       ⟨(some 22), .move (.t 21), none, false⟩,
       ⟨(some 23), .move (.t 6), (some (22, false)), false⟩,
       ⟨(some 24), .bin .neq (.t 23) (.c (.int .i64 0)), (some (22, false)), false⟩,
       ⟨(some 25), .pick (.t 22) (.c (.bool true)) (.t 24), none, false⟩])
     (.cond (.t 25) (.seq (.region [⟨(some 4), .move (.c (.bool false)), none, false⟩])
      (.ret)) (.skip)))
     (.seq (.region [⟨(some 7), .move (.c .nils), none, false⟩,
       ⟨(some 8), .move (.c .nils), none, false⟩])
     (.seq (.seq (.ghost (.mkuq 7 1) (.ghost (.mkuq 8 1) (.region [⟨(some 26), .move (.t 0), none, false⟩,
       ⟨(some 27), .len 0 (.t 26), none, false⟩,
       ⟨(some 28), .move (.c (.int .i64 0)), none, false⟩])))
     (.block 0 (.loop [1, 5, 7, 8, 26, 27, 28] c_leadtraillaw02_CarryQueue_l0)))
     (.seq (.region [⟨(some 87), .move (.t 8), none, false⟩,
       ⟨(some 88), .b2s (.t 87), none, true⟩,
       ⟨(some 89), .move (.t 5), none, false⟩,
       ⟨(some 90), .callI 5 [(.t 89)], none, false⟩,
       ⟨(some 91), .b2s (.t 90), none, true⟩,
       ⟨(some 92), .bin .add (.t 88) (.t 91), none, false⟩,
       ⟨(some 93), .move (.t 7), none, false⟩,
       ⟨(some 94), .b2s (.t 93), none, true⟩,
       ⟨(some 95), .bin .eql (.t 92) (.t 94), none, false⟩,
       ⟨(some 4), .move (.t 95), none, false⟩])
     (.ret))))))))⟩

def tab : Nat → Option AFn
  | 0 => some c_leadtraillaw02_CarryNil
  | 1 => some c_leadtraillaw02_CarryPlays
  | 2 => some c_leadtraillaw02_fixed
  | 3 => some c_carry_New
  | 4 => some c_carry_Carry_Push
  | 5 => some c_carry_Carry_Bytes
  | 6 => some c_carry_Carry_At
  | 7 => some c_leadtrailref02_New
  | 8 => some c_leadtraillaw02_step
  | 9 => some c_leadtraillaw02_same
  | 10 => some c_carry_Carry_Len
  | 11 => some c_carry_Carry_Room
  | 12 => some c_carry_Carry_Drop
  | 13 => some c_leadtrailref02_Carry_Push
  | 14 => some c_leadtrailref02_Carry_Drop
  | 15 => some c_leadtraillaw02_CarryQueue
  | _ => none

def fo : Nat → FuncId
  | 0 => 6
  | 1 => 4
  | 2 => 7
  | 3 => 8
  | 4 => 9
  | 5 => 10
  | 6 => 12
  | 7 => 13
  | 8 => 14
  | 9 => 15
  | 10 => 16
  | 11 => 17
  | 12 => 18
  | 13 => 19
  | 14 => 20
  | 15 => 5
  | _ => 0


end Go.AM.C1
