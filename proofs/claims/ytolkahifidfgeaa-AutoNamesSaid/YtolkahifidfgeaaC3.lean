/- The abstract code of the program's functions and of the statements, continued. -/
import Derived.Test.YtolkahifidfgeaaC2

/- The abstract code of the functions that the rows Auto* reach, part 5, printed by gen_b1.py: it is that of the program, and each is what its code computes. -/
set_option linter.unusedVariables false
namespace Go.AM.B1
open Go.AM

def b_leadtrailref11_Prefix_l1 : ACode :=
    (.seq (.seq (.region [⟨(some 19), .move (.t 5), none, false⟩,
       ⟨(some 20), .faddr 0 (.t 1), none, true⟩,
       ⟨(some 21), .load false 1 (.t 20), none, true⟩,
       ⟨(some 22), .len 0 (.t 21), none, false⟩,
       ⟨(some 23), .bin .lss (.t 19) (.t 22), none, false⟩])
     (.cond (.t 23) (.skip) (.exit 2)))
     (.seq (.block 3 (.seq (.region [⟨(some 26), .faddr 0 (.t 1), none, true⟩,
        ⟨(some 27), .load false 1 (.t 26), none, true⟩,
        ⟨(some 28), .move (.t 4), none, false⟩,
        ⟨(some 29), .iaddr 2 (.t 27) (.t 28), none, false⟩,
        ⟨(some 30), .faddr 0 (.t 29), none, false⟩,
        ⟨(some 31), .load false 1 (.t 30), none, false⟩,
        ⟨(some 32), .len 0 (.t 31), none, false⟩,
        ⟨(some 6), .move (.t 32), none, false⟩])
      (.seq (.region [⟨(some 33), .move (.t 6), none, false⟩,
        ⟨(some 34), .faddr 0 (.t 1), none, true⟩,
        ⟨(some 35), .load false 1 (.t 34), none, true⟩,
        ⟨(some 36), .move (.t 5), none, false⟩,
        ⟨(some 37), .iaddr 2 (.t 35) (.t 36), none, false⟩,
        ⟨(some 38), .faddr 0 (.t 37), none, false⟩,
        ⟨(some 39), .load false 1 (.t 38), none, false⟩,
        ⟨(some 40), .len 0 (.t 39), none, false⟩,
        ⟨(some 41), .bin .lss (.t 33) (.t 40), none, false⟩])
      (.cond (.t 41) (.seq (.region [⟨(some 43), .faddr 0 (.t 1), none, true⟩,
         ⟨(some 44), .load false 1 (.t 43), none, true⟩,
         ⟨(some 45), .move (.t 4), none, false⟩,
         ⟨(some 46), .iaddr 2 (.t 44) (.t 45), none, true⟩,
         ⟨(some 47), .load true 2 (.t 46), none, true⟩,
         ⟨(some 48), .faddr 0 (.t 1), none, true⟩,
         ⟨(some 49), .load false 1 (.t 48), none, true⟩,
         ⟨(some 50), .move (.t 5), none, false⟩,
         ⟨(some 51), .iaddr 2 (.t 49) (.t 50), none, true⟩,
         ⟨(some 52), .load true 2 (.t 51), none, true⟩,
         ⟨(some 53), .move (.t 6), none, false⟩,
         ⟨(some 54), .callP F_leadtrailref09_Common [(.t 47), (.t 52), (.t 53)], none, false⟩,
         ⟨(some 42), .move (.t 54), none, false⟩,
         ⟨(some 55), .ext 0 (.t 42), none, false⟩,
         ⟨(some 56), .ext 1 (.t 42), none, false⟩,
         ⟨(some 7), .move (.t 55), none, false⟩,
         ⟨(some 8), .move (.t 56), none, false⟩])
       (.seq (.region [⟨(some 57), .move (.t 8), none, false⟩])
       (.cond (.t 57) (.seq (.region [⟨(some 2), .move (.c (.bool false)), none, false⟩,
          ⟨(some 3), .move (.c (.int .i64 0)), none, false⟩])
        (.ret)) (.skip)))) (.skip)))))
     (.region [⟨(some 24), .move (.t 5), none, false⟩,
       ⟨(some 25), .bin .add (.t 24) (.c (.int .i64 1)), none, false⟩,
       ⟨(some 5), .move (.t 25), none, false⟩])))
def b_leadtrailref11_Prefix_l0 : ACode :=
    (.seq (.seq (.region [⟨(some 12), .move (.t 4), none, false⟩,
       ⟨(some 13), .faddr 0 (.t 1), none, true⟩,
       ⟨(some 14), .load false 1 (.t 13), none, true⟩,
       ⟨(some 15), .len 0 (.t 14), none, false⟩,
       ⟨(some 16), .bin .lss (.t 12) (.t 15), none, false⟩])
     (.cond (.t 16) (.skip) (.exit 0)))
     (.seq (.block 1 (.seq (.region [⟨(some 5), .move (.c (.int .i64 0)), none, false⟩])
      (.block 2 (.loop [1, 4, 5] b_leadtrailref11_Prefix_l1))))
     (.region [⟨(some 17), .move (.t 4), none, false⟩,
       ⟨(some 18), .bin .add (.t 17) (.c (.int .i64 1)), none, false⟩,
       ⟨(some 4), .move (.t 18), none, false⟩])))
/-- leadtrail/leadtrailref11.Prefix -/
def b_leadtrailref11_Prefix : AFn := ⟨1, [.tmp 2, .tmp 3],
    (.seq (.region [⟨(some 1), .boxR 1 (.t 0), none, false⟩,
       ⟨(some 2), .move (.c (.bool false)), none, false⟩,
       ⟨(some 3), .move (.c (.int .i64 0)), none, false⟩])
     (.seq (.seq (.region [⟨(some 9), .load true 1 (.t 1), none, true⟩,
       ⟨(some 10), .callP F_leadtrailref08_Valid [(.t 9)], none, false⟩,
       ⟨(some 11), .un .not (.t 10), none, false⟩])
     (.cond (.t 11) (.seq (.region [⟨(some 2), .move (.c (.bool false)), none, false⟩,
        ⟨(some 3), .move (.c (.int .i64 84)), none, false⟩])
      (.ret)) (.skip)))
     (.seq (.seq (.region [⟨(some 4), .move (.c (.int .i64 0)), none, false⟩])
     (.block 0 (.loop [1, 4] b_leadtrailref11_Prefix_l0)))
     (.seq (.region [⟨(some 2), .move (.c (.bool true)), none, false⟩,
       ⟨(some 3), .move (.c (.int .i64 0)), none, false⟩])
     (.ret)))))⟩
theorem ok_leadtrailref11_Prefix : okFunc Go.Proofs.Try.prog fo Go.Proofs.Try.f40 b_leadtrailref11_Prefix = true := by kernel_rfl
theorem du_leadtrailref11_Prefix : dutiesF Go.Proofs.Try.f40 b_leadtrailref11_Prefix = [(44, F_leadtrailref08_Valid), (63, F_leadtrailref09_Common)] := by kernel_rfl
theorem fn_leadtrailref11_Prefix : FnOk P fo 40 b_leadtrailref11_Prefix := ⟨_, Go.Proofs.Try.func40, ok_leadtrailref11_Prefix, by rw [du_leadtrailref11_Prefix]; exact List.forall_mem_cons.2 ⟨p_leadtrailref08_Valid, List.forall_mem_cons.2 ⟨p_leadtrailref09_Common, fun _ h => by cases h⟩⟩⟩
def F_leadtrailref11_Prefix : List PV → Option PV := pureF (fun _ => none) b_leadtrailref11_Prefix
theorem p_leadtrailref11_Prefix : PureFn P 40 F_leadtrailref11_Prefix := pureF_ok noTable fn_leadtrailref11_Prefix

def b_leadtrailref13_find_l0 : ACode :=
    (.seq (.seq (.region [⟨(some 6), .move (.t 5), none, false⟩,
       ⟨(some 7), .move (.t 0), none, false⟩,
       ⟨(some 8), .len 0 (.t 7), none, false⟩,
       ⟨(some 9), .bin .lss (.t 6) (.t 8), none, false⟩])
     (.cond (.t 9) (.skip) (.exit 0)))
     (.seq (.block 1 (.seq (.region [⟨(some 12), .move (.t 0), none, false⟩,
        ⟨(some 13), .move (.t 5), none, false⟩,
        ⟨(some 14), .iaddr 33 (.t 12) (.t 13), none, true⟩,
        ⟨(some 15), .load true 33 (.t 14), none, true⟩,
        ⟨(some 16), .load true 33 (.t 3), none, true⟩,
        ⟨(some 17), .eqR (.row [1, 0, 0, 0, 0, 0, 0, 0, 0, 0, 0, 0, 0, 0, 0, 0, 0, 0, 0, 0, 0, 0, 0, 0, 0, 0, 0, 0, 0, 0, 0, 0, 0]) false (.t 15) (.t 16), none, false⟩])
      (.cond (.t 17) (.seq (.region [⟨(some 18), .move (.t 5), none, false⟩,
         ⟨(some 4), .move (.t 18), none, false⟩])
       (.ret)) (.skip))))
     (.region [⟨(some 10), .move (.t 5), none, false⟩,
       ⟨(some 11), .bin .add (.t 10) (.c (.int .i64 1)), none, false⟩,
       ⟨(some 5), .move (.t 11), none, false⟩])))
/-- leadtrail/leadtrailref13.find -/
def b_leadtrailref13_find : AFn := ⟨2, [.tmp 4],
    (.seq (.region [⟨(some 3), .boxR 33 (.t 1), none, false⟩,
       ⟨(some 4), .move (.c (.int .i64 0)), none, false⟩])
     (.seq (.seq (.region [⟨(some 5), .move (.c (.int .i64 0)), none, false⟩])
     (.block 0 (.loop [0, 3, 5] b_leadtrailref13_find_l0)))
     (.seq (.region [⟨(some 4), .move (.c (.int .i64 (-1))), none, false⟩])
     (.ret))))⟩
theorem ok_leadtrailref13_find : okFunc Go.Proofs.Try.prog fo Go.Proofs.Try.f65 b_leadtrailref13_find = true := by kernel_rfl
theorem du_leadtrailref13_find : dutiesF Go.Proofs.Try.f65 b_leadtrailref13_find = [] := by kernel_rfl
theorem fn_leadtrailref13_find : FnOk P fo 65 b_leadtrailref13_find := ⟨_, Go.Proofs.Try.func65, ok_leadtrailref13_find, by rw [du_leadtrailref13_find]; exact fun _ h => by cases h⟩
def F_leadtrailref13_find : List PV → Option PV := pureF (fun _ => none) b_leadtrailref13_find
theorem p_leadtrailref13_find : PureFn P 65 F_leadtrailref13_find := pureF_ok noTable fn_leadtrailref13_find

def b_leadtrailref13_Sets_l1 : ACode :=
    (.seq (.seq (.region [⟨(some 31), .move (.t 9), none, false⟩,
       ⟨(some 32), .faddr 0 (.t 1), none, true⟩,
       ⟨(some 33), .load false 1 (.t 32), none, true⟩,
       ⟨(some 34), .move (.t 7), none, false⟩,
       ⟨(some 35), .iaddr 2 (.t 33) (.t 34), none, false⟩,
       ⟨(some 36), .faddr 0 (.t 35), none, false⟩,
       ⟨(some 37), .load false 1 (.t 36), none, false⟩,
       ⟨(some 38), .len 0 (.t 37), none, false⟩,
       ⟨(some 39), .bin .lss (.t 31) (.t 38), none, false⟩])
     (.cond (.t 39) (.skip) (.exit 2)))
     (.seq (.block 3 (.region [⟨(some 42), .move (.t 9), none, false⟩,
        ⟨(some 43), .faddr 0 (.t 1), none, true⟩,
        ⟨(some 44), .load false 1 (.t 43), none, true⟩,
        ⟨(some 45), .move (.t 7), none, false⟩,
        ⟨(some 46), .iaddr 2 (.t 44) (.t 45), none, false⟩,
        ⟨(some 47), .faddr 0 (.t 46), none, false⟩,
        ⟨(some 48), .load false 1 (.t 47), none, false⟩,
        ⟨(some 49), .move (.t 9), none, false⟩,
        ⟨(some 50), .iaddr 1 (.t 48) (.t 49), none, false⟩,
        ⟨(some 51), .load false 1 (.t 50), none, false⟩,
        ⟨(some 52), .callP F_leadtrailref03_Members [(.t 51)], none, false⟩,
        ⟨(some 53), .iaddrA 8 256 (.t 8) (.t 42), none, false⟩,
        ⟨none, .store 256 (.t 53) (.t 52), none, false⟩]))
     (.region [⟨(some 40), .move (.t 9), none, false⟩,
       ⟨(some 41), .bin .add (.t 40) (.c (.int .i64 1)), none, false⟩,
       ⟨(some 9), .move (.t 41), none, false⟩])))
def b_leadtrailref13_Sets_l0 : ACode :=
    (.seq (.seq (.region [⟨(some 21), .move (.t 7), none, false⟩,
       ⟨(some 22), .faddr 0 (.t 1), none, true⟩,
       ⟨(some 23), .load false 1 (.t 22), none, true⟩,
       ⟨(some 24), .len 0 (.t 23), none, false⟩,
       ⟨(some 25), .bin .lss (.t 21) (.t 24), none, false⟩])
     (.cond (.t 25) (.skip) (.exit 0)))
     (.seq (.block 1 (.seq (.region [⟨(some 28), .move (.t 7), none, false⟩,
        ⟨(some 29), .faddr 1 (.t 6), none, false⟩,
        ⟨(some 30), .iaddrA 32 1 (.t 29) (.t 28), none, false⟩,
        ⟨none, .store 1 (.t 30) (.c (.bool true)), none, false⟩])
      (.seq (.region [⟨(some 8), .alloc (List.replicate 2048 (.bool false)), none, false⟩])
      (.seq (.seq (.region [⟨(some 9), .move (.c (.int .i64 0)), none, false⟩])
      (.block 2 (.loop [1, 5, 6, 7, 8, 9] b_leadtrailref13_Sets_l1)))
      (.region [⟨(some 54), .move (.t 5), none, false⟩,
        ⟨(some 55), .load true 2048 (.t 8), none, false⟩,
        ⟨(some 56), .bslice .lit 2048 true 1 (List.replicate 2048 (.bool false)) [(0, (.t 55))], none, false⟩,
        ⟨(some 57), .append false .uq 2048 true 2048 (.t 54) (.t 56), none, false⟩,
        ⟨(some 5), .move (.t 57), none, false⟩])))))
     (.region [⟨(some 26), .move (.t 7), none, false⟩,
       ⟨(some 27), .bin .add (.t 26) (.c (.int .i64 1)), none, false⟩,
       ⟨(some 7), .move (.t 27), none, false⟩])))
def b_leadtrailref13_Sets_l4 : ACode :=
    (.seq (.seq (.region [⟨(some 77), .move (.t 18), none, false⟩,
       ⟨(some 78), .faddr 0 (.t 1), none, true⟩,
       ⟨(some 79), .load false 1 (.t 78), none, true⟩,
       ⟨(some 80), .len 0 (.t 79), none, false⟩,
       ⟨(some 81), .bin .lss (.t 77) (.t 80), none, false⟩])
     (.cond (.t 81) (.skip) (.exit 8)))
     (.seq (.block 9 (.seq (.region [⟨(some 84), .move (.t 18), none, false⟩,
        ⟨(some 85), .move (.t 10), none, false⟩,
        ⟨(some 86), .move (.t 12), none, false⟩,
        ⟨(some 87), .move (.t 18), none, false⟩,
        ⟨(some 88), .iaddr 33 (.t 85) (.t 86), none, true⟩,
        ⟨(some 89), .faddr 1 (.t 88), none, false⟩,
        ⟨(some 90), .iaddrA 32 1 (.t 89) (.t 87), none, false⟩,
        ⟨(some 91), .load false 1 (.t 90), none, false⟩,
        ⟨(some 92), .move (.t 91), none, false⟩,
        ⟨(some 93), .move (.t 5), (some (92, true)), false⟩,
        ⟨(some 94), .move (.t 18), (some (92, true)), false⟩,
        ⟨(some 95), .move (.t 10), (some (92, true)), false⟩,
        ⟨(some 96), .move (.t 12), (some (92, true)), false⟩,
        ⟨(some 97), .iaddr 33 (.t 95) (.t 96), (some (92, true)), true⟩,
        ⟨(some 98), .faddr 0 (.t 97), (some (92, true)), false⟩,
        ⟨(some 99), .load false 1 (.t 98), (some (92, true)), false⟩,
        ⟨(some 100), .move (.t 14), (some (92, true)), false⟩,
        ⟨(some 101), .iaddr 2048 (.t 93) (.t 94), (some (92, true)), true⟩,
        ⟨(some 102), .iaddrA 8 256 (.t 101) (.t 99), (some (92, true)), false⟩,
        ⟨(some 103), .iaddrA 256 1 (.t 102) (.t 100), (some (92, true)), false⟩,
        ⟨(some 104), .load false 1 (.t 103), (some (92, true)), false⟩,
        ⟨(some 105), .pick (.t 92) (.t 104) (.c (.bool false)), none, false⟩,
        ⟨(some 106), .faddr 1 (.t 15), none, false⟩,
        ⟨(some 107), .iaddrA 32 1 (.t 106) (.t 84), none, false⟩,
        ⟨none, .store 1 (.t 107) (.t 105), none, false⟩])
      (.seq (.region [⟨(some 108), .move (.t 16), none, false⟩,
        ⟨(some 109), .move (.t 108), none, false⟩,
        ⟨(some 110), .move (.t 18), (some (109, false)), false⟩,
        ⟨(some 111), .faddr 1 (.t 15), (some (109, false)), false⟩,
        ⟨(some 112), .iaddrA 32 1 (.t 111) (.t 110), (some (109, false)), false⟩,
        ⟨(some 113), .load false 1 (.t 112), (some (109, false)), false⟩,
        ⟨(some 114), .pick (.t 109) (.c (.bool true)) (.t 113), none, false⟩,
        ⟨(some 16), .move (.t 114), none, false⟩])
      (.region [⟨(some 115), .move (.t 17), none, false⟩,
        ⟨(some 116), .move (.t 115), none, false⟩,
        ⟨(some 117), .move (.t 18), (some (116, false)), false⟩,
        ⟨(some 118), .faddr 1 (.t 15), (some (116, false)), false⟩,
        ⟨(some 119), .iaddrA 32 1 (.t 118) (.t 117), (some (116, false)), false⟩,
        ⟨(some 120), .load false 1 (.t 119), (some (116, false)), false⟩,
        ⟨(some 121), .move (.t 120), (some (116, false)), false⟩,
        ⟨(some 122), .faddr 0 (.t 1), (some (121, true)), true⟩,
        ⟨(some 123), .load false 1 (.t 122), (some (121, true)), true⟩,
        ⟨(some 124), .move (.t 18), (some (121, true)), false⟩,
        ⟨(some 125), .iaddr 2 (.t 123) (.t 124), (some (121, true)), true⟩,
        ⟨(some 126), .faddr 0 (.t 125), (some (121, true)), false⟩,
        ⟨(some 127), .load false 1 (.t 126), (some (121, true)), false⟩,
        ⟨(some 128), .len 0 (.t 127), (some (121, true)), true⟩,
        ⟨(some 129), .faddr 0 (.t 15), (some (121, true)), false⟩,
        ⟨(some 130), .load false 1 (.t 129), (some (121, true)), false⟩,
        ⟨(some 131), .bin .eql (.t 128) (.t 130), (some (121, true)), false⟩,
        ⟨(some 132), .pick (.t 121) (.t 131) (.c (.bool false)), (some (116, false)), false⟩,
        ⟨(some 133), .pick (.t 116) (.c (.bool true)) (.t 132), none, false⟩,
        ⟨(some 17), .move (.t 133), none, false⟩]))))
     (.region [⟨(some 82), .move (.t 18), none, false⟩,
       ⟨(some 83), .bin .add (.t 82) (.c (.int .i64 1)), none, false⟩,
       ⟨(some 18), .move (.t 83), none, false⟩])))
def b_leadtrailref13_Sets_l3 : ACode :=
    (.seq (.seq (.region [⟨(some 66), .move (.t 14), none, false⟩,
       ⟨(some 67), .bin .lss (.t 66) (.c (.int .i64 256)), none, false⟩])
     (.cond (.t 67) (.skip) (.exit 6)))
     (.seq (.block 7 (.seq (.region [⟨(some 70), .move (.t 10), none, false⟩,
        ⟨(some 71), .move (.t 12), none, false⟩,
        ⟨(some 72), .iaddr 33 (.t 70) (.t 71), none, false⟩,
        ⟨(some 73), .faddr 0 (.t 72), none, false⟩,
        ⟨(some 74), .load false 1 (.t 73), none, false⟩,
        ⟨(some 75), .bin .add (.t 74) (.c (.int .i64 1)), none, false⟩,
        ⟨(some 76), .build [(.int .i64 0), (.bool false), (.bool false), (.bool false), (.bool false), (.bool false), (.bool false), (.bool false), (.bool false), (.bool false), (.bool false), (.bool false), (.bool false), (.bool false), (.bool false), (.bool false), (.bool false), (.bool false), (.bool false), (.bool false), (.bool false), (.bool false), (.bool false), (.bool false), (.bool false), (.bool false), (.bool false), (.bool false), (.bool false), (.bool false), (.bool false), (.bool false), (.bool false)] [(0, 1, (.t 75))], none, false⟩,
        ⟨(some 15), .alloc [(.int .i64 0), (.bool false), (.bool false), (.bool false), (.bool false), (.bool false), (.bool false), (.bool false), (.bool false), (.bool false), (.bool false), (.bool false), (.bool false), (.bool false), (.bool false), (.bool false), (.bool false), (.bool false), (.bool false), (.bool false), (.bool false), (.bool false), (.bool false), (.bool false), (.bool false), (.bool false), (.bool false), (.bool false), (.bool false), (.bool false), (.bool false), (.bool false), (.bool false)], none, false⟩,
        ⟨none, .store 33 (.t 15) (.t 76), none, false⟩])
      (.seq (.region [⟨(some 16), .move (.c (.bool false)), none, false⟩,
        ⟨(some 17), .move (.c (.bool false)), none, false⟩])
      (.seq (.seq (.region [⟨(some 18), .move (.c (.int .i64 0)), none, false⟩])
      (.block 8 (.loop [1, 5, 10, 11, 12, 13, 14, 15, 16, 17, 18] b_leadtrailref13_Sets_l4)))
      (.seq (.region [⟨(some 134), .move (.t 14), none, false⟩,
        ⟨(some 135), .iaddrA 256 1 (.t 13) (.t 134), none, false⟩,
        ⟨none, .store 1 (.t 135) (.c (.int .i64 (-2))), none, false⟩])
      (.seq (.region [⟨(some 136), .move (.t 16), none, false⟩,
        ⟨(some 137), .move (.t 136), none, false⟩,
        ⟨(some 138), .move (.t 17), (some (137, true)), false⟩,
        ⟨(some 139), .pick (.t 137) (.t 138) (.c (.bool false)), none, false⟩])
      (.cond (.t 139) (.region [⟨(some 140), .move (.t 14), none, false⟩,
         ⟨(some 141), .iaddrA 256 1 (.t 13) (.t 140), none, false⟩,
         ⟨none, .store 1 (.t 141) (.c (.int .i64 (-1))), none, false⟩]) (.seq (.region [⟨(some 142), .move (.t 16), none, false⟩])
       (.cond (.t 142) (.seq (.region [⟨(some 143), .move (.t 10), none, false⟩,
          ⟨(some 144), .load true 33 (.t 15), none, false⟩,
          ⟨(some 145), .callP F_leadtrailref13_find [(.t 143), (.t 144)], none, false⟩,
          ⟨(some 19), .move (.t 145), none, false⟩])
        (.seq (.seq (.region [⟨(some 146), .move (.t 19), none, false⟩,
          ⟨(some 147), .bin .lss (.t 146) (.c (.int .i64 0)), none, false⟩])
        (.cond (.t 147) (.seq (.seq (.region [⟨(some 148), .move (.t 10), none, false⟩,
           ⟨(some 149), .len 0 (.t 148), none, false⟩,
           ⟨(some 150), .bin .eql (.t 149) (.c (.int .i64 64)), none, false⟩])
         (.cond (.t 150) (.seq (.region [⟨(some 2), .move (.c .nils), none, false⟩,
            ⟨(some 3), .move (.c .nils), none, false⟩,
            ⟨(some 4), .move (.c (.bool false)), none, false⟩])
          (.ret)) (.skip)))
         (.seq (.region [⟨(some 151), .move (.t 10), none, false⟩,
           ⟨(some 152), .len 0 (.t 151), none, false⟩,
           ⟨(some 19), .move (.t 152), none, false⟩])
         (.region [⟨(some 153), .move (.t 10), none, false⟩,
           ⟨(some 154), .load true 33 (.t 15), none, false⟩,
           ⟨(some 155), .bslice .lit 33 true 1 [(.int .i64 0), (.bool false), (.bool false), (.bool false), (.bool false), (.bool false), (.bool false), (.bool false), (.bool false), (.bool false), (.bool false), (.bool false), (.bool false), (.bool false), (.bool false), (.bool false), (.bool false), (.bool false), (.bool false), (.bool false), (.bool false), (.bool false), (.bool false), (.bool false), (.bool false), (.bool false), (.bool false), (.bool false), (.bool false), (.bool false), (.bool false), (.bool false), (.bool false)] [(0, (.t 154))], none, false⟩,
           ⟨(some 156), .append false .uq 33 true 40 (.t 153) (.t 155), none, false⟩,
           ⟨(some 10), .move (.t 156), none, false⟩]))) (.skip)))
        (.region [⟨(some 157), .move (.t 14), none, false⟩,
          ⟨(some 158), .move (.t 19), none, false⟩,
          ⟨(some 159), .iaddrA 256 1 (.t 13) (.t 157), none, false⟩,
          ⟨none, .store 1 (.t 159) (.t 158), none, false⟩]))) (.skip))))))))))
     (.region [⟨(some 68), .move (.t 14), none, false⟩,
       ⟨(some 69), .bin .add (.t 68) (.c (.int .i64 1)), none, false⟩,
       ⟨(some 14), .move (.t 69), none, false⟩])))
def b_leadtrailref13_Sets_l2 : ACode :=
    (.seq (.seq (.region [⟨(some 60), .move (.t 12), none, false⟩,
       ⟨(some 61), .move (.t 10), none, false⟩,
       ⟨(some 62), .len 0 (.t 61), none, false⟩,
       ⟨(some 63), .bin .lss (.t 60) (.t 62), none, false⟩])
     (.cond (.t 63) (.skip) (.exit 4)))
     (.seq (.block 5 (.seq (.region [⟨(some 13), .alloc (List.replicate 256 (.int .i64 0)), none, false⟩])
      (.seq (.seq (.region [⟨(some 14), .move (.c (.int .i64 0)), none, false⟩])
      (.block 6 (.loop [1, 5, 10, 11, 12, 13, 14] b_leadtrailref13_Sets_l3)))
      (.region [⟨(some 160), .move (.t 11), none, false⟩,
        ⟨(some 161), .load true 256 (.t 13), none, false⟩,
        ⟨(some 162), .bslice .lit 256 true 1 (List.replicate 256 (.int .i64 0)) [(0, (.t 161))], none, false⟩,
        ⟨(some 163), .append false .uq 256 true 2048 (.t 160) (.t 162), none, false⟩,
        ⟨(some 11), .move (.t 163), none, false⟩]))))
     (.region [⟨(some 64), .move (.t 12), none, false⟩,
       ⟨(some 65), .bin .add (.t 64) (.c (.int .i64 1)), none, false⟩,
       ⟨(some 12), .move (.t 65), none, false⟩])))
/-- leadtrail/leadtrailref13.Sets -/
def b_leadtrailref13_Sets : AFn := ⟨1, [.tmp 2, .tmp 3, .tmp 4],
    (.seq (.region [⟨(some 1), .boxR 1 (.t 0), none, false⟩,
       ⟨(some 2), .move (.c .nils), none, false⟩,
       ⟨(some 3), .move (.c .nils), none, false⟩,
       ⟨(some 4), .move (.c (.bool false)), none, false⟩])
     (.seq (.region [⟨(some 5), .move (.c .nils), none, false⟩])
     (.ghost (.mkuq 5 2048) (.seq (.region [⟨(some 20), .build [(.int .i64 0), (.bool false), (.bool false), (.bool false), (.bool false), (.bool false), (.bool false), (.bool false), (.bool false), (.bool false), (.bool false), (.bool false), (.bool false), (.bool false), (.bool false), (.bool false), (.bool false), (.bool false), (.bool false), (.bool false), (.bool false), (.bool false), (.bool false), (.bool false), (.bool false), (.bool false), (.bool false), (.bool false), (.bool false), (.bool false), (.bool false), (.bool false), (.bool false)] [], none, false⟩,
       ⟨(some 6), .alloc [(.int .i64 0), (.bool false), (.bool false), (.bool false), (.bool false), (.bool false), (.bool false), (.bool false), (.bool false), (.bool false), (.bool false), (.bool false), (.bool false), (.bool false), (.bool false), (.bool false), (.bool false), (.bool false), (.bool false), (.bool false), (.bool false), (.bool false), (.bool false), (.bool false), (.bool false), (.bool false), (.bool false), (.bool false), (.bool false), (.bool false), (.bool false), (.bool false), (.bool false)], none, false⟩,
       ⟨none, .store 33 (.t 6) (.t 20), none, false⟩])
     (.seq (.seq (.region [⟨(some 7), .move (.c (.int .i64 0)), none, false⟩])
     (.block 0 (.loop [1, 5, 6, 7] b_leadtrailref13_Sets_l0)))
     (.seq (.region [⟨(some 58), .load true 33 (.t 6), none, false⟩,
       ⟨(some 59), .bslice .uq 33 true 1 [(.int .i64 0), (.bool false), (.bool false), (.bool false), (.bool false), (.bool false), (.bool false), (.bool false), (.bool false), (.bool false), (.bool false), (.bool false), (.bool false), (.bool false), (.bool false), (.bool false), (.bool false), (.bool false), (.bool false), (.bool false), (.bool false), (.bool false), (.bool false), (.bool false), (.bool false), (.bool false), (.bool false), (.bool false), (.bool false), (.bool false), (.bool false), (.bool false), (.bool false)] [(0, (.t 58))], none, false⟩,
       ⟨(some 10), .move (.t 59), none, false⟩])
     (.seq (.region [⟨(some 11), .move (.c .nils), none, false⟩])
     (.ghost (.mkuq 11 256) (.seq (.seq (.region [⟨(some 12), .move (.c (.int .i64 0)), none, false⟩])
     (.block 4 (.loop [1, 5, 10, 11, 12] b_leadtrailref13_Sets_l2)))
     (.seq (.region [⟨(some 164), .move (.t 10), none, false⟩,
       ⟨(some 165), .move (.t 11), none, false⟩,
       ⟨(some 2), .move (.t 164), none, false⟩,
       ⟨(some 3), .move (.t 165), none, false⟩,
       ⟨(some 4), .move (.c (.bool true)), none, false⟩])
     (.ret)))))))))))⟩
theorem ok_leadtrailref13_Sets : okFunc Go.Proofs.Try.prog fo Go.Proofs.Try.f41 b_leadtrailref13_Sets = true := by kernel_rfl
theorem du_leadtrailref13_Sets : dutiesF Go.Proofs.Try.f41 b_leadtrailref13_Sets = [(64, F_leadtrailref03_Members), (65, F_leadtrailref13_find)] := by kernel_rfl
theorem fn_leadtrailref13_Sets : FnOk P fo 41 b_leadtrailref13_Sets := ⟨_, Go.Proofs.Try.func41, ok_leadtrailref13_Sets, by rw [du_leadtrailref13_Sets]; exact List.forall_mem_cons.2 ⟨p_leadtrailref03_Members, List.forall_mem_cons.2 ⟨p_leadtrailref13_find, fun _ h => by cases h⟩⟩⟩
def F_leadtrailref13_Sets : List PV → Option PV := pureF (fun _ => none) b_leadtrailref13_Sets
theorem p_leadtrailref13_Sets : PureFn P 41 F_leadtrailref13_Sets := pureF_ok noTable fn_leadtrailref13_Sets

def b_leadtrailref13_apart_l0 : ACode :=
    (.seq (.seq (.region [⟨(some 14), .move (.t 5), none, false⟩,
       ⟨(some 15), .move (.t 3), none, false⟩,
       ⟨(some 16), .bin .lss (.t 14) (.t 15), none, false⟩])
     (.cond (.t 16) (.skip) (.exit 0)))
     (.seq (.block 1 (.region [⟨(some 19), .move (.t 4), none, false⟩,
        ⟨(some 20), .move (.t 3), none, false⟩,
        ⟨(some 21), .mkslice .own 1 false [(.bool false)] 1 (.t 20) (.t 20), none, false⟩,
        ⟨(some 22), .bslice .own 1 false 1 [.nils] [(0, (.t 21))], none, false⟩,
        ⟨(some 23), .append true .own 1 false 24 (.t 19) (.t 22), none, false⟩,
        ⟨(some 4), .move (.t 23), none, false⟩]))
     (.region [⟨(some 17), .move (.t 5), none, false⟩,
       ⟨(some 18), .bin .add (.t 17) (.c (.int .i64 1)), none, false⟩,
       ⟨(some 5), .move (.t 18), none, false⟩])))
def b_leadtrailref13_apart_l4 : ACode :=
    (.seq (.seq (.region [⟨(some 35), .move (.t 9), none, false⟩,
       ⟨(some 36), .bin .lss (.t 35) (.c (.int .i64 256)), none, false⟩,
       ⟨(some 37), .move (.t 36), none, false⟩,
       ⟨(some 38), .move (.t 4), (some (37, true)), false⟩,
       ⟨(some 39), .move (.t 7), (some (37, true)), false⟩,
       ⟨(some 40), .iaddr 1 (.t 38) (.t 39), (some (37, true)), false⟩,
       ⟨(some 41), .load false 1 (.t 40), (some (37, true)), false⟩,
       ⟨(some 42), .move (.t 8), (some (37, true)), false⟩,
       ⟨(some 43), .iaddr 1 (.t 41) (.t 42), (some (37, true)), false⟩,
       ⟨(some 44), .load false 1 (.t 43), (some (37, true)), false⟩,
       ⟨(some 45), .un .not (.t 44), (some (37, true)), false⟩,
       ⟨(some 46), .pick (.t 37) (.t 45) (.c (.bool false)), none, false⟩])
     (.cond (.t 46) (.skip) (.exit 8)))
     (.seq (.block 9 (.seq (.region [⟨(some 49), .move (.t 0), none, false⟩,
        ⟨(some 50), .move (.t 7), none, false⟩,
        ⟨(some 51), .move (.t 9), none, false⟩,
        ⟨(some 52), .iaddr 256 (.t 49) (.t 50), none, false⟩,
        ⟨(some 53), .iaddrA 256 1 (.t 52) (.t 51), none, false⟩,
        ⟨(some 54), .load false 1 (.t 53), none, false⟩,
        ⟨(some 55), .move (.t 0), none, false⟩,
        ⟨(some 56), .move (.t 8), none, false⟩,
        ⟨(some 57), .move (.t 9), none, false⟩,
        ⟨(some 58), .iaddr 256 (.t 55) (.t 56), none, false⟩,
        ⟨(some 59), .iaddrA 256 1 (.t 58) (.t 57), none, false⟩,
        ⟨(some 60), .load false 1 (.t 59), none, false⟩,
        ⟨(some 10), .move (.t 54), none, false⟩,
        ⟨(some 11), .move (.t 60), none, false⟩])
      (.seq (.region [⟨(some 61), .move (.t 10), none, false⟩,
        ⟨(some 62), .move (.t 11), none, false⟩,
        ⟨(some 63), .bin .neq (.t 61) (.t 62), none, false⟩,
        ⟨(some 64), .move (.t 63), none, false⟩,
        ⟨(some 65), .move (.t 10), (some (64, true)), false⟩,
        ⟨(some 66), .bin .lss (.t 65) (.c (.int .i64 0)), (some (64, true)), false⟩,
        ⟨(some 67), .move (.t 66), (some (64, true)), false⟩,
        ⟨(some 68), .move (.t 11), (some (67, false)), false⟩,
        ⟨(some 69), .bin .lss (.t 68) (.c (.int .i64 0)), (some (67, false)), false⟩,
        ⟨(some 70), .pick (.t 67) (.c (.bool true)) (.t 69), (some (64, true)), false⟩,
        ⟨(some 71), .pick (.t 64) (.t 70) (.c (.bool false)), none, false⟩,
        ⟨(some 72), .move (.t 71), none, false⟩,
        ⟨(some 73), .move (.t 10), (some (72, false)), false⟩,
        ⟨(some 74), .bin .geq (.t 73) (.c (.int .i64 0)), (some (72, false)), false⟩,
        ⟨(some 75), .move (.t 74), (some (72, false)), false⟩,
        ⟨(some 76), .move (.t 11), (some (75, true)), false⟩,
        ⟨(some 77), .bin .geq (.t 76) (.c (.int .i64 0)), (some (75, true)), false⟩,
        ⟨(some 78), .pick (.t 75) (.t 77) (.c (.bool false)), (some (72, false)), false⟩,
        ⟨(some 79), .move (.t 78), (some (72, false)), false⟩,
        ⟨(some 80), .move (.t 4), (some (79, true)), false⟩,
        ⟨(some 81), .move (.t 10), (some (79, true)), false⟩,
        ⟨(some 82), .iaddr 1 (.t 80) (.t 81), (some (79, true)), false⟩,
        ⟨(some 83), .load false 1 (.t 82), (some (79, true)), false⟩,
        ⟨(some 84), .move (.t 11), (some (79, true)), false⟩,
        ⟨(some 85), .iaddr 1 (.t 83) (.t 84), (some (79, true)), false⟩,
        ⟨(some 86), .load false 1 (.t 85), (some (79, true)), false⟩,
        ⟨(some 87), .pick (.t 79) (.t 86) (.c (.bool false)), (some (72, false)), false⟩,
        ⟨(some 88), .pick (.t 72) (.c (.bool true)) (.t 87), none, false⟩])
      (.cond (.t 88) (.seq (.region [⟨(some 89), .move (.t 4), none, false⟩,
         ⟨(some 90), .move (.t 7), none, false⟩,
         ⟨(some 91), .iaddr 1 (.t 89) (.t 90), none, false⟩,
         ⟨(some 92), .load false 1 (.t 91), none, false⟩,
         ⟨(some 93), .move (.t 8), none, false⟩,
         ⟨(some 94), .move (.t 4), none, false⟩,
         ⟨(some 95), .move (.t 8), none, false⟩,
         ⟨(some 96), .iaddr 1 (.t 94) (.t 95), none, false⟩,
         ⟨(some 97), .load false 1 (.t 96), none, false⟩,
         ⟨(some 98), .move (.t 7), none, false⟩,
         ⟨(some 99), .iaddr 1 (.t 92) (.t 93), none, false⟩,
         ⟨none, .store 1 (.t 99) (.c (.bool true)), none, false⟩,
         ⟨(some 100), .iaddr 1 (.t 97) (.t 98), none, false⟩,
         ⟨none, .store 1 (.t 100) (.c (.bool true)), none, false⟩])
       (.region [⟨(some 6), .move (.c (.bool true)), none, false⟩])) (.skip)))))
     (.region [⟨(some 47), .move (.t 9), none, false⟩,
       ⟨(some 48), .bin .add (.t 47) (.c (.int .i64 1)), none, false⟩,
       ⟨(some 9), .move (.t 48), none, false⟩])))
def b_leadtrailref13_apart_l3 : ACode :=
    (.seq (.seq (.region [⟨(some 30), .move (.t 8), none, false⟩,
       ⟨(some 31), .move (.t 7), none, false⟩,
       ⟨(some 32), .bin .lss (.t 30) (.t 31), none, false⟩])
     (.cond (.t 32) (.skip) (.exit 6)))
     (.seq (.block 7 (.seq (.region [⟨(some 9), .move (.c (.int .i64 0)), none, false⟩])
      (.block 8 (.loop [0, 3, 4, 6, 7, 8, 9] b_leadtrailref13_apart_l4))))
     (.region [⟨(some 33), .move (.t 8), none, false⟩,
       ⟨(some 34), .bin .add (.t 33) (.c (.int .i64 1)), none, false⟩,
       ⟨(some 8), .move (.t 34), none, false⟩])))
def b_leadtrailref13_apart_l2 : ACode :=
    (.seq (.seq (.region [⟨(some 25), .move (.t 7), none, false⟩,
       ⟨(some 26), .move (.t 3), none, false⟩,
       ⟨(some 27), .bin .lss (.t 25) (.t 26), none, false⟩])
     (.cond (.t 27) (.skip) (.exit 4)))
     (.seq (.block 5 (.seq (.region [⟨(some 8), .move (.c (.int .i64 0)), none, false⟩])
      (.block 6 (.loop [0, 3, 4, 6, 7, 8] b_leadtrailref13_apart_l3))))
     (.region [⟨(some 28), .move (.t 7), none, false⟩,
       ⟨(some 29), .bin .add (.t 28) (.c (.int .i64 1)), none, false⟩,
       ⟨(some 7), .move (.t 29), none, false⟩])))
def b_leadtrailref13_apart_l1 : ACode :=
    (.seq (.seq (.region [⟨(some 24), .move (.t 6), none, false⟩])
     (.cond (.t 24) (.skip) (.exit 2)))
     (.block 3 (.seq (.region [⟨(some 6), .move (.c (.bool false)), none, false⟩])
      (.seq (.region [⟨(some 7), .move (.c (.int .i64 0)), none, false⟩])
      (.block 4 (.loop [0, 3, 4, 6, 7] b_leadtrailref13_apart_l2))))))
/-- leadtrail/leadtrailref13.apart -/
def b_leadtrailref13_apart : AFn := ⟨1, [.tmp 2],
    (.seq (.region [⟨(some 2), .move (.c .nils), none, false⟩])
     (.seq (.region [⟨(some 12), .move (.t 0), none, false⟩,
       ⟨(some 13), .len 0 (.t 12), none, false⟩,
       ⟨(some 3), .move (.t 13), none, false⟩])
     (.seq (.region [⟨(some 4), .move (.c .nils), none, false⟩])
     (.ghost (.mkown 4 1 false) (.seq (.seq (.region [⟨(some 5), .move (.c (.int .i64 0)), none, false⟩])
     (.block 0 (.loopG [0, 3, 4, 5] b_leadtrailref13_apart_l0)))
     (.seq (.seq (.region [⟨(some 6), .move (.c (.bool true)), none, false⟩])
     (.block 2 (.loop [0, 3, 4, 6] b_leadtrailref13_apart_l1)))
     (.seq (.region [⟨(some 101), .move (.t 4), none, false⟩,
       ⟨(some 2), .move (.t 101), none, false⟩])
     (.ret))))))))⟩
theorem ok_leadtrailref13_apart : okFunc Go.Proofs.Try.prog fo Go.Proofs.Try.f42 b_leadtrailref13_apart = true := by kernel_rfl
theorem du_leadtrailref13_apart : dutiesF Go.Proofs.Try.f42 b_leadtrailref13_apart = [] := by kernel_rfl
theorem fn_leadtrailref13_apart : FnOk P fo 42 b_leadtrailref13_apart := ⟨_, Go.Proofs.Try.func42, ok_leadtrailref13_apart, by rw [du_leadtrailref13_apart]; exact fun _ h => by cases h⟩
def F_leadtrailref13_apart : List PV → Option PV := pureF (fun _ => none) b_leadtrailref13_apart
theorem p_leadtrailref13_apart : PureFn P 42 F_leadtrailref13_apart := pureF_ok noTable fn_leadtrailref13_apart

def b_leadtrailref13_Build_l2 : ACode :=
    (.seq (.seq (.region [⟨(some 65), .move (.t 16), none, false⟩,
       ⟨(some 66), .move (.t 10), none, false⟩,
       ⟨(some 67), .len 0 (.t 66), none, false⟩,
       ⟨(some 68), .bin .lss (.t 65) (.t 67), none, false⟩,
       ⟨(some 69), .move (.t 68), none, false⟩,
       ⟨(some 70), .move (.t 9), (some (69, true)), false⟩,
       ⟨(some 71), .move (.t 10), (some (69, true)), false⟩,
       ⟨(some 72), .move (.t 16), (some (69, true)), false⟩,
       ⟨(some 73), .iaddr 1 (.t 71) (.t 72), (some (69, true)), false⟩,
       ⟨(some 74), .load false 1 (.t 73), (some (69, true)), false⟩,
       ⟨(some 75), .iaddr 1 (.t 70) (.t 74), (some (69, true)), false⟩,
       ⟨(some 76), .load false 1 (.t 75), (some (69, true)), false⟩,
       ⟨(some 77), .move (.t 15), (some (69, true)), false⟩,
       ⟨(some 78), .iaddr 1 (.t 76) (.t 77), (some (69, true)), false⟩,
       ⟨(some 79), .load false 1 (.t 78), (some (69, true)), false⟩,
       ⟨(some 80), .pick (.t 69) (.t 79) (.c (.bool false)), none, false⟩])
     (.cond (.t 80) (.skip) (.exit 4)))
     (.block 5 (.region [⟨(some 81), .move (.t 16), none, false⟩,
        ⟨(some 82), .bin .add (.t 81) (.c (.int .i64 1)), none, false⟩,
        ⟨(some 16), .move (.t 82), none, false⟩])))
def b_leadtrailref13_Build_l1 : ACode :=
    (.seq (.seq (.region [⟨(some 48), .move (.t 14), none, false⟩,
       ⟨(some 49), .bin .lss (.t 48) (.c (.int .i64 256)), none, false⟩])
     (.cond (.t 49) (.skip) (.exit 2)))
     (.seq (.block 3 (.seq (.region [⟨(some 52), .move (.t 7), none, false⟩,
        ⟨(some 53), .move (.t 10), none, false⟩,
        ⟨(some 54), .move (.t 12), none, false⟩,
        ⟨(some 55), .iaddr 1 (.t 53) (.t 54), none, false⟩,
        ⟨(some 56), .load false 1 (.t 55), none, false⟩,
        ⟨(some 57), .move (.t 14), none, false⟩,
        ⟨(some 58), .iaddr 256 (.t 52) (.t 56), none, false⟩,
        ⟨(some 59), .iaddrA 256 1 (.t 58) (.t 57), none, false⟩,
        ⟨(some 60), .load false 1 (.t 59), none, false⟩,
        ⟨(some 15), .move (.t 60), none, false⟩])
      (.seq (.seq (.region [⟨(some 61), .move (.t 15), none, false⟩,
        ⟨(some 62), .bin .eql (.t 61) (.c (.int .i64 (-2))), none, false⟩])
      (.cond (.t 62) (.exit 3) (.skip)))
      (.seq (.seq (.region [⟨(some 63), .move (.t 15), none, false⟩,
        ⟨(some 64), .bin .geq (.t 63) (.c (.int .i64 0)), none, false⟩])
      (.cond (.t 64) (.seq (.region [⟨(some 16), .move (.c (.int .i64 0)), none, false⟩])
       (.seq (.block 4 (.loop [2, 7, 9, 10, 11, 12, 13, 14, 15, 16] b_leadtrailref13_Build_l2))
       (.seq (.seq (.region [⟨(some 83), .move (.t 16), none, false⟩,
         ⟨(some 84), .move (.t 10), none, false⟩,
         ⟨(some 85), .len 0 (.t 84), none, false⟩,
         ⟨(some 86), .bin .eql (.t 83) (.t 85), none, false⟩])
       (.cond (.t 86) (.region [⟨(some 87), .move (.t 10), none, false⟩,
          ⟨(some 88), .move (.t 15), none, false⟩,
          ⟨(some 89), .bslice .lit 1 false 1 [(.int .i64 0)] [(0, (.t 88))], none, false⟩,
          ⟨(some 90), .append false .uq 1 false 8 (.t 87) (.t 89), none, false⟩,
          ⟨(some 10), .move (.t 90), none, false⟩]) (.skip)))
       (.region [⟨(some 91), .move (.t 16), none, false⟩,
         ⟨(some 15), .move (.t 91), none, false⟩])))) (.skip)))
      (.seq (.region [⟨(some 92), .move (.t 13), none, false⟩,
        ⟨(some 93), .len 0 (.t 92), none, false⟩,
        ⟨(some 94), .bin .gtr (.t 93) (.c (.int .i64 0)), none, false⟩,
        ⟨(some 95), .move (.t 94), none, false⟩,
        ⟨(some 96), .move (.t 13), (some (95, true)), false⟩,
        ⟨(some 97), .move (.t 13), (some (95, true)), false⟩,
        ⟨(some 98), .len 0 (.t 97), (some (95, true)), false⟩,
        ⟨(some 99), .bin .sub (.t 98) (.c (.int .i64 1)), (some (95, true)), false⟩,
        ⟨(some 100), .iaddr 3 (.t 96) (.t 99), (some (95, true)), false⟩,
        ⟨(some 101), .faddr 2 (.t 100), (some (95, true)), false⟩,
        ⟨(some 102), .load false 1 (.t 101), (some (95, true)), false⟩,
        ⟨(some 103), .move (.t 15), (some (95, true)), false⟩,
        ⟨(some 104), .bin .eql (.t 102) (.t 103), (some (95, true)), false⟩,
        ⟨(some 105), .pick (.t 95) (.t 104) (.c (.bool false)), none, false⟩,
        ⟨(some 106), .move (.t 105), none, false⟩,
        ⟨(some 107), .move (.t 13), (some (106, true)), false⟩,
        ⟨(some 108), .move (.t 13), (some (106, true)), false⟩,
        ⟨(some 109), .len 0 (.t 108), (some (106, true)), false⟩,
        ⟨(some 110), .bin .sub (.t 109) (.c (.int .i64 1)), (some (106, true)), false⟩,
        ⟨(some 111), .iaddr 3 (.t 107) (.t 110), (some (106, true)), false⟩,
        ⟨(some 112), .faddr 1 (.t 111), (some (106, true)), false⟩,
        ⟨(some 113), .load false 1 (.t 112), (some (106, true)), false⟩,
        ⟨(some 114), .move (.t 14), (some (106, true)), false⟩,
        ⟨(some 115), .bin .sub (.t 114) (.c (.int .i64 1)), (some (106, true)), false⟩,
        ⟨(some 116), .bin .eql (.t 113) (.t 115), (some (106, true)), false⟩,
        ⟨(some 117), .pick (.t 106) (.t 116) (.c (.bool false)), none, false⟩])
      (.cond (.t 117) (.region [⟨(some 118), .move (.t 13), none, false⟩,
         ⟨(some 119), .move (.t 13), none, false⟩,
         ⟨(some 120), .len 0 (.t 119), none, false⟩,
         ⟨(some 121), .bin .sub (.t 120) (.c (.int .i64 1)), none, false⟩,
         ⟨(some 122), .move (.t 14), none, false⟩,
         ⟨(some 123), .iaddr 3 (.t 118) (.t 121), none, false⟩,
         ⟨(some 124), .faddr 1 (.t 123), none, false⟩,
         ⟨none, .store 1 (.t 124) (.t 122), none, false⟩]) (.region [⟨(some 125), .move (.t 13), none, false⟩,
         ⟨(some 126), .move (.t 14), none, false⟩,
         ⟨(some 127), .move (.t 14), none, false⟩,
         ⟨(some 128), .move (.t 15), none, false⟩,
         ⟨(some 129), .build [(.int .i64 0), (.int .i64 0), (.int .i64 0)] [(0, 1, (.t 126)), (1, 1, (.t 127)), (2, 1, (.t 128))], none, false⟩,
         ⟨(some 130), .bslice .lit 3 true 1 [(.int .i64 0), (.int .i64 0), (.int .i64 0)] [(0, (.t 129))], none, false⟩,
         ⟨(some 131), .append true .own 3 true 24 (.t 125) (.t 130), none, false⟩,
         ⟨(some 13), .move (.t 131), none, false⟩])))))))
     (.region [⟨(some 50), .move (.t 14), none, false⟩,
       ⟨(some 51), .bin .add (.t 50) (.c (.int .i64 1)), none, false⟩,
       ⟨(some 14), .move (.t 51), none, false⟩])))
def b_leadtrailref13_Build_l0 : ACode :=
    (.seq (.seq (.region [⟨(some 42), .move (.t 12), none, false⟩,
       ⟨(some 43), .move (.t 10), none, false⟩,
       ⟨(some 44), .len 0 (.t 43), none, false⟩,
       ⟨(some 45), .bin .lss (.t 42) (.t 44), none, false⟩])
     (.cond (.t 45) (.skip) (.exit 0)))
     (.seq (.block 1 (.seq (.region [⟨(some 13), .move (.c .nils), none, false⟩])
      (.ghost (.mkown 13 3 true) (.seq (.seq (.region [⟨(some 14), .move (.c (.int .i64 0)), none, false⟩])
      (.block 2 (.loop [2, 7, 9, 10, 11, 12, 13, 14] b_leadtrailref13_Build_l1)))
      (.ghost (.freeze 13) (.region [⟨(some 132), .faddr 0 (.t 11), none, false⟩,
        ⟨(some 133), .load false 1 (.t 132), none, false⟩,
        ⟨(some 134), .move (.t 13), none, false⟩,
        ⟨(some 135), .bslice .lit 1 false 1 [.nils] [(0, (.t 134))], none, false⟩,
        ⟨(some 136), .append false .uq 1 false 24 (.t 133) (.t 135), none, false⟩,
        ⟨(some 137), .faddr 0 (.t 11), none, false⟩,
        ⟨none, .store 1 (.t 137) (.t 136), none, false⟩]))))))
     (.region [⟨(some 46), .move (.t 12), none, false⟩,
       ⟨(some 47), .bin .add (.t 46) (.c (.int .i64 1)), none, false⟩,
       ⟨(some 12), .move (.t 47), none, false⟩])))
/-- leadtrail/leadtrailref13.Build -/
def b_leadtrailref13_Build : AFn := ⟨1, [.cell 2 true 1, .tmp 3],
    (.seq (.region [⟨(some 1), .boxR 1 (.t 0), none, false⟩,
       ⟨(some 2), .alloc [.nils], none, false⟩,
       ⟨(some 3), .move (.c (.int .i64 0)), none, false⟩])
     (.seq (.region [⟨(some 18), .load true 1 (.t 1), none, true⟩,
       ⟨(some 19), .callP F_leadtrailref11_Prefix [(.t 18)], none, false⟩,
       ⟨(some 17), .move (.t 19), none, false⟩,
       ⟨(some 20), .ext 0 (.t 17), none, false⟩,
       ⟨(some 21), .ext 1 (.t 17), none, false⟩,
       ⟨(some 4), .move (.t 20), none, false⟩,
       ⟨(some 5), .move (.t 21), none, false⟩])
     (.seq (.seq (.region [⟨(some 22), .move (.t 5), none, false⟩,
       ⟨(some 23), .bin .neq (.t 22) (.c (.int .i64 0)), none, false⟩])
     (.cond (.t 23) (.seq (.region [⟨(some 24), .build [.nils] [], none, false⟩,
        ⟨(some 25), .move (.t 5), none, false⟩,
        ⟨none, .store 1 (.t 2) (.t 24), none, false⟩,
        ⟨(some 3), .move (.t 25), none, false⟩])
      (.ret)) (.skip)))
     (.seq (.seq (.region [⟨(some 26), .move (.t 4), none, false⟩,
       ⟨(some 27), .un .not (.t 26), none, false⟩])
     (.cond (.t 27) (.seq (.region [⟨(some 28), .build [.nils] [], none, false⟩,
        ⟨none, .store 1 (.t 2) (.t 28), none, false⟩,
        ⟨(some 3), .move (.c (.int .i64 110)), none, false⟩])
      (.ret)) (.skip)))
     (.seq (.region [⟨(some 30), .load true 1 (.t 1), none, true⟩,
       ⟨(some 31), .callP F_leadtrailref13_Sets [(.t 30)], none, false⟩,
       ⟨(some 29), .move (.t 31), none, false⟩,
       ⟨(some 32), .ext 0 (.t 29), none, false⟩,
       ⟨(some 33), .ext 1 (.t 29), none, false⟩,
       ⟨(some 34), .ext 2 (.t 29), none, false⟩,
       ⟨(some 6), .move (.t 32), none, false⟩,
       ⟨(some 7), .move (.t 33), none, false⟩,
       ⟨(some 8), .move (.t 34), none, false⟩])
     (.seq (.seq (.region [⟨(some 35), .move (.t 8), none, false⟩,
       ⟨(some 36), .un .not (.t 35), none, false⟩])
     (.cond (.t 36) (.seq (.region [⟨(some 37), .build [.nils] [], none, false⟩,
        ⟨none, .store 1 (.t 2) (.t 37), none, false⟩,
        ⟨(some 3), .move (.c (.int .i64 130)), none, false⟩])
      (.ret)) (.skip)))
     (.seq (.region [⟨(some 38), .move (.t 7), none, false⟩,
       ⟨(some 39), .callP F_leadtrailref13_apart [(.t 38)], none, false⟩,
       ⟨(some 9), .move (.t 39), none, false⟩])
     (.seq (.region [⟨(some 40), .bslice .uq 1 false 1 [(.int .i64 0)] [(0, (.c (.int .i64 0)))], none, false⟩,
       ⟨(some 10), .move (.t 40), none, false⟩])
     (.seq (.region [⟨(some 41), .build [.nils] [], none, false⟩,
       ⟨(some 11), .alloc [.nils], none, false⟩,
       ⟨none, .store 1 (.t 11) (.t 41), none, false⟩])
     (.ghost (.mkuqC 11 0 1) (.seq (.seq (.region [⟨(some 12), .move (.c (.int .i64 0)), none, false⟩])
     (.block 0 (.loop [2, 7, 9, 10, 11, 12] b_leadtrailref13_Build_l0)))
     (.seq (.region [⟨(some 138), .load true 1 (.t 11), none, false⟩,
       ⟨none, .store 1 (.t 2) (.t 138), none, false⟩,
       ⟨(some 3), .move (.c (.int .i64 0)), none, false⟩])
     (.ret)))))))))))))⟩
theorem ok_leadtrailref13_Build : okFunc Go.Proofs.Try.prog fo Go.Proofs.Try.f15 b_leadtrailref13_Build = true := by kernel_rfl
theorem du_leadtrailref13_Build : dutiesF Go.Proofs.Try.f15 b_leadtrailref13_Build = [(40, F_leadtrailref11_Prefix), (41, F_leadtrailref13_Sets), (42, F_leadtrailref13_apart)] := by kernel_rfl
theorem fn_leadtrailref13_Build : FnOk P fo 15 b_leadtrailref13_Build := ⟨_, Go.Proofs.Try.func15, ok_leadtrailref13_Build, by rw [du_leadtrailref13_Build]; exact List.forall_mem_cons.2 ⟨p_leadtrailref11_Prefix, List.forall_mem_cons.2 ⟨p_leadtrailref13_Sets, List.forall_mem_cons.2 ⟨p_leadtrailref13_apart, fun _ h => by cases h⟩⟩⟩⟩
def F_leadtrailref13_Build : List PV → Option PV := pureF (fun _ => none) b_leadtrailref13_Build
theorem p_leadtrailref13_Build : PureFn P 15 F_leadtrailref13_Build := pureF_ok noTable fn_leadtrailref13_Build

def b_leadtrailref03_Same_l0 : ACode :=
    (.seq (.seq (.region [⟨(some 11), .move (.t 5), none, false⟩,
       ⟨(some 12), .move (.t 0), none, false⟩,
       ⟨(some 13), .len 0 (.t 12), none, false⟩,
       ⟨(some 14), .bin .lss (.t 11) (.t 13), none, false⟩])
     (.cond (.t 14) (.skip) (.exit 0)))
     (.seq (.block 1 (.seq (.region [⟨(some 17), .move (.t 0), none, false⟩,
        ⟨(some 18), .move (.t 5), none, false⟩,
        ⟨(some 19), .iaddr 2 (.t 17) (.t 18), none, true⟩,
        ⟨(some 20), .load true 2 (.t 19), none, true⟩,
        ⟨(some 21), .move (.t 1), none, false⟩,
        ⟨(some 22), .move (.t 5), none, false⟩,
        ⟨(some 23), .iaddr 2 (.t 21) (.t 22), none, true⟩,
        ⟨(some 24), .load true 2 (.t 23), none, true⟩,
        ⟨(some 25), .eqR (.row [1, 1]) true (.t 20) (.t 24), none, false⟩])
      (.cond (.t 25) (.seq (.region [⟨(some 4), .move (.c (.bool false)), none, false⟩])
       (.ret)) (.skip))))
     (.region [⟨(some 15), .move (.t 5), none, false⟩,
       ⟨(some 16), .bin .add (.t 15) (.c (.int .i64 1)), none, false⟩,
       ⟨(some 5), .move (.t 16), none, false⟩])))
/-- leadtrail/leadtrailref03.Same -/
def b_leadtrailref03_Same : AFn := ⟨2, [.tmp 4],
    (.seq (.region [⟨(some 4), .move (.c (.bool false)), none, false⟩])
     (.seq (.seq (.region [⟨(some 6), .move (.t 0), none, false⟩,
       ⟨(some 7), .len 0 (.t 6), none, false⟩,
       ⟨(some 8), .move (.t 1), none, false⟩,
       ⟨(some 9), .len 0 (.t 8), none, false⟩,
       ⟨(some 10), .bin .neq (.t 7) (.t 9), none, false⟩])
     (.cond (.t 10) (.seq (.region [⟨(some 4), .move (.c (.bool false)), none, false⟩])
      (.ret)) (.skip)))
     (.seq (.seq (.region [⟨(some 5), .move (.c (.int .i64 0)), none, false⟩])
     (.block 0 (.loop [0, 1, 5] b_leadtrailref03_Same_l0)))
     (.seq (.region [⟨(some 4), .move (.c (.bool true)), none, false⟩])
     (.ret)))))⟩
theorem ok_leadtrailref03_Same : okFunc Go.Proofs.Try.prog fo Go.Proofs.Try.f66 b_leadtrailref03_Same = true := by kernel_rfl
theorem du_leadtrailref03_Same : dutiesF Go.Proofs.Try.f66 b_leadtrailref03_Same = [] := by kernel_rfl
theorem fn_leadtrailref03_Same : FnOk P fo 66 b_leadtrailref03_Same := ⟨_, Go.Proofs.Try.func66, ok_leadtrailref03_Same, by rw [du_leadtrailref03_Same]; exact fun _ h => by cases h⟩
def F_leadtrailref03_Same : List PV → Option PV := pureF (fun _ => none) b_leadtrailref03_Same
theorem p_leadtrailref03_Same : PureFn P 66 F_leadtrailref03_Same := pureF_ok noTable fn_leadtrailref03_Same

def b_leadtrailref08_SameShape_l0 : ACode :=
    (.seq (.seq (.region [⟨(some 20), .move (.t 5), none, false⟩,
       ⟨(some 21), .faddr 0 (.t 2), none, true⟩,
       ⟨(some 22), .load false 1 (.t 21), none, true⟩,
       ⟨(some 23), .len 0 (.t 22), none, false⟩,
       ⟨(some 24), .bin .lss (.t 20) (.t 23), none, false⟩])
     (.cond (.t 24) (.skip) (.exit 0)))
     (.seq (.block 1 (.seq (.region [⟨(some 27), .faddr 0 (.t 2), none, true⟩,
        ⟨(some 28), .load false 1 (.t 27), none, true⟩,
        ⟨(some 29), .move (.t 5), none, false⟩,
        ⟨(some 30), .iaddr 1 (.t 28) (.t 29), none, true⟩,
        ⟨(some 31), .load false 1 (.t 30), none, true⟩,
        ⟨(some 32), .faddr 0 (.t 3), none, true⟩,
        ⟨(some 33), .load false 1 (.t 32), none, true⟩,
        ⟨(some 34), .move (.t 5), none, false⟩,
        ⟨(some 35), .iaddr 1 (.t 33) (.t 34), none, true⟩,
        ⟨(some 36), .load false 1 (.t 35), none, true⟩,
        ⟨(some 37), .callP F_leadtrailref03_Same [(.t 31), (.t 36)], none, false⟩,
        ⟨(some 38), .un .not (.t 37), none, false⟩])
      (.cond (.t 38) (.seq (.region [⟨(some 4), .move (.c (.bool false)), none, false⟩])
       (.ret)) (.skip))))
     (.region [⟨(some 25), .move (.t 5), none, false⟩,
       ⟨(some 26), .bin .add (.t 25) (.c (.int .i64 1)), none, false⟩,
       ⟨(some 5), .move (.t 26), none, false⟩])))
/-- leadtrail/leadtrailref08.SameShape -/
def b_leadtrailref08_SameShape : AFn := ⟨2, [.tmp 4],
    (.seq (.region [⟨(some 2), .boxR 2 (.t 0), none, false⟩,
       ⟨(some 3), .boxR 2 (.t 1), none, false⟩,
       ⟨(some 4), .move (.c (.bool false)), none, false⟩])
     (.seq (.seq (.region [⟨(some 6), .faddr 1 (.t 2), none, true⟩,
       ⟨(some 7), .load false 1 (.t 6), none, true⟩,
       ⟨(some 8), .faddr 1 (.t 3), none, true⟩,
       ⟨(some 9), .load false 1 (.t 8), none, true⟩,
       ⟨(some 10), .bin .neq (.t 7) (.t 9), none, false⟩,
       ⟨(some 11), .move (.t 10), none, false⟩,
       ⟨(some 12), .faddr 0 (.t 2), (some (11, false)), true⟩,
       ⟨(some 13), .load false 1 (.t 12), (some (11, false)), true⟩,
       ⟨(some 14), .len 0 (.t 13), (some (11, false)), false⟩,
       ⟨(some 15), .faddr 0 (.t 3), (some (11, false)), true⟩,
       ⟨(some 16), .load false 1 (.t 15), (some (11, false)), true⟩,
       ⟨(some 17), .len 0 (.t 16), (some (11, false)), false⟩,
       ⟨(some 18), .bin .neq (.t 14) (.t 17), (some (11, false)), false⟩,
       ⟨(some 19), .pick (.t 11) (.c (.bool true)) (.t 18), none, false⟩])
     (.cond (.t 19) (.seq (.region [⟨(some 4), .move (.c (.bool false)), none, false⟩])
      (.ret)) (.skip)))
     (.seq (.seq (.region [⟨(some 5), .move (.c (.int .i64 0)), none, false⟩])
     (.block 0 (.loop [2, 3, 5] b_leadtrailref08_SameShape_l0)))
     (.seq (.region [⟨(some 4), .move (.c (.bool true)), none, false⟩])
     (.ret)))))⟩
theorem ok_leadtrailref08_SameShape : okFunc Go.Proofs.Try.prog fo Go.Proofs.Try.f43 b_leadtrailref08_SameShape = true := by kernel_rfl
theorem du_leadtrailref08_SameShape : dutiesF Go.Proofs.Try.f43 b_leadtrailref08_SameShape = [(66, F_leadtrailref03_Same)] := by kernel_rfl
theorem fn_leadtrailref08_SameShape : FnOk P fo 43 b_leadtrailref08_SameShape := ⟨_, Go.Proofs.Try.func43, ok_leadtrailref08_SameShape, by rw [du_leadtrailref08_SameShape]; exact List.forall_mem_cons.2 ⟨p_leadtrailref03_Same, fun _ h => by cases h⟩⟩
def F_leadtrailref08_SameShape : List PV → Option PV := pureF (fun _ => none) b_leadtrailref08_SameShape
theorem p_leadtrailref08_SameShape : PureFn P 43 F_leadtrailref08_SameShape := pureF_ok noTable fn_leadtrailref08_SameShape

def b_leadtrailref08_Same_l0 : ACode :=
    (.seq (.seq (.region [⟨(some 13), .move (.t 5), none, false⟩,
       ⟨(some 14), .faddr 0 (.t 2), none, true⟩,
       ⟨(some 15), .load false 1 (.t 14), none, true⟩,
       ⟨(some 16), .len 0 (.t 15), none, false⟩,
       ⟨(some 17), .bin .lss (.t 13) (.t 16), none, false⟩])
     (.cond (.t 17) (.skip) (.exit 0)))
     (.seq (.block 1 (.seq (.region [⟨(some 20), .faddr 0 (.t 2), none, true⟩,
        ⟨(some 21), .load false 1 (.t 20), none, true⟩,
        ⟨(some 22), .move (.t 5), none, false⟩,
        ⟨(some 23), .iaddr 2 (.t 21) (.t 22), none, true⟩,
        ⟨(some 24), .load true 2 (.t 23), none, true⟩,
        ⟨(some 25), .faddr 0 (.t 3), none, true⟩,
        ⟨(some 26), .load false 1 (.t 25), none, true⟩,
        ⟨(some 27), .move (.t 5), none, false⟩,
        ⟨(some 28), .iaddr 2 (.t 26) (.t 27), none, true⟩,
        ⟨(some 29), .load true 2 (.t 28), none, true⟩,
        ⟨(some 30), .callP F_leadtrailref08_SameShape [(.t 24), (.t 29)], none, false⟩,
        ⟨(some 31), .un .not (.t 30), none, false⟩])
      (.cond (.t 31) (.seq (.region [⟨(some 4), .move (.c (.bool false)), none, false⟩])
       (.ret)) (.skip))))
     (.region [⟨(some 18), .move (.t 5), none, false⟩,
       ⟨(some 19), .bin .add (.t 18) (.c (.int .i64 1)), none, false⟩,
       ⟨(some 5), .move (.t 19), none, false⟩])))
/-- leadtrail/leadtrailref08.Same -/
def b_leadtrailref08_Same : AFn := ⟨2, [.tmp 4],
    (.seq (.region [⟨(some 2), .boxR 1 (.t 0), none, false⟩,
       ⟨(some 3), .boxR 1 (.t 1), none, false⟩,
       ⟨(some 4), .move (.c (.bool false)), none, false⟩])
     (.seq (.seq (.region [⟨(some 6), .faddr 0 (.t 2), none, true⟩,
       ⟨(some 7), .load false 1 (.t 6), none, true⟩,
       ⟨(some 8), .len 0 (.t 7), none, false⟩,
       ⟨(some 9), .faddr 0 (.t 3), none, true⟩,
       ⟨(some 10), .load false 1 (.t 9), none, true⟩,
       ⟨(some 11), .len 0 (.t 10), none, false⟩,
       ⟨(some 12), .bin .neq (.t 8) (.t 11), none, false⟩])
     (.cond (.t 12) (.seq (.region [⟨(some 4), .move (.c (.bool false)), none, false⟩])
      (.ret)) (.skip)))
     (.seq (.seq (.region [⟨(some 5), .move (.c (.int .i64 0)), none, false⟩])
     (.block 0 (.loop [2, 3, 5] b_leadtrailref08_Same_l0)))
     (.seq (.region [⟨(some 4), .move (.c (.bool true)), none, false⟩])
     (.ret)))))⟩
theorem ok_leadtrailref08_Same : okFunc Go.Proofs.Try.prog fo Go.Proofs.Try.f17 b_leadtrailref08_Same = true := by kernel_rfl
theorem du_leadtrailref08_Same : dutiesF Go.Proofs.Try.f17 b_leadtrailref08_Same = [(43, F_leadtrailref08_SameShape)] := by kernel_rfl
theorem fn_leadtrailref08_Same : FnOk P fo 17 b_leadtrailref08_Same := ⟨_, Go.Proofs.Try.func17, ok_leadtrailref08_Same, by rw [du_leadtrailref08_Same]; exact List.forall_mem_cons.2 ⟨p_leadtrailref08_SameShape, fun _ h => by cases h⟩⟩
def F_leadtrailref08_Same : List PV → Option PV := pureF (fun _ => none) b_leadtrailref08_Same
theorem p_leadtrailref08_Same : PureFn P 17 F_leadtrailref08_Same := pureF_ok noTable fn_leadtrailref08_Same

/-- leadtrail/leadtraillaw13.AutoBuilds -/
def b_leadtraillaw13_AutoBuilds : AFn := ⟨1, [.tmp 2],
    (.seq (.region [⟨(some 1), .boxR 1 (.t 0), none, false⟩,
       ⟨(some 2), .move (.c (.bool false)), none, false⟩])
     (.seq (.seq (.region [⟨(some 8), .callP F_leadtraillaw13_fixed [], none, false⟩,
       ⟨(some 9), .un .not (.t 8), none, false⟩])
     (.cond (.t 9) (.seq (.region [⟨(some 2), .move (.c (.bool false)), none, false⟩])
      (.ret)) (.skip)))
     (.seq (.region [⟨(some 10), .load true 1 (.t 1), none, true⟩,
       ⟨(some 11), .callP F_leadtrailref08_Copy [(.t 10)], none, false⟩,
       ⟨(some 3), .alloc [.nils], none, false⟩,
       ⟨none, .store 1 (.t 3) (.t 11), none, false⟩])
     (.seq (.region [⟨(some 13), .load true 1 (.t 3), none, false⟩,
       ⟨(some 14), .callP F_auto_Build [(.t 13)], none, false⟩,
       ⟨(some 12), .move (.t 14), none, false⟩,
       ⟨(some 15), .ext 0 (.t 12), none, false⟩,
       ⟨(some 16), .ext 1 (.t 12), none, false⟩,
       ⟨(some 4), .alloc [.nils], none, false⟩,
       ⟨none, .store 1 (.t 4) (.t 15), none, false⟩,
       ⟨(some 5), .move (.t 16), none, false⟩])
     (.seq (.region [⟨(some 18), .load true 1 (.t 1), none, true⟩,
       ⟨(some 19), .callP F_leadtrailref13_Build [(.t 18)], none, false⟩,
       ⟨(some 17), .move (.t 19), none, false⟩,
       ⟨(some 20), .ext 0 (.t 17), none, false⟩,
       ⟨(some 21), .ext 1 (.t 17), none, false⟩,
       ⟨(some 6), .alloc [.nils], none, false⟩,
       ⟨none, .store 1 (.t 6) (.t 20), none, false⟩,
       ⟨(some 7), .move (.t 21), none, false⟩])
     (.seq (.region [⟨(some 22), .load true 1 (.t 4), none, false⟩,
       ⟨(some 23), .load true 1 (.t 6), none, false⟩,
       ⟨(some 24), .callP F_leadtrailref13_Same [(.t 22), (.t 23)], none, false⟩,
       ⟨(some 25), .move (.t 24), none, false⟩,
       ⟨(some 26), .move (.t 5), (some (25, true)), false⟩,
       ⟨(some 27), .move (.t 7), (some (25, true)), false⟩,
       ⟨(some 28), .bin .eql (.t 26) (.t 27), (some (25, true)), false⟩,
       ⟨(some 29), .pick (.t 25) (.t 28) (.c (.bool false)), none, false⟩,
       ⟨(some 30), .move (.t 29), none, false⟩,
       ⟨(some 31), .load true 1 (.t 3), (some (30, true)), false⟩,
       ⟨(some 32), .load true 1 (.t 1), (some (30, true)), true⟩,
       ⟨(some 33), .callP F_leadtrailref08_Same [(.t 31), (.t 32)], (some (30, true)), false⟩,
       ⟨(some 34), .pick (.t 30) (.t 33) (.c (.bool false)), none, false⟩,
       ⟨(some 2), .move (.t 34), none, false⟩])
     (.ret)))))))⟩
theorem ok_leadtraillaw13_AutoBuilds : okFunc Go.Proofs.Try.prog fo Go.Proofs.Try.f3 b_leadtraillaw13_AutoBuilds = true := by kernel_rfl
theorem du_leadtraillaw13_AutoBuilds : dutiesF Go.Proofs.Try.f3 b_leadtraillaw13_AutoBuilds = [(12, F_leadtraillaw13_fixed), (13, F_leadtrailref08_Copy), (14, F_auto_Build), (15, F_leadtrailref13_Build), (16, F_leadtrailref13_Same), (17, F_leadtrailref08_Same)] := by kernel_rfl
theorem fn_leadtraillaw13_AutoBuilds : FnOk P fo 3 b_leadtraillaw13_AutoBuilds := ⟨_, Go.Proofs.Try.func3, ok_leadtraillaw13_AutoBuilds, by rw [du_leadtraillaw13_AutoBuilds]; exact List.forall_mem_cons.2 ⟨p_leadtraillaw13_fixed, List.forall_mem_cons.2 ⟨p_leadtrailref08_Copy, List.forall_mem_cons.2 ⟨p_auto_Build, List.forall_mem_cons.2 ⟨p_leadtrailref13_Build, List.forall_mem_cons.2 ⟨p_leadtrailref13_Same, List.forall_mem_cons.2 ⟨p_leadtrailref08_Same, fun _ h => by cases h⟩⟩⟩⟩⟩⟩⟩
theorem p_leadtraillaw13_AutoBuilds : PureFn P 3 (pureF (fun _ => none) b_leadtraillaw13_AutoBuilds) := pureF_ok noTable fn_leadtraillaw13_AutoBuilds

end Go.AM.B1

/- The abstract code of the functions that the rows Auto* reach, part 6, printed by gen_b1.py: it is that of the program, and each is what its code computes. -/
set_option linter.unusedVariables false
namespace Go.AM.B1
open Go.AM

def b_leadtraillaw13_AutoLeast_l1 : ACode :=
    (.seq (.region [⟨(some 53), .bin .lss (.t 52) (.t 51), none, false⟩])
     (.seq (.cond (.t 53) (.skip) (.exit 2))
     (.seq (.block 3 (.seq (.region [⟨(some 54), .move (.t 52), none, false⟩,
        ⟨(some 55), .iaddr 3 (.t 50) (.t 52), none, false⟩,
        ⟨(some 56), .load true 3 (.t 55), none, false⟩,
        ⟨(some 9), .alloc [(.int .i64 0), (.int .i64 0), (.int .i64 0)], none, false⟩,
        ⟨(some 8), .move (.t 54), none, false⟩,
        ⟨none, .store 3 (.t 9) (.t 56), none, false⟩])
      (.seq (.seq (.region [⟨(some 57), .faddr 0 (.t 9), none, false⟩,
        ⟨(some 58), .load false 1 (.t 57), none, false⟩,
        ⟨(some 59), .bin .lss (.t 58) (.c (.int .i64 0)), none, false⟩,
        ⟨(some 60), .move (.t 59), none, false⟩,
        ⟨(some 61), .faddr 0 (.t 9), (some (60, false)), false⟩,
        ⟨(some 62), .load false 1 (.t 61), (some (60, false)), false⟩,
        ⟨(some 63), .faddr 1 (.t 9), (some (60, false)), false⟩,
        ⟨(some 64), .load false 1 (.t 63), (some (60, false)), false⟩,
        ⟨(some 65), .bin .gtr (.t 62) (.t 64), (some (60, false)), false⟩,
        ⟨(some 66), .pick (.t 60) (.c (.bool true)) (.t 65), none, false⟩,
        ⟨(some 67), .move (.t 66), none, false⟩,
        ⟨(some 68), .faddr 1 (.t 9), (some (67, false)), false⟩,
        ⟨(some 69), .load false 1 (.t 68), (some (67, false)), false⟩,
        ⟨(some 70), .bin .gtr (.t 69) (.c (.int .i64 255)), (some (67, false)), false⟩,
        ⟨(some 71), .pick (.t 67) (.c (.bool true)) (.t 70), none, false⟩,
        ⟨(some 72), .move (.t 71), none, false⟩,
        ⟨(some 73), .move (.t 8), (some (72, false)), false⟩,
        ⟨(some 74), .bin .gtr (.t 73) (.c (.int .i64 0)), (some (72, false)), false⟩,
        ⟨(some 75), .move (.t 74), (some (72, false)), false⟩,
        ⟨(some 76), .faddr 0 (.t 9), (some (75, true)), false⟩,
        ⟨(some 77), .load false 1 (.t 76), (some (75, true)), false⟩,
        ⟨(some 78), .move (.t 7), (some (75, true)), false⟩,
        ⟨(some 79), .move (.t 8), (some (75, true)), false⟩,
        ⟨(some 80), .bin .sub (.t 79) (.c (.int .i64 1)), (some (75, true)), false⟩,
        ⟨(some 81), .iaddr 3 (.t 78) (.t 80), (some (75, true)), false⟩,
        ⟨(some 82), .faddr 1 (.t 81), (some (75, true)), false⟩,
        ⟨(some 83), .load false 1 (.t 82), (some (75, true)), false⟩,
        ⟨(some 84), .bin .leq (.t 77) (.t 83), (some (75, true)), false⟩,
        ⟨(some 85), .move (.t 84), (some (75, true)), false⟩,
        ⟨(some 86), .faddr 0 (.t 9), (some (85, false)), false⟩,
        ⟨(some 87), .load false 1 (.t 86), (some (85, false)), false⟩,
        ⟨(some 88), .move (.t 7), (some (85, false)), false⟩,
        ⟨(some 89), .move (.t 8), (some (85, false)), false⟩,
        ⟨(some 90), .bin .sub (.t 89) (.c (.int .i64 1)), (some (85, false)), false⟩,
        ⟨(some 91), .iaddr 3 (.t 88) (.t 90), (some (85, false)), false⟩,
        ⟨(some 92), .faddr 1 (.t 91), (some (85, false)), false⟩,
        ⟨(some 93), .load false 1 (.t 92), (some (85, false)), false⟩,
        ⟨(some 94), .bin .add (.t 93) (.c (.int .i64 1)), (some (85, false)), false⟩,
        ⟨(some 95), .bin .eql (.t 87) (.t 94), (some (85, false)), false⟩,
        ⟨(some 96), .move (.t 95), (some (85, false)), false⟩,
        ⟨(some 97), .faddr 2 (.t 9), (some (96, true)), false⟩,
        ⟨(some 98), .load false 1 (.t 97), (some (96, true)), false⟩,
        ⟨(some 99), .move (.t 7), (some (96, true)), false⟩,
        ⟨(some 100), .move (.t 8), (some (96, true)), false⟩,
        ⟨(some 101), .bin .sub (.t 100) (.c (.int .i64 1)), (some (96, true)), false⟩,
        ⟨(some 102), .iaddr 3 (.t 99) (.t 101), (some (96, true)), false⟩,
        ⟨(some 103), .faddr 2 (.t 102), (some (96, true)), false⟩,
        ⟨(some 104), .load false 1 (.t 103), (some (96, true)), false⟩,
        ⟨(some 105), .bin .eql (.t 98) (.t 104), (some (96, true)), false⟩,
        ⟨(some 106), .pick (.t 96) (.t 105) (.c (.bool false)), (some (85, false)), false⟩,
        ⟨(some 107), .pick (.t 85) (.c (.bool true)) (.t 106), (some (75, true)), false⟩,
        ⟨(some 108), .pick (.t 75) (.t 107) (.c (.bool false)), (some (72, false)), false⟩,
        ⟨(some 109), .pick (.t 72) (.c (.bool true)) (.t 108), none, false⟩,
        ⟨(some 110), .move (.t 109), none, false⟩,
        ⟨(some 111), .faddr 2 (.t 9), (some (110, false)), false⟩,
        ⟨(some 112), .load false 1 (.t 111), (some (110, false)), false⟩,
        ⟨(some 113), .bin .neq (.t 112) (.c (.int .i64 (-1))), (some (110, false)), false⟩,
        ⟨(some 114), .move (.t 113), (some (110, false)), false⟩,
        ⟨(some 115), .faddr 2 (.t 9), (some (114, true)), false⟩,
        ⟨(some 116), .load false 1 (.t 115), (some (114, true)), false⟩,
        ⟨(some 117), .bin .lss (.t 116) (.c (.int .i64 1)), (some (114, true)), false⟩,
        ⟨(some 118), .move (.t 117), (some (114, true)), false⟩,
        ⟨(some 119), .faddr 2 (.t 9), (some (118, false)), false⟩,
        ⟨(some 120), .load false 1 (.t 119), (some (118, false)), false⟩,
        ⟨(some 121), .move (.t 5), (some (118, false)), false⟩,
        ⟨(some 122), .bin .gtr (.t 120) (.t 121), (some (118, false)), false⟩,
        ⟨(some 123), .pick (.t 118) (.c (.bool true)) (.t 122), (some (114, true)), false⟩,
        ⟨(some 124), .move (.t 123), (some (114, true)), false⟩,
        ⟨(some 125), .faddr 2 (.t 9), (some (124, false)), false⟩,
        ⟨(some 126), .load false 1 (.t 125), (some (124, false)), false⟩,
        ⟨(some 127), .faddr 0 (.t 3), (some (124, false)), false⟩,
        ⟨(some 128), .load false 1 (.t 127), (some (124, false)), false⟩,
        ⟨(some 129), .len 0 (.t 128), (some (124, false)), false⟩,
        ⟨(some 130), .bin .geq (.t 126) (.t 129), (some (124, false)), false⟩,
        ⟨(some 131), .pick (.t 124) (.c (.bool true)) (.t 130), (some (114, true)), false⟩,
        ⟨(some 132), .pick (.t 114) (.t 131) (.c (.bool false)), (some (110, false)), false⟩,
        ⟨(some 133), .pick (.t 110) (.c (.bool true)) (.t 132), none, false⟩])
      (.cond (.t 133) (.seq (.region [⟨(some 2), .move (.c (.bool false)), none, false⟩])
       (.ret)) (.skip)))
      (.seq (.region [⟨(some 134), .faddr 2 (.t 9), none, false⟩,
        ⟨(some 135), .load false 1 (.t 134), none, false⟩,
        ⟨(some 136), .move (.t 5), none, false⟩,
        ⟨(some 137), .bin .eql (.t 135) (.t 136), none, false⟩])
      (.cond (.t 137) (.region [⟨(some 138), .move (.t 5), none, false⟩,
         ⟨(some 139), .bin .add (.t 138) (.c (.int .i64 1)), none, false⟩,
         ⟨(some 5), .move (.t 139), none, false⟩]) (.skip))))))
     (.region [⟨(some 140), .bin .add (.t 52) (.c (.int .i64 1)), none, false⟩,
       ⟨(some 52), .move (.t 140), none, false⟩]))))
def b_leadtraillaw13_AutoLeast_l2 : ACode :=
    (.seq (.seq (.region [⟨(some 141), .move (.t 10), none, false⟩,
       ⟨(some 142), .move (.t 6), none, false⟩,
       ⟨(some 143), .bin .lss (.t 141) (.t 142), none, false⟩])
     (.cond (.t 143) (.skip) (.exit 4)))
     (.seq (.block 5 (.seq (.region [⟨(some 146), .move (.t 7), none, false⟩,
        ⟨(some 147), .bslice .lit 1 false 1 [.nils] [(0, (.t 146))], none, false⟩,
        ⟨(some 148), .build [.nils] [(0, 1, (.t 147))], none, false⟩,
        ⟨(some 149), .faddr 0 (.t 3), none, false⟩,
        ⟨(some 150), .load false 1 (.t 149), none, false⟩,
        ⟨(some 151), .move (.t 10), none, false⟩,
        ⟨(some 152), .iaddr 1 (.t 150) (.t 151), none, false⟩,
        ⟨(some 153), .load false 1 (.t 152), none, false⟩,
        ⟨(some 154), .bslice .lit 1 false 1 [.nils] [(0, (.t 153))], none, false⟩,
        ⟨(some 155), .build [.nils] [(0, 1, (.t 154))], none, false⟩,
        ⟨(some 156), .callP F_leadtrailref13_Same [(.t 148), (.t 155)], none, false⟩])
      (.cond (.t 156) (.seq (.region [⟨(some 2), .move (.c (.bool false)), none, false⟩])
       (.ret)) (.skip))))
     (.region [⟨(some 144), .move (.t 10), none, false⟩,
       ⟨(some 145), .bin .add (.t 144) (.c (.int .i64 1)), none, false⟩,
       ⟨(some 10), .move (.t 145), none, false⟩])))
def b_leadtraillaw13_AutoLeast_l0 : ACode :=
    (.seq (.region [⟨(some 32), .bin .lss (.t 31) (.t 30), none, false⟩])
     (.seq (.cond (.t 32) (.skip) (.exit 0))
     (.seq (.block 1 (.seq (.region [⟨(some 33), .move (.t 31), none, false⟩,
        ⟨(some 34), .iaddr 1 (.t 29) (.t 31), none, false⟩,
        ⟨(some 35), .load false 1 (.t 34), none, false⟩,
        ⟨(some 6), .move (.t 33), none, false⟩,
        ⟨(some 7), .move (.t 35), none, false⟩])
      (.seq (.seq (.region [⟨(some 36), .move (.t 6), none, false⟩,
        ⟨(some 37), .move (.t 5), none, false⟩,
        ⟨(some 38), .bin .geq (.t 36) (.t 37), none, false⟩,
        ⟨(some 39), .move (.t 38), none, false⟩,
        ⟨(some 40), .move (.t 7), (some (39, false)), false⟩,
        ⟨(some 41), .len 0 (.t 40), (some (39, false)), false⟩,
        ⟨(some 42), .bin .eql (.t 41) (.c (.int .i64 0)), (some (39, false)), false⟩,
        ⟨(some 43), .move (.t 42), (some (39, false)), false⟩,
        ⟨(some 44), .faddr 0 (.t 1), (some (43, true)), true⟩,
        ⟨(some 45), .load false 1 (.t 44), (some (43, true)), true⟩,
        ⟨(some 46), .len 0 (.t 45), (some (43, true)), false⟩,
        ⟨(some 47), .bin .gtr (.t 46) (.c (.int .i64 0)), (some (43, true)), false⟩,
        ⟨(some 48), .pick (.t 43) (.t 47) (.c (.bool false)), (some (39, false)), false⟩,
        ⟨(some 49), .pick (.t 39) (.c (.bool true)) (.t 48), none, false⟩])
      (.cond (.t 49) (.seq (.region [⟨(some 2), .move (.c (.bool false)), none, false⟩])
       (.ret)) (.skip)))
      (.seq (.seq (.region [⟨(some 50), .move (.t 7), none, false⟩,
        ⟨(some 51), .len 0 (.t 50), none, false⟩,
        ⟨(some 52), .move (.c (.int .i64 0)), none, false⟩])
      (.block 2 (.loop [1, 3, 5, 6, 7, 29, 30, 31, 50, 51, 52] b_leadtraillaw13_AutoLeast_l1)))
      (.seq (.region [⟨(some 10), .move (.c (.int .i64 0)), none, false⟩])
      (.block 4 (.loop [1, 3, 5, 6, 7, 10, 29, 30, 31] b_leadtraillaw13_AutoLeast_l2)))))))
     (.region [⟨(some 157), .bin .add (.t 31) (.c (.int .i64 1)), none, false⟩,
       ⟨(some 31), .move (.t 157), none, false⟩]))))
def b_leadtraillaw13_AutoLeast_l5 : ACode :=
    (.seq (.region [⟨(some 186), .bin .lss (.t 185) (.t 184), none, false⟩])
     (.seq (.cond (.t 186) (.skip) (.exit 10))
     (.seq (.block 11 (.seq (.region [⟨(some 187), .iaddr 3 (.t 183) (.t 185), none, false⟩,
        ⟨(some 188), .load true 3 (.t 187), none, false⟩,
        ⟨(some 16), .alloc [(.int .i64 0), (.int .i64 0), (.int .i64 0)], none, false⟩,
        ⟨none, .store 3 (.t 16) (.t 188), none, false⟩])
      (.seq (.region [⟨(some 189), .move (.t 11), none, false⟩,
        ⟨(some 190), .move (.t 14), none, false⟩,
        ⟨(some 191), .iaddr 1 (.t 189) (.t 190), none, false⟩,
        ⟨(some 192), .load false 1 (.t 191), none, false⟩,
        ⟨(some 193), .move (.t 192), none, false⟩,
        ⟨(some 194), .faddr 2 (.t 16), (some (193, true)), false⟩,
        ⟨(some 195), .load false 1 (.t 194), (some (193, true)), false⟩,
        ⟨(some 196), .bin .neq (.t 195) (.c (.int .i64 (-1))), (some (193, true)), false⟩,
        ⟨(some 197), .pick (.t 193) (.t 196) (.c (.bool false)), none, false⟩])
      (.cond (.t 197) (.region [⟨(some 198), .move (.t 13), none, false⟩,
         ⟨(some 199), .faddr 2 (.t 16), none, false⟩,
         ⟨(some 200), .load false 1 (.t 199), none, false⟩,
         ⟨(some 201), .iaddr 1 (.t 198) (.t 200), none, false⟩,
         ⟨none, .store 1 (.t 201) (.c (.bool true)), none, false⟩]) (.skip)))))
     (.region [⟨(some 202), .bin .add (.t 185) (.c (.int .i64 1)), none, false⟩,
       ⟨(some 185), .move (.t 202), none, false⟩]))))
def b_leadtraillaw13_AutoLeast_l4 : ACode :=
    (.seq (.region [⟨(some 177), .bin .lss (.t 176) (.t 175), none, false⟩])
     (.seq (.cond (.t 177) (.skip) (.exit 8))
     (.seq (.block 9 (.seq (.region [⟨(some 178), .move (.t 176), none, false⟩,
        ⟨(some 14), .move (.t 178), none, false⟩])
      (.seq (.region [⟨(some 179), .faddr 0 (.t 3), none, false⟩,
        ⟨(some 180), .load false 1 (.t 179), none, false⟩,
        ⟨(some 181), .move (.t 14), none, false⟩,
        ⟨(some 182), .iaddr 1 (.t 180) (.t 181), none, false⟩,
        ⟨(some 183), .load false 1 (.t 182), none, false⟩,
        ⟨(some 184), .len 0 (.t 183), none, false⟩,
        ⟨(some 185), .move (.c (.int .i64 0)), none, false⟩])
      (.block 10 (.loop [3, 5, 11, 12, 13, 14, 175, 176, 183, 184, 185] b_leadtraillaw13_AutoLeast_l5)))))
     (.region [⟨(some 203), .bin .add (.t 176) (.c (.int .i64 1)), none, false⟩,
       ⟨(some 176), .move (.t 203), none, false⟩]))))
def b_leadtraillaw13_AutoLeast_l3 : ACode :=
    (.seq (.seq (.region [⟨(some 167), .move (.t 12), none, false⟩,
       ⟨(some 168), .bin .lss (.t 167) (.c (.int .i64 8)), none, false⟩])
     (.cond (.t 168) (.skip) (.exit 6)))
     (.seq (.block 7 (.seq (.region [⟨(some 171), .move (.t 11), none, false⟩,
        ⟨(some 172), .len 0 (.t 171), none, false⟩,
        ⟨(some 173), .mkslice .own 1 false [(.bool false)] 1 (.t 172) (.t 172), none, false⟩,
        ⟨(some 13), .move (.t 173), none, false⟩])
      (.seq (.seq (.region [⟨(some 174), .move (.t 11), none, false⟩,
        ⟨(some 175), .len 0 (.t 174), none, false⟩,
        ⟨(some 176), .move (.c (.int .i64 0)), none, false⟩])
      (.block 8 (.loop [3, 5, 11, 12, 13, 175, 176] b_leadtraillaw13_AutoLeast_l4)))
      (.region [⟨(some 204), .move (.t 13), none, false⟩,
        ⟨(some 11), .move (.t 204), none, false⟩]))))
     (.region [⟨(some 169), .move (.t 12), none, false⟩,
       ⟨(some 170), .bin .add (.t 169) (.c (.int .i64 1)), none, false⟩,
       ⟨(some 12), .move (.t 170), none, false⟩])))
def b_leadtraillaw13_AutoLeast_l6 : ACode :=
    (.seq (.region [⟨(some 208), .bin .lss (.t 207) (.t 206), none, false⟩])
     (.seq (.cond (.t 208) (.skip) (.exit 12))
     (.seq (.block 13 (.seq (.region [⟨(some 209), .iaddr 1 (.t 205) (.t 207), none, false⟩,
        ⟨(some 210), .load false 1 (.t 209), none, false⟩,
        ⟨(some 18), .move (.t 210), none, false⟩])
      (.seq (.region [⟨(some 211), .move (.t 18), none, false⟩])
      (.cond (.t 211) (.seq (.region [⟨(some 2), .move (.c (.bool false)), none, false⟩])
       (.ret)) (.skip)))))
     (.region [⟨(some 212), .bin .add (.t 207) (.c (.int .i64 1)), none, false⟩,
       ⟨(some 207), .move (.t 212), none, false⟩]))))
/-- leadtrail/leadtraillaw13.AutoLeast -/
def b_leadtraillaw13_AutoLeast : AFn := ⟨1, [.tmp 2],
    (.seq (.region [⟨(some 1), .boxR 1 (.t 0), none, false⟩,
       ⟨(some 2), .move (.c (.bool false)), none, false⟩])
     (.seq (.seq (.region [⟨(some 19), .callP F_leadtraillaw13_fixed [], none, false⟩,
       ⟨(some 20), .un .not (.t 19), none, false⟩])
     (.cond (.t 20) (.seq (.region [⟨(some 2), .move (.c (.bool false)), none, false⟩])
      (.ret)) (.skip)))
     (.seq (.region [⟨(some 22), .load true 1 (.t 1), none, true⟩,
       ⟨(some 23), .callP F_auto_Build [(.t 22)], none, false⟩,
       ⟨(some 21), .move (.t 23), none, false⟩,
       ⟨(some 24), .ext 0 (.t 21), none, false⟩,
       ⟨(some 25), .ext 1 (.t 21), none, false⟩,
       ⟨(some 3), .alloc [.nils], none, false⟩,
       ⟨none, .store 1 (.t 3) (.t 24), none, false⟩,
       ⟨(some 4), .move (.t 25), none, false⟩])
     (.seq (.seq (.region [⟨(some 26), .move (.t 4), none, false⟩,
       ⟨(some 27), .bin .neq (.t 26) (.c (.int .i64 0)), none, false⟩])
     (.cond (.t 27) (.seq (.region [⟨(some 2), .move (.c (.bool true)), none, false⟩])
      (.ret)) (.skip)))
     (.seq (.region [⟨(some 5), .move (.c (.int .i64 1)), none, false⟩])
     (.seq (.seq (.region [⟨(some 28), .faddr 0 (.t 3), none, false⟩,
       ⟨(some 29), .load false 1 (.t 28), none, false⟩,
       ⟨(some 30), .len 0 (.t 29), none, false⟩,
       ⟨(some 31), .move (.c (.int .i64 0)), none, false⟩])
     (.block 0 (.loop [1, 3, 5, 29, 30, 31] b_leadtraillaw13_AutoLeast_l0)))
     (.seq (.region [⟨(some 158), .faddr 0 (.t 3), none, false⟩,
       ⟨(some 159), .load false 1 (.t 158), none, false⟩,
       ⟨(some 160), .len 0 (.t 159), none, false⟩,
       ⟨(some 161), .mkslice .own 1 false [(.bool false)] 1 (.t 160) (.t 160), none, false⟩,
       ⟨(some 11), .move (.t 161), none, false⟩])
     (.seq (.seq (.region [⟨(some 162), .move (.t 11), none, false⟩,
       ⟨(some 163), .len 0 (.t 162), none, false⟩,
       ⟨(some 164), .bin .eql (.t 163) (.c (.int .i64 0)), none, false⟩])
     (.cond (.t 164) (.seq (.region [⟨(some 2), .move (.c (.bool false)), none, false⟩])
      (.ret)) (.skip)))
     (.seq (.region [⟨(some 165), .move (.t 11), none, false⟩,
       ⟨(some 166), .iaddr 1 (.t 165) (.c (.int .i64 0)), none, false⟩,
       ⟨none, .store 1 (.t 166) (.c (.bool true)), none, false⟩])
     (.seq (.seq (.region [⟨(some 12), .move (.c (.int .i64 0)), none, false⟩])
     (.block 6 (.loopG [3, 5, 11, 12] b_leadtraillaw13_AutoLeast_l3)))
     (.seq (.seq (.region [⟨(some 205), .move (.t 11), none, false⟩,
       ⟨(some 206), .len 0 (.t 205), none, false⟩,
       ⟨(some 207), .move (.c (.int .i64 0)), none, false⟩])
     (.block 12 (.loop [3, 5, 205, 206, 207] b_leadtraillaw13_AutoLeast_l6)))
     (.seq (.region [⟨(some 213), .move (.t 5), none, false⟩,
       ⟨(some 214), .faddr 0 (.t 3), none, false⟩,
       ⟨(some 215), .load false 1 (.t 214), none, false⟩,
       ⟨(some 216), .len 0 (.t 215), none, false⟩,
       ⟨(some 217), .bin .eql (.t 213) (.t 216), none, false⟩,
       ⟨(some 218), .move (.t 217), none, false⟩,
       ⟨(some 219), .faddr 0 (.t 3), (some (218, true)), false⟩,
       ⟨(some 220), .load false 1 (.t 219), (some (218, true)), false⟩,
       ⟨(some 221), .len 0 (.t 220), (some (218, true)), false⟩,
       ⟨(some 222), .bin .leq (.t 221) (.c (.int .i64 64)), (some (218, true)), false⟩,
       ⟨(some 223), .pick (.t 218) (.t 222) (.c (.bool false)), none, false⟩,
       ⟨(some 2), .move (.t 223), none, false⟩])
     (.ret)))))))))))))⟩
theorem ok_leadtraillaw13_AutoLeast : okFunc Go.Proofs.Try.prog fo Go.Proofs.Try.f4 b_leadtraillaw13_AutoLeast = true := by kernel_rfl
theorem du_leadtraillaw13_AutoLeast : dutiesF Go.Proofs.Try.f4 b_leadtraillaw13_AutoLeast = [(12, F_leadtraillaw13_fixed), (14, F_auto_Build), (16, F_leadtrailref13_Same)] := by kernel_rfl
theorem fn_leadtraillaw13_AutoLeast : FnOk P fo 4 b_leadtraillaw13_AutoLeast := ⟨_, Go.Proofs.Try.func4, ok_leadtraillaw13_AutoLeast, by rw [du_leadtraillaw13_AutoLeast]; exact List.forall_mem_cons.2 ⟨p_leadtraillaw13_fixed, List.forall_mem_cons.2 ⟨p_auto_Build, List.forall_mem_cons.2 ⟨p_leadtrailref13_Same, fun _ h => by cases h⟩⟩⟩⟩
theorem p_leadtraillaw13_AutoLeast : PureFn P 4 (pureF (fun _ => none) b_leadtraillaw13_AutoLeast) := pureF_ok noTable fn_leadtraillaw13_AutoLeast

def b_leadtrailmem_OwnEdges_l1 : ACode :=
    (.seq (.region [⟨(some 23), .bin .lss (.t 22) (.t 21), none, false⟩])
     (.seq (.cond (.t 23) (.skip) (.exit 2))
     (.seq (.block 3 (.seq (.region [⟨(some 24), .move (.t 22), none, false⟩,
        ⟨(some 6), .move (.t 24), none, false⟩])
      (.region [⟨(some 25), .move (.t 5), none, false⟩,
        ⟨(some 26), .move (.t 6), none, false⟩,
        ⟨(some 27), .move (.t 4), none, false⟩,
        ⟨(some 28), .un .neg (.t 27), none, false⟩,
        ⟨(some 29), .bin .sub (.t 28) (.c (.int .i64 5)), none, false⟩,
        ⟨(some 30), .build [(.int .i64 0), (.int .i64 0), (.int .i64 0)] [(0, 1, (.t 29))], none, false⟩,
        ⟨(some 31), .iaddr 3 (.t 25) (.t 26), none, false⟩,
        ⟨none, .store 3 (.t 31) (.t 30), none, false⟩])))
     (.region [⟨(some 32), .bin .add (.t 22) (.c (.int .i64 1)), none, false⟩,
       ⟨(some 22), .move (.t 32), none, false⟩]))))
def b_leadtrailmem_OwnEdges_l0 : ACode :=
    (.seq (.region [⟨(some 16), .bin .lss (.t 15) (.t 14), none, false⟩])
     (.seq (.cond (.t 16) (.skip) (.exit 0))
     (.seq (.block 1 (.seq (.region [⟨(some 17), .move (.t 15), none, false⟩,
        ⟨(some 18), .iaddr 1 (.t 13) (.t 15), none, false⟩,
        ⟨(some 19), .load false 1 (.t 18), none, false⟩,
        ⟨(some 4), .move (.t 17), none, false⟩,
        ⟨(some 5), .move (.t 19), none, false⟩])
      (.seq (.region [⟨(some 20), .move (.t 5), none, false⟩,
        ⟨(some 21), .len 0 (.t 20), none, false⟩,
        ⟨(some 22), .move (.c (.int .i64 0)), none, false⟩])
      (.block 2 (.loop [0, 3, 4, 5, 13, 14, 15, 21, 22] b_leadtrailmem_OwnEdges_l1)))))
     (.region [⟨(some 33), .bin .add (.t 15) (.c (.int .i64 1)), none, false⟩,
       ⟨(some 15), .move (.t 33), none, false⟩]))))
def b_leadtrailmem_OwnEdges_l3 : ACode :=
    (.seq (.seq (.region [⟨(some 41), .move (.t 9), none, false⟩,
       ⟨(some 42), .bin .lss (.t 41) (.c (.int .i64 24)), none, false⟩])
     (.cond (.t 42) (.skip) (.exit 6)))
     (.seq (.block 7 (.region [⟨(some 45), .move (.t 8), none, false⟩,
        ⟨(some 46), .move (.t 7), none, false⟩,
        ⟨(some 47), .bin .add (.t 46) (.c (.int .i64 1)), none, false⟩,
        ⟨(some 48), .build [(.int .i64 0), (.int .i64 0), (.int .i64 0)] [(0, 1, (.t 47))], none, false⟩,
        ⟨(some 49), .bslice .lit 3 true 1 [(.int .i64 0), (.int .i64 0), (.int .i64 0)] [(0, (.t 48))], none, false⟩,
        ⟨(some 50), .append true .own 3 true 24 (.t 45) (.t 49), none, false⟩,
        ⟨(some 8), .move (.t 50), none, false⟩]))
     (.region [⟨(some 43), .move (.t 9), none, false⟩,
       ⟨(some 44), .bin .add (.t 43) (.c (.int .i64 1)), none, false⟩,
       ⟨(some 9), .move (.t 44), none, false⟩])))
def b_leadtrailmem_OwnEdges_l2 : ACode :=
    (.seq (.region [⟨(some 37), .bin .lss (.t 36) (.t 35), none, false⟩])
     (.seq (.cond (.t 37) (.skip) (.exit 4))
     (.seq (.block 5 (.seq (.region [⟨(some 38), .move (.t 36), none, false⟩,
        ⟨(some 39), .iaddr 1 (.t 34) (.t 36), none, false⟩,
        ⟨(some 40), .load false 1 (.t 39), none, false⟩,
        ⟨(some 7), .move (.t 38), none, false⟩,
        ⟨(some 8), .move (.t 40), none, false⟩])
      (.seq (.seq (.region [⟨(some 9), .move (.c (.int .i64 0)), none, false⟩])
      (.block 6 (.loop [0, 3, 7, 8, 9, 34, 35, 36] b_leadtrailmem_OwnEdges_l3)))
      (.ghost (.freeze 8) (.region [⟨(some 51), .move (.t 3), none, false⟩,
        ⟨(some 52), .move (.t 8), none, false⟩,
        ⟨(some 53), .bslice .lit 1 false 1 [.nils] [(0, (.t 52))], none, false⟩,
        ⟨(some 54), .append false .uq 1 false 24 (.t 51) (.t 53), none, false⟩,
        ⟨(some 3), .move (.t 54), none, false⟩])))))
     (.region [⟨(some 55), .bin .add (.t 36) (.c (.int .i64 1)), none, false⟩,
       ⟨(some 36), .move (.t 55), none, false⟩]))))
def b_leadtrailmem_OwnEdges_l5 : ACode :=
    (.seq (.region [⟨(some 66), .bin .lss (.t 65) (.t 64), none, false⟩])
     (.seq (.cond (.t 66) (.skip) (.exit 10))
     (.seq (.block 11 (.seq (.region [⟨(some 67), .move (.t 65), none, false⟩,
        ⟨(some 12), .move (.t 67), none, false⟩])
      (.seq (.region [⟨(some 68), .move (.t 12), none, false⟩,
        ⟨(some 69), .move (.t 0), none, false⟩,
        ⟨(some 70), .move (.t 10), none, false⟩,
        ⟨(some 71), .iaddr 1 (.t 69) (.t 70), none, false⟩,
        ⟨(some 72), .load false 1 (.t 71), none, false⟩,
        ⟨(some 73), .len 0 (.t 72), none, false⟩,
        ⟨(some 74), .bin .lss (.t 68) (.t 73), none, false⟩,
        ⟨(some 75), .move (.t 74), none, false⟩,
        ⟨(some 76), .move (.t 11), (some (75, true)), false⟩,
        ⟨(some 77), .move (.t 12), (some (75, true)), false⟩,
        ⟨(some 78), .iaddr 3 (.t 76) (.t 77), (some (75, true)), false⟩,
        ⟨(some 79), .faddr 0 (.t 78), (some (75, true)), false⟩,
        ⟨(some 80), .load false 1 (.t 79), (some (75, true)), false⟩,
        ⟨(some 81), .move (.t 10), (some (75, true)), false⟩,
        ⟨(some 82), .un .neg (.t 81), (some (75, true)), false⟩,
        ⟨(some 83), .bin .sub (.t 82) (.c (.int .i64 5)), (some (75, true)), false⟩,
        ⟨(some 84), .bin .neq (.t 80) (.t 83), (some (75, true)), false⟩,
        ⟨(some 85), .move (.t 84), (some (75, true)), false⟩,
        ⟨(some 86), .move (.t 0), (some (85, false)), false⟩,
        ⟨(some 87), .move (.t 10), (some (85, false)), false⟩,
        ⟨(some 88), .iaddr 1 (.t 86) (.t 87), (some (85, false)), false⟩,
        ⟨(some 89), .load false 1 (.t 88), (some (85, false)), false⟩,
        ⟨(some 90), .move (.t 12), (some (85, false)), false⟩,
        ⟨(some 91), .iaddr 3 (.t 89) (.t 90), (some (85, false)), false⟩,
        ⟨(some 92), .faddr 0 (.t 91), (some (85, false)), false⟩,
        ⟨(some 93), .load false 1 (.t 92), (some (85, false)), false⟩,
        ⟨(some 94), .move (.t 10), (some (85, false)), false⟩,
        ⟨(some 95), .un .neg (.t 94), (some (85, false)), false⟩,
        ⟨(some 96), .bin .sub (.t 95) (.c (.int .i64 5)), (some (85, false)), false⟩,
        ⟨(some 97), .bin .neq (.t 93) (.t 96), (some (85, false)), false⟩,
        ⟨(some 98), .pick (.t 85) (.c (.bool true)) (.t 97), (some (75, true)), false⟩,
        ⟨(some 99), .pick (.t 75) (.t 98) (.c (.bool false)), none, false⟩,
        ⟨(some 100), .move (.t 99), none, false⟩,
        ⟨(some 101), .move (.t 12), (some (100, false)), false⟩,
        ⟨(some 102), .move (.t 0), (some (100, false)), false⟩,
        ⟨(some 103), .move (.t 10), (some (100, false)), false⟩,
        ⟨(some 104), .iaddr 1 (.t 102) (.t 103), (some (100, false)), false⟩,
        ⟨(some 105), .load false 1 (.t 104), (some (100, false)), false⟩,
        ⟨(some 106), .len 0 (.t 105), (some (100, false)), false⟩,
        ⟨(some 107), .bin .geq (.t 101) (.t 106), (some (100, false)), false⟩,
        ⟨(some 108), .move (.t 107), (some (100, false)), false⟩,
        ⟨(some 109), .move (.t 11), (some (108, true)), false⟩,
        ⟨(some 110), .move (.t 12), (some (108, true)), false⟩,
        ⟨(some 111), .iaddr 3 (.t 109) (.t 110), (some (108, true)), false⟩,
        ⟨(some 112), .faddr 0 (.t 111), (some (108, true)), false⟩,
        ⟨(some 113), .load false 1 (.t 112), (some (108, true)), false⟩,
        ⟨(some 114), .move (.t 10), (some (108, true)), false⟩,
        ⟨(some 115), .bin .add (.t 114) (.c (.int .i64 1)), (some (108, true)), false⟩,
        ⟨(some 116), .bin .neq (.t 113) (.t 115), (some (108, true)), false⟩,
        ⟨(some 117), .pick (.t 108) (.t 116) (.c (.bool false)), (some (100, false)), false⟩,
        ⟨(some 118), .pick (.t 100) (.c (.bool true)) (.t 117), none, false⟩])
      (.cond (.t 118) (.seq (.region [⟨(some 2), .move (.c (.bool false)), none, false⟩])
       (.ret)) (.skip)))))
     (.region [⟨(some 119), .bin .add (.t 65) (.c (.int .i64 1)), none, false⟩,
       ⟨(some 65), .move (.t 119), none, false⟩]))))
def b_leadtrailmem_OwnEdges_l4 : ACode :=
    (.seq (.region [⟨(some 59), .bin .lss (.t 58) (.t 57), none, false⟩])
     (.seq (.cond (.t 59) (.skip) (.exit 8))
     (.seq (.block 9 (.seq (.region [⟨(some 60), .move (.t 58), none, false⟩,
        ⟨(some 61), .iaddr 1 (.t 56) (.t 58), none, false⟩,
        ⟨(some 62), .load false 1 (.t 61), none, false⟩,
        ⟨(some 10), .move (.t 60), none, false⟩,
        ⟨(some 11), .move (.t 62), none, false⟩])
      (.seq (.region [⟨(some 63), .move (.t 11), none, false⟩,
        ⟨(some 64), .len 0 (.t 63), none, false⟩,
        ⟨(some 65), .move (.c (.int .i64 0)), none, false⟩])
      (.block 10 (.loop [0, 10, 11, 56, 57, 58, 64, 65] b_leadtrailmem_OwnEdges_l5)))))
     (.region [⟨(some 120), .bin .add (.t 58) (.c (.int .i64 1)), none, false⟩,
       ⟨(some 58), .move (.t 120), none, false⟩]))))
/-- leadtrail/leadtrailmem.OwnEdges -/
def b_leadtrailmem_OwnEdges : AFn := ⟨1, [.tmp 2],
    (.seq (.region [⟨(some 2), .move (.c (.bool false)), none, false⟩])
     (.seq (.region [⟨(some 3), .move (.c .nils), none, false⟩])
     (.ghost (.mkuq 3 1) (.seq (.seq (.region [⟨(some 13), .move (.t 0), none, false⟩,
       ⟨(some 14), .len 0 (.t 13), none, false⟩,
       ⟨(some 15), .move (.c (.int .i64 0)), none, false⟩])
     (.block 0 (.loop [0, 3, 13, 14, 15] b_leadtrailmem_OwnEdges_l0)))
     (.seq (.seq (.region [⟨(some 34), .move (.t 0), none, false⟩,
       ⟨(some 35), .len 0 (.t 34), none, false⟩,
       ⟨(some 36), .move (.c (.int .i64 0)), none, false⟩])
     (.block 4 (.loop [0, 3, 34, 35, 36] b_leadtrailmem_OwnEdges_l2)))
     (.seq (.seq (.region [⟨(some 56), .move (.t 3), none, false⟩,
       ⟨(some 57), .len 0 (.t 56), none, false⟩,
       ⟨(some 58), .move (.c (.int .i64 0)), none, false⟩])
     (.block 8 (.loop [0, 56, 57, 58] b_leadtrailmem_OwnEdges_l4)))
     (.seq (.region [⟨(some 2), .move (.c (.bool true)), none, false⟩])
     (.ret))))))))⟩
theorem ok_leadtrailmem_OwnEdges : okFunc Go.Proofs.Try.prog fo Go.Proofs.Try.f18 b_leadtrailmem_OwnEdges = true := by kernel_rfl
theorem du_leadtrailmem_OwnEdges : dutiesF Go.Proofs.Try.f18 b_leadtrailmem_OwnEdges = [] := by kernel_rfl
theorem fn_leadtrailmem_OwnEdges : FnOk P fo 18 b_leadtrailmem_OwnEdges := ⟨_, Go.Proofs.Try.func18, ok_leadtrailmem_OwnEdges, by rw [du_leadtrailmem_OwnEdges]; exact fun _ h => by cases h⟩

def b_leadtrailref10_Next_l0 : ACode :=
    (.seq (.seq (.region [⟨(some 14), .move (.t 8), none, false⟩,
       ⟨(some 15), .faddr 0 (.t 2), none, true⟩,
       ⟨(some 16), .load false 1 (.t 15), none, true⟩,
       ⟨(some 17), .len 0 (.t 16), none, false⟩,
       ⟨(some 18), .bin .lss (.t 14) (.t 17), none, false⟩])
     (.cond (.t 18) (.skip) (.exit 0)))
     (.seq (.block 1 (.seq (.region [⟨(some 21), .faddr 0 (.t 2), none, true⟩,
        ⟨(some 22), .load false 1 (.t 21), none, true⟩,
        ⟨(some 23), .move (.t 8), none, false⟩,
        ⟨(some 24), .iaddr 2 (.t 22) (.t 23), none, false⟩,
        ⟨(some 25), .load true 2 (.t 24), none, false⟩,
        ⟨(some 9), .alloc [.nils, (.int .i64 0)], none, false⟩,
        ⟨none, .store 2 (.t 9) (.t 25), none, false⟩])
      (.seq (.region [⟨(some 26), .move (.t 1), none, false⟩,
        ⟨(some 27), .faddr 1 (.t 9), none, false⟩,
        ⟨(some 28), .load false 1 (.t 27), none, false⟩,
        ⟨(some 29), .mx [(.t 26), (.t 28)], none, false⟩,
        ⟨(some 10), .move (.t 29), none, false⟩])
      (.seq (.region [⟨(some 30), .move (.t 10), none, false⟩,
        ⟨(some 31), .faddr 1 (.t 9), none, false⟩,
        ⟨(some 32), .load false 1 (.t 31), none, false⟩,
        ⟨(some 33), .load true 2 (.t 9), none, false⟩,
        ⟨(some 34), .callP F_leadtrailref08_Count [(.t 33)], none, false⟩,
        ⟨(some 35), .bin .add (.t 32) (.t 34), none, false⟩,
        ⟨(some 36), .bin .sub (.t 35) (.c (.int .i64 1)), none, false⟩,
        ⟨(some 37), .bin .leq (.t 30) (.t 36), none, false⟩,
        ⟨(some 38), .move (.t 37), none, false⟩,
        ⟨(some 39), .move (.t 7), (some (38, true)), false⟩,
        ⟨(some 40), .un .not (.t 39), (some (38, true)), false⟩,
        ⟨(some 41), .move (.t 40), (some (38, true)), false⟩,
        ⟨(some 42), .move (.t 10), (some (41, false)), false⟩,
        ⟨(some 43), .move (.t 6), (some (41, false)), false⟩,
        ⟨(some 44), .bin .lss (.t 42) (.t 43), (some (41, false)), false⟩,
        ⟨(some 45), .pick (.t 41) (.c (.bool true)) (.t 44), (some (38, true)), false⟩,
        ⟨(some 46), .pick (.t 38) (.t 45) (.c (.bool false)), none, false⟩])
      (.cond (.t 46) (.region [⟨(some 47), .move (.t 10), none, false⟩,
         ⟨(some 6), .move (.t 47), none, false⟩,
         ⟨(some 7), .move (.c (.bool true)), none, false⟩]) (.skip))))))
     (.region [⟨(some 19), .move (.t 8), none, false⟩,
       ⟨(some 20), .bin .add (.t 19) (.c (.int .i64 1)), none, false⟩,
       ⟨(some 8), .move (.t 20), none, false⟩])))
/-- leadtrail/leadtrailref10.Next -/
def b_leadtrailref10_Next : AFn := ⟨2, [.tmp 4, .tmp 5],
    (.seq (.region [⟨(some 2), .boxR 1 (.t 0), none, false⟩,
       ⟨(some 4), .move (.c (.int .i64 0)), none, false⟩,
       ⟨(some 5), .move (.c (.bool false)), none, false⟩])
     (.seq (.seq (.region [⟨(some 11), .load true 1 (.t 2), none, true⟩,
       ⟨(some 12), .callP F_leadtrailref08_Valid [(.t 11)], none, false⟩,
       ⟨(some 13), .un .not (.t 12), none, false⟩])
     (.cond (.t 13) (.seq (.region [⟨(some 4), .move (.c (.int .i64 0)), none, false⟩,
        ⟨(some 5), .move (.c (.bool false)), none, false⟩])
      (.ret)) (.skip)))
     (.seq (.region [⟨(some 6), .move (.c (.int .i64 0)), none, false⟩,
       ⟨(some 7), .move (.c (.bool false)), none, false⟩])
     (.seq (.seq (.region [⟨(some 8), .move (.c (.int .i64 0)), none, false⟩])
     (.block 0 (.loop [1, 2, 6, 7, 8] b_leadtrailref10_Next_l0)))
     (.seq (.region [⟨(some 48), .move (.t 6), none, false⟩,
       ⟨(some 49), .move (.t 7), none, false⟩,
       ⟨(some 4), .move (.t 48), none, false⟩,
       ⟨(some 5), .move (.t 49), none, false⟩])
     (.ret))))))⟩
theorem ok_leadtrailref10_Next : okFunc Go.Proofs.Try.prog fo Go.Proofs.Try.f19 b_leadtrailref10_Next = true := by kernel_rfl
theorem du_leadtrailref10_Next : dutiesF Go.Proofs.Try.f19 b_leadtrailref10_Next = [(44, F_leadtrailref08_Valid), (45, F_leadtrailref08_Count)] := by kernel_rfl
theorem fn_leadtrailref10_Next : FnOk P fo 19 b_leadtrailref10_Next := ⟨_, Go.Proofs.Try.func19, ok_leadtrailref10_Next, by rw [du_leadtrailref10_Next]; exact List.forall_mem_cons.2 ⟨p_leadtrailref08_Valid, List.forall_mem_cons.2 ⟨p_leadtrailref08_Count, fun _ h => by cases h⟩⟩⟩
def F_leadtrailref10_Next : List PV → Option PV := pureF (fun _ => none) b_leadtrailref10_Next
theorem p_leadtrailref10_Next : PureFn P 19 F_leadtrailref10_Next := pureF_ok noTable fn_leadtrailref10_Next

/-- leadtrail/leadtraillaw13.AutoOwns -/
def b_leadtraillaw13_AutoOwns : AFn := ⟨1, [.tmp 2],
    (.seq (.region [⟨(some 1), .boxR 1 (.t 0), none, false⟩,
       ⟨(some 2), .move (.c (.bool false)), none, false⟩])
     (.seq (.seq (.region [⟨(some 14), .callP F_leadtraillaw13_fixed [], none, false⟩,
       ⟨(some 15), .un .not (.t 14), none, false⟩])
     (.cond (.t 15) (.seq (.region [⟨(some 2), .move (.c (.bool false)), none, false⟩])
      (.ret)) (.skip)))
     (.seq (.region [⟨(some 17), .load true 1 (.t 1), none, true⟩,
       ⟨(some 18), .callP F_leadtrailref13_Build [(.t 17)], none, false⟩,
       ⟨(some 16), .move (.t 18), none, false⟩,
       ⟨(some 19), .ext 0 (.t 16), none, false⟩,
       ⟨(some 20), .ext 1 (.t 16), none, false⟩,
       ⟨(some 3), .alloc [.nils], none, false⟩,
       ⟨none, .store 1 (.t 3) (.t 19), none, false⟩,
       ⟨(some 4), .move (.t 20), none, false⟩])
     (.seq (.region [⟨(some 21), .load true 1 (.t 1), none, true⟩,
       ⟨(some 22), .callP F_leadtrailref08_Copy [(.t 21)], none, false⟩,
       ⟨(some 5), .alloc [.nils], none, false⟩,
       ⟨none, .store 1 (.t 5) (.t 22), none, false⟩])
     (.seq (.region [⟨(some 24), .load true 1 (.t 5), none, false⟩,
       ⟨(some 25), .callP F_auto_Build [(.t 24)], none, false⟩,
       ⟨(some 23), .move (.t 25), none, false⟩,
       ⟨(some 26), .ext 0 (.t 23), none, false⟩,
       ⟨(some 27), .ext 1 (.t 23), none, false⟩,
       ⟨(some 6), .alloc [.nils], none, false⟩,
       ⟨none, .store 1 (.t 6) (.t 26), none, false⟩,
       ⟨(some 7), .move (.t 27), none, false⟩])
     (.seq (.region [⟨(some 29), .load true 1 (.t 5), none, false⟩,
       ⟨(some 30), .callP F_auto_Build [(.t 29)], none, false⟩,
       ⟨(some 28), .move (.t 30), none, false⟩,
       ⟨(some 31), .ext 0 (.t 28), none, false⟩,
       ⟨(some 32), .ext 1 (.t 28), none, false⟩,
       ⟨(some 8), .alloc [.nils], none, false⟩,
       ⟨none, .store 1 (.t 8) (.t 31), none, false⟩,
       ⟨(some 9), .move (.t 32), none, false⟩])
     (.seq (.seq (.region [⟨(some 33), .load true 1 (.t 6), none, false⟩,
       ⟨(some 34), .load true 1 (.t 3), none, false⟩,
       ⟨(some 35), .callP F_leadtrailref13_Same [(.t 33), (.t 34)], none, false⟩,
       ⟨(some 36), .un .not (.t 35), none, false⟩,
       ⟨(some 37), .move (.t 36), none, false⟩,
       ⟨(some 38), .load true 1 (.t 8), (some (37, false)), false⟩,
       ⟨(some 39), .load true 1 (.t 3), (some (37, false)), false⟩,
       ⟨(some 40), .callP F_leadtrailref13_Same [(.t 38), (.t 39)], (some (37, false)), false⟩,
       ⟨(some 41), .un .not (.t 40), (some (37, false)), false⟩,
       ⟨(some 42), .pick (.t 37) (.c (.bool true)) (.t 41), none, false⟩,
       ⟨(some 43), .move (.t 42), none, false⟩,
       ⟨(some 44), .bslice .uq 1 false 0 [.nils] [], (some (43, false)), false⟩,
       ⟨(some 45), .faddr 0 (.t 6), (some (43, false)), false⟩,
       ⟨(some 46), .load false 1 (.t 45), (some (43, false)), false⟩,
       ⟨(some 47), .append false .uq 1 false 24 (.t 44) (.t 46), (some (43, false)), false⟩,
       ⟨(some 48), .faddr 0 (.t 8), (some (43, false)), false⟩,
       ⟨(some 49), .load false 1 (.t 48), (some (43, false)), false⟩,
       ⟨(some 50), .append false .uq 1 false 24 (.t 47) (.t 49), (some (43, false)), false⟩,
       ⟨(some 51), .callI 31 [(.t 50)], (some (43, false)), false⟩,
       ⟨(some 52), .un .not (.t 51), (some (43, false)), false⟩,
       ⟨(some 53), .pick (.t 43) (.c (.bool true)) (.t 52), none, false⟩])
     (.cond (.t 53) (.seq (.region [⟨(some 2), .move (.c (.bool false)), none, false⟩])
      (.ret)) (.skip)))
     (.seq (.region [⟨(some 55), .load true 1 (.t 5), none, false⟩,
       ⟨(some 56), .callP F_auto_Build [(.t 55)], none, false⟩,
       ⟨(some 54), .move (.t 56), none, false⟩,
       ⟨(some 57), .ext 0 (.t 54), none, false⟩,
       ⟨(some 58), .ext 1 (.t 54), none, false⟩,
       ⟨(some 10), .alloc [.nils], none, false⟩,
       ⟨none, .store 1 (.t 10) (.t 57), none, false⟩,
       ⟨(some 11), .move (.t 58), none, false⟩])
     (.seq (.region [⟨(some 60), .load true 1 (.t 1), none, true⟩,
       ⟨(some 61), .callP F_leadtrailref10_Next [(.t 60), (.c (.int .i64 0))], none, false⟩,
       ⟨(some 59), .move (.t 61), none, false⟩,
       ⟨(some 62), .ext 0 (.t 59), none, false⟩,
       ⟨(some 63), .ext 1 (.t 59), none, false⟩,
       ⟨(some 12), .move (.t 62), none, false⟩,
       ⟨(some 13), .move (.t 63), none, false⟩])
     (.seq (.region [⟨(some 64), .load true 1 (.t 10), none, false⟩,
       ⟨(some 65), .load true 1 (.t 3), none, false⟩,
       ⟨(some 66), .callP F_leadtrailref13_Same [(.t 64), (.t 65)], none, false⟩,
       ⟨(some 67), .move (.t 66), none, false⟩,
       ⟨(some 68), .faddr 0 (.t 3), (some (67, true)), false⟩,
       ⟨(some 69), .load false 1 (.t 68), (some (67, true)), false⟩,
       ⟨(some 70), .len 0 (.t 69), (some (67, true)), false⟩,
       ⟨(some 71), .bin .eql (.t 70) (.c (.int .i64 0)), (some (67, true)), false⟩,
       ⟨(some 72), .move (.t 71), (some (67, true)), false⟩,
       ⟨(some 73), .move (.t 13), (some (72, false)), false⟩,
       ⟨(some 74), .un .not (.t 73), (some (72, false)), false⟩,
       ⟨(some 75), .pick (.t 72) (.c (.bool true)) (.t 74), (some (67, true)), false⟩,
       ⟨(some 76), .move (.t 75), (some (67, true)), false⟩,
       ⟨(some 77), .faddr 0 (.t 3), (some (76, false)), false⟩,
       ⟨(some 78), .load false 1 (.t 77), (some (76, false)), false⟩,
       ⟨(some 79), .iaddr 1 (.t 78) (.c (.int .i64 0)), (some (76, false)), false⟩,
       ⟨(some 80), .load false 1 (.t 79), (some (76, false)), false⟩,
       ⟨(some 81), .len 0 (.t 80), (some (76, false)), false⟩,
       ⟨(some 82), .bin .gtr (.t 81) (.c (.int .i64 0)), (some (76, false)), false⟩,
       ⟨(some 83), .pick (.t 76) (.c (.bool true)) (.t 82), (some (67, true)), false⟩,
       ⟨(some 84), .pick (.t 67) (.t 83) (.c (.bool false)), none, false⟩,
       ⟨(some 2), .move (.t 84), none, false⟩])
     (.ret)))))))))))⟩
theorem ok_leadtraillaw13_AutoOwns : okFunc Go.Proofs.Try.prog fo Go.Proofs.Try.f5 b_leadtraillaw13_AutoOwns = true := by kernel_rfl
theorem du_leadtraillaw13_AutoOwns : dutiesF Go.Proofs.Try.f5 b_leadtraillaw13_AutoOwns = [(12, F_leadtraillaw13_fixed), (15, F_leadtrailref13_Build), (13, F_leadtrailref08_Copy), (14, F_auto_Build), (14, F_auto_Build), (16, F_leadtrailref13_Same), (16, F_leadtrailref13_Same), (14, F_auto_Build), (19, F_leadtrailref10_Next), (16, F_leadtrailref13_Same)] := by kernel_rfl
theorem fn_leadtraillaw13_AutoOwns : FnOk P fo 5 b_leadtraillaw13_AutoOwns := ⟨_, Go.Proofs.Try.func5, ok_leadtraillaw13_AutoOwns, by rw [du_leadtraillaw13_AutoOwns]; exact List.forall_mem_cons.2 ⟨p_leadtraillaw13_fixed, List.forall_mem_cons.2 ⟨p_leadtrailref13_Build, List.forall_mem_cons.2 ⟨p_leadtrailref08_Copy, List.forall_mem_cons.2 ⟨p_auto_Build, List.forall_mem_cons.2 ⟨p_auto_Build, List.forall_mem_cons.2 ⟨p_leadtrailref13_Same, List.forall_mem_cons.2 ⟨p_leadtrailref13_Same, List.forall_mem_cons.2 ⟨p_auto_Build, List.forall_mem_cons.2 ⟨p_leadtrailref10_Next, List.forall_mem_cons.2 ⟨p_leadtrailref13_Same, fun _ h => by cases h⟩⟩⟩⟩⟩⟩⟩⟩⟩⟩⟩
def t_leadtraillaw13_AutoOwns : Nat → Option AFn
  | 31 => some b_leadtrailmem_OwnEdges
  | _ => none
theorem tok_leadtraillaw13_AutoOwns : TableOk P fo t_leadtraillaw13_AutoOwns := by
  intro ix af h
  unfold t_leadtraillaw13_AutoOwns at h
  split at h
  · injection h with h; subst h; exact fn_leadtrailmem_OwnEdges
  · cases h
theorem p_leadtraillaw13_AutoOwns : PureFn P 5 (pureF t_leadtraillaw13_AutoOwns b_leadtraillaw13_AutoOwns) := pureF_ok tok_leadtraillaw13_AutoOwns fn_leadtraillaw13_AutoOwns

/-- leadtrail/auto.Step$1 -/
def b_auto_Step_1 : AFn := ⟨2, [.tmp 3],
    (.seq (.region [⟨(some 2), .boxR 3 (.t 0), none, false⟩,
       ⟨(some 3), .move (.c (.bool false)), none, false⟩])
     (.seq (.region [⟨(some 4), .faddr 0 (.t 2), none, true⟩,
       ⟨(some 5), .load false 1 (.t 4), none, true⟩,
       ⟨(some 6), .load false 1 (.t 1), none, false⟩,
       ⟨(some 7), .conv .i64 (.t 6), none, false⟩,
       ⟨(some 8), .bin .leq (.t 5) (.t 7), none, false⟩,
       ⟨(some 9), .move (.t 8), none, false⟩,
       ⟨(some 10), .load false 1 (.t 1), (some (9, true)), false⟩,
       ⟨(some 11), .conv .i64 (.t 10), (some (9, true)), false⟩,
       ⟨(some 12), .faddr 1 (.t 2), (some (9, true)), true⟩,
       ⟨(some 13), .load false 1 (.t 12), (some (9, true)), true⟩,
       ⟨(some 14), .bin .leq (.t 11) (.t 13), (some (9, true)), false⟩,
       ⟨(some 15), .pick (.t 9) (.t 14) (.c (.bool false)), none, false⟩,
       ⟨(some 3), .move (.t 15), none, false⟩])
     (.ret)))⟩
theorem ok_auto_Step_1 : okFunc Go.Proofs.Try.prog fo Go.Proofs.Try.f47 b_auto_Step_1 = true := by kernel_rfl
theorem du_auto_Step_1 : dutiesF Go.Proofs.Try.f47 b_auto_Step_1 = [] := by kernel_rfl
theorem fn_auto_Step_1 : FnOk P fo 47 b_auto_Step_1 := ⟨_, Go.Proofs.Try.func47, ok_auto_Step_1, by rw [du_auto_Step_1]; exact fun _ h => by cases h⟩

def b_slices_IndexFunc_api_Edge_api_Edge_l0 : ACode :=
    (.seq (.region [⟨(some 9), .bin .lss (.t 8) (.t 7), none, false⟩])
     (.seq (.cond (.t 9) (.skip) (.exit 0))
     (.seq (.block 1 (.seq (.region [⟨(some 10), .move (.t 8), none, false⟩,
        ⟨(some 5), .move (.t 10), none, false⟩])
      (.seq (.region [⟨(some 11), .move (.t 1), none, false⟩,
        ⟨(some 12), .move (.t 0), none, false⟩,
        ⟨(some 13), .move (.t 5), none, false⟩,
        ⟨(some 14), .iaddr 3 (.t 12) (.t 13), none, false⟩,
        ⟨(some 15), .load true 3 (.t 14), none, false⟩,
        ⟨(some 16), .callV (.t 11) [(.t 15)], none, false⟩])
      (.cond (.t 16) (.seq (.region [⟨(some 17), .move (.t 5), none, false⟩,
         ⟨(some 4), .move (.t 17), none, false⟩])
       (.ret)) (.skip)))))
     (.region [⟨(some 18), .bin .add (.t 8) (.c (.int .i64 1)), none, false⟩,
       ⟨(some 8), .move (.t 18), none, false⟩]))))
/-- slices.IndexFunc[[]leadtrail/api.Edge,leadtrail/api.Edge] -/
def b_slices_IndexFunc_api_Edge_api_Edge : AFn := ⟨2, [.tmp 4],
    (.seq (.region [⟨(some 4), .move (.c (.int .i64 0)), none, false⟩])
     (.seq (.seq (.region [⟨(some 6), .move (.t 0), none, false⟩,
       ⟨(some 7), .len 0 (.t 6), none, false⟩,
       ⟨(some 8), .move (.c (.int .i64 0)), none, false⟩])
     (.block 0 (.loop [0, 1, 7, 8] b_slices_IndexFunc_api_Edge_api_Edge_l0)))
     (.seq (.region [⟨(some 4), .move (.c (.int .i64 (-1))), none, false⟩])
     (.ret))))⟩
theorem ok_slices_IndexFunc_api_Edge_api_Edge : okFunc Go.Proofs.Try.prog fo Go.Proofs.Try.f46 b_slices_IndexFunc_api_Edge_api_Edge = true := by kernel_rfl
theorem du_slices_IndexFunc_api_Edge_api_Edge : dutiesF Go.Proofs.Try.f46 b_slices_IndexFunc_api_Edge_api_Edge = [] := by kernel_rfl
theorem fn_slices_IndexFunc_api_Edge_api_Edge : FnOk P fo 46 b_slices_IndexFunc_api_Edge_api_Edge := ⟨_, Go.Proofs.Try.func46, ok_slices_IndexFunc_api_Edge_api_Edge, by rw [du_slices_IndexFunc_api_Edge_api_Edge]; exact fun _ h => by cases h⟩

/-- leadtrail/auto.Step -/
def b_auto_Step : AFn := ⟨3, [.tmp 6, .tmp 7],
    (.seq (.region [⟨(some 3), .boxR 1 (.t 0), none, false⟩,
       ⟨(some 5), .box 1 (.t 2), none, false⟩,
       ⟨(some 6), .move (.c (.int .i64 0)), none, false⟩,
       ⟨(some 7), .move (.c (.bool false)), none, false⟩])
     (.seq (.seq (.region [⟨(some 10), .move (.t 1), none, false⟩,
       ⟨(some 11), .bin .lss (.t 10) (.c (.int .i64 0)), none, false⟩,
       ⟨(some 12), .move (.t 11), none, false⟩,
       ⟨(some 13), .move (.t 1), (some (12, false)), false⟩,
       ⟨(some 14), .faddr 0 (.t 3), (some (12, false)), true⟩,
       ⟨(some 15), .load false 1 (.t 14), (some (12, false)), true⟩,
       ⟨(some 16), .len 0 (.t 15), (some (12, false)), false⟩,
       ⟨(some 17), .bin .geq (.t 13) (.t 16), (some (12, false)), false⟩,
       ⟨(some 18), .pick (.t 12) (.c (.bool true)) (.t 17), none, false⟩])
     (.cond (.t 18) (.seq (.region [⟨(some 6), .move (.c (.int .i64 0)), none, false⟩,
        ⟨(some 7), .move (.c (.bool false)), none, false⟩])
      (.ret)) (.skip)))
     (.seq (.region [⟨(some 19), .faddr 0 (.t 3), none, true⟩,
       ⟨(some 20), .load false 1 (.t 19), none, true⟩,
       ⟨(some 21), .move (.t 1), none, false⟩,
       ⟨(some 22), .iaddr 1 (.t 20) (.t 21), none, false⟩,
       ⟨(some 23), .load false 1 (.t 22), none, false⟩,
       ⟨(some 8), .move (.t 23), none, false⟩])
     (.seq (.region [⟨(some 24), .move (.t 8), none, false⟩,
       ⟨(some 25), .mkfn 32 [(.t 5)], none, false⟩,
       ⟨(some 26), .callI 33 [(.t 24), (.t 25)], none, false⟩,
       ⟨(some 9), .move (.t 26), none, false⟩])
     (.seq (.seq (.region [⟨(some 27), .move (.t 9), none, false⟩,
       ⟨(some 28), .bin .lss (.t 27) (.c (.int .i64 0)), none, false⟩])
     (.cond (.t 28) (.seq (.region [⟨(some 6), .move (.c (.int .i64 0)), none, false⟩,
        ⟨(some 7), .move (.c (.bool false)), none, false⟩])
      (.ret)) (.skip)))
     (.seq (.region [⟨(some 29), .move (.t 8), none, false⟩,
       ⟨(some 30), .move (.t 9), none, false⟩,
       ⟨(some 31), .iaddr 3 (.t 29) (.t 30), none, false⟩,
       ⟨(some 32), .faddr 2 (.t 31), none, false⟩,
       ⟨(some 33), .load false 1 (.t 32), none, false⟩,
       ⟨(some 6), .move (.t 33), none, false⟩,
       ⟨(some 7), .move (.c (.bool true)), none, false⟩])
     (.ret)))))))⟩
theorem ok_auto_Step : okFunc Go.Proofs.Try.prog fo Go.Proofs.Try.f24 b_auto_Step = true := by kernel_rfl
theorem du_auto_Step : dutiesF Go.Proofs.Try.f24 b_auto_Step = [] := by kernel_rfl
theorem fn_auto_Step : FnOk P fo 24 b_auto_Step := ⟨_, Go.Proofs.Try.func24, ok_auto_Step, by rw [du_auto_Step]; exact fun _ h => by cases h⟩
def t_auto_Step : Nat → Option AFn
  | 32 => some b_auto_Step_1
  | 33 => some b_slices_IndexFunc_api_Edge_api_Edge
  | _ => none
theorem tok_auto_Step : TableOk P fo t_auto_Step := by
  intro ix af h
  unfold t_auto_Step at h
  split at h
  · injection h with h; subst h; exact fn_auto_Step_1
  · injection h with h; subst h; exact fn_slices_IndexFunc_api_Edge_api_Edge
  · cases h
def F_auto_Step : List PV → Option PV := pureF t_auto_Step b_auto_Step
theorem p_auto_Step : PureFn P 24 F_auto_Step := pureF_ok tok_auto_Step fn_auto_Step

def b_auto_Match_l0 : ACode :=
    (.seq (.region [⟨(some 14), .bin .lss (.t 13) (.t 12), none, false⟩])
     (.seq (.cond (.t 14) (.skip) (.exit 0))
     (.seq (.block 1 (.seq (.region [⟨(some 15), .move (.t 13), none, false⟩,
        ⟨(some 16), .iaddr 1 (.t 11) (.t 13), none, false⟩,
        ⟨(some 17), .load false 1 (.t 16), none, false⟩,
        ⟨(some 7), .move (.t 15), none, false⟩,
        ⟨(some 8), .move (.t 17), none, false⟩])
      (.seq (.region [⟨(some 19), .load true 1 (.t 2), none, true⟩,
        ⟨(some 20), .move (.t 6), none, false⟩,
        ⟨(some 21), .move (.t 8), none, false⟩,
        ⟨(some 22), .callP F_auto_Step [(.t 19), (.t 20), (.t 21)], none, false⟩,
        ⟨(some 18), .move (.t 22), none, false⟩,
        ⟨(some 23), .ext 0 (.t 18), none, false⟩,
        ⟨(some 24), .ext 1 (.t 18), none, false⟩,
        ⟨(some 9), .move (.t 23), none, false⟩,
        ⟨(some 10), .move (.t 24), none, false⟩])
      (.seq (.block 2 (.seq (.region [⟨(some 26), .move (.t 10), none, false⟩,
         ⟨(some 27), .un .not (.t 26), none, false⟩,
         ⟨(some 25), .move (.t 27), none, false⟩])
       (.cond (.t 25) (.seq (.region [⟨(some 28), .move (.t 7), none, false⟩,
          ⟨(some 4), .move (.t 28), none, false⟩,
          ⟨(some 5), .move (.c (.int .i64 3)), none, false⟩])
        (.ret)) (.seq (.region [⟨(some 30), .move (.t 9), none, false⟩,
          ⟨(some 31), .bin .eql (.t 30) (.c (.int .i64 (-1))), none, false⟩,
          ⟨(some 29), .move (.t 31), none, false⟩])
        (.cond (.t 29) (.seq (.region [⟨(some 32), .move (.t 7), none, false⟩,
           ⟨(some 33), .bin .add (.t 32) (.c (.int .i64 1)), none, false⟩,
           ⟨(some 4), .move (.t 33), none, false⟩,
           ⟨(some 5), .move (.c (.int .i64 1)), none, false⟩])
         (.ret)) (.skip))))))
      (.region [⟨(some 34), .move (.t 9), none, false⟩,
        ⟨(some 6), .move (.t 34), none, false⟩])))))
     (.region [⟨(some 35), .bin .add (.t 13) (.c (.int .i64 1)), none, false⟩,
       ⟨(some 13), .move (.t 35), none, false⟩]))))
/-- leadtrail/auto.Match -/
def b_auto_Match : AFn := ⟨2, [.tmp 4, .tmp 5],
    (.seq (.region [⟨(some 2), .boxR 1 (.t 0), none, false⟩,
       ⟨(some 4), .move (.c (.int .i64 0)), none, false⟩,
       ⟨(some 5), .move (.c (.int .i64 0)), none, false⟩])
     (.seq (.region [⟨(some 6), .move (.c (.int .i64 0)), none, false⟩])
     (.seq (.seq (.region [⟨(some 11), .move (.t 1), none, false⟩,
       ⟨(some 12), .len 0 (.t 11), none, false⟩,
       ⟨(some 13), .move (.c (.int .i64 0)), none, false⟩])
     (.block 0 (.loop [1, 2, 6, 11, 12, 13] b_auto_Match_l0)))
     (.seq (.region [⟨(some 36), .move (.t 1), none, false⟩,
       ⟨(some 37), .len 0 (.t 36), none, false⟩,
       ⟨(some 4), .move (.t 37), none, false⟩,
       ⟨(some 5), .move (.c (.int .i64 2)), none, false⟩])
     (.ret)))))⟩
theorem ok_auto_Match : okFunc Go.Proofs.Try.prog fo Go.Proofs.Try.f21 b_auto_Match = true := by kernel_rfl
theorem du_auto_Match : dutiesF Go.Proofs.Try.f21 b_auto_Match = [(24, F_auto_Step)] := by kernel_rfl
theorem fn_auto_Match : FnOk P fo 21 b_auto_Match := ⟨_, Go.Proofs.Try.func21, ok_auto_Match, by rw [du_auto_Match]; exact List.forall_mem_cons.2 ⟨p_auto_Step, fun _ h => by cases h⟩⟩
def F_auto_Match : List PV → Option PV := pureF (fun _ => none) b_auto_Match
theorem p_auto_Match : PureFn P 21 F_auto_Match := pureF_ok noTable fn_auto_Match

/-- leadtrail/leadtraillaw13.AutoNames -/
def b_leadtraillaw13_AutoNames : AFn := ⟨0, [.tmp 0],
    (.seq (.region [⟨(some 0), .move (.c (.bool false)), none, false⟩])
     (.seq (.region [⟨(some 10), .callP F_leadtraillaw13_some [], none, false⟩,
       ⟨(some 11), .callP F_auto_Build [(.t 10)], none, false⟩,
       ⟨(some 9), .move (.t 11), none, false⟩,
       ⟨(some 12), .ext 0 (.t 9), none, false⟩,
       ⟨(some 13), .ext 1 (.t 9), none, false⟩,
       ⟨(some 1), .alloc [.nils], none, false⟩,
       ⟨none, .store 1 (.t 1) (.t 12), none, false⟩,
       ⟨(some 2), .move (.t 13), none, false⟩])
     (.seq (.region [⟨(some 15), .load true 1 (.t 1), none, false⟩,
       ⟨(some 16), .bslice .uq 1 false 3 [(.int .u8 0)] [(0, (.c (.int .u8 224))), (1, (.c (.int .u8 160))), (2, (.c (.int .u8 65)))], none, false⟩,
       ⟨(some 17), .s2s (.t 16), none, false⟩,
       ⟨(some 18), .callP F_auto_Match [(.t 15), (.t 17)], none, false⟩,
       ⟨(some 14), .move (.t 18), none, false⟩,
       ⟨(some 19), .ext 0 (.t 14), none, false⟩,
       ⟨(some 20), .ext 1 (.t 14), none, false⟩,
       ⟨(some 3), .move (.t 19), none, false⟩,
       ⟨(some 4), .move (.t 20), none, false⟩])
     (.seq (.region [⟨(some 22), .load true 1 (.t 1), none, false⟩,
       ⟨(some 23), .bslice .uq 1 false 3 [(.int .u8 0)] [(0, (.c (.int .u8 195))), (1, (.c (.int .u8 169))), (2, (.c (.int .u8 169)))], none, false⟩,
       ⟨(some 24), .s2s (.t 23), none, false⟩,
       ⟨(some 25), .callP F_auto_Match [(.t 22), (.t 24)], none, false⟩,
       ⟨(some 21), .move (.t 25), none, false⟩,
       ⟨(some 26), .ext 0 (.t 21), none, false⟩,
       ⟨(some 27), .ext 1 (.t 21), none, false⟩,
       ⟨(some 5), .move (.t 26), none, false⟩,
       ⟨(some 6), .move (.t 27), none, false⟩])
     (.seq (.region [⟨(some 29), .load true 1 (.t 1), none, false⟩,
       ⟨(some 30), .bslice .uq 1 false 1 [(.int .u8 0)] [(0, (.c (.int .u8 224)))], none, false⟩,
       ⟨(some 31), .s2s (.t 30), none, false⟩,
       ⟨(some 32), .callP F_auto_Match [(.t 29), (.t 31)], none, false⟩,
       ⟨(some 28), .move (.t 32), none, false⟩,
       ⟨(some 33), .ext 0 (.t 28), none, false⟩,
       ⟨(some 34), .ext 1 (.t 28), none, false⟩,
       ⟨(some 7), .move (.t 33), none, false⟩,
       ⟨(some 8), .move (.t 34), none, false⟩])
     (.seq (.region [⟨(some 35), .callP F_leadtraillaw13_fixed [], none, false⟩,
       ⟨(some 36), .move (.t 35), none, false⟩,
       ⟨(some 37), .pick (.t 36) (.c (.bool true)) (.c (.bool false)), none, false⟩,
       ⟨(some 38), .move (.t 37), none, false⟩,
       ⟨(some 39), .pick (.t 38) (.c (.bool true)) (.c (.bool false)), none, false⟩,
       ⟨(some 40), .move (.t 39), none, false⟩,
       ⟨(some 41), .pick (.t 40) (.c (.bool true)) (.c (.bool false)), none, false⟩,
       ⟨(some 42), .move (.t 41), none, false⟩,
       ⟨(some 43), .pick (.t 42) (.c (.bool true)) (.c (.bool false)), none, false⟩,
       ⟨(some 44), .move (.t 43), none, false⟩,
       ⟨(some 45), .move (.t 3), (some (44, true)), false⟩,
       ⟨(some 46), .bin .eql (.t 45) (.c (.int .i64 2)), (some (44, true)), false⟩,
       ⟨(some 47), .pick (.t 44) (.t 46) (.c (.bool false)), none, false⟩,
       ⟨(some 48), .move (.t 47), none, false⟩,
       ⟨(some 49), .move (.t 4), (some (48, true)), false⟩,
       ⟨(some 50), .bin .eql (.t 49) (.c (.int .i64 3)), (some (48, true)), false⟩,
       ⟨(some 51), .pick (.t 48) (.t 50) (.c (.bool false)), none, false⟩,
       ⟨(some 52), .move (.t 51), none, false⟩,
       ⟨(some 53), .move (.t 5), (some (52, true)), false⟩,
       ⟨(some 54), .bin .eql (.t 53) (.c (.int .i64 2)), (some (52, true)), false⟩,
       ⟨(some 55), .pick (.t 52) (.t 54) (.c (.bool false)), none, false⟩,
       ⟨(some 56), .move (.t 55), none, false⟩,
       ⟨(some 57), .move (.t 6), (some (56, true)), false⟩,
       ⟨(some 58), .bin .eql (.t 57) (.c (.int .i64 1)), (some (56, true)), false⟩,
       ⟨(some 59), .pick (.t 56) (.t 58) (.c (.bool false)), none, false⟩,
       ⟨(some 60), .move (.t 59), none, false⟩,
       ⟨(some 61), .move (.t 7), (some (60, true)), false⟩,
       ⟨(some 62), .bin .eql (.t 61) (.c (.int .i64 1)), (some (60, true)), false⟩,
       ⟨(some 63), .pick (.t 60) (.t 62) (.c (.bool false)), none, false⟩,
       ⟨(some 64), .move (.t 63), none, false⟩,
       ⟨(some 65), .move (.t 8), (some (64, true)), false⟩,
       ⟨(some 66), .bin .eql (.t 65) (.c (.int .i64 2)), (some (64, true)), false⟩,
       ⟨(some 67), .pick (.t 64) (.t 66) (.c (.bool false)), none, false⟩,
       ⟨(some 0), .move (.t 67), none, false⟩])
     (.ret)))))))⟩
theorem ok_leadtraillaw13_AutoNames : okFunc Go.Proofs.Try.prog fo Go.Proofs.Try.f6 b_leadtraillaw13_AutoNames = true := by kernel_rfl
theorem du_leadtraillaw13_AutoNames : dutiesF Go.Proofs.Try.f6 b_leadtraillaw13_AutoNames = [(20, F_leadtraillaw13_some), (14, F_auto_Build), (21, F_auto_Match), (21, F_auto_Match), (21, F_auto_Match), (12, F_leadtraillaw13_fixed)] := by kernel_rfl
theorem fn_leadtraillaw13_AutoNames : FnOk P fo 6 b_leadtraillaw13_AutoNames := ⟨_, Go.Proofs.Try.func6, ok_leadtraillaw13_AutoNames, by rw [du_leadtraillaw13_AutoNames]; exact List.forall_mem_cons.2 ⟨p_leadtraillaw13_some, List.forall_mem_cons.2 ⟨p_auto_Build, List.forall_mem_cons.2 ⟨p_auto_Match, List.forall_mem_cons.2 ⟨p_auto_Match, List.forall_mem_cons.2 ⟨p_auto_Match, List.forall_mem_cons.2 ⟨p_leadtraillaw13_fixed, fun _ h => by cases h⟩⟩⟩⟩⟩⟩⟩
theorem p_leadtraillaw13_AutoNames : PureFn P 6 (pureF (fun _ => none) b_leadtraillaw13_AutoNames) := pureF_ok noTable fn_leadtraillaw13_AutoNames

def b_leadtrailref13_Copy_l0 : ACode :=
    (.seq (.seq (.region [⟨(some 6), .move (.t 4), none, false⟩,
       ⟨(some 7), .faddr 0 (.t 1), none, true⟩,
       ⟨(some 8), .load false 1 (.t 7), none, true⟩,
       ⟨(some 9), .len 0 (.t 8), none, false⟩,
       ⟨(some 10), .bin .lss (.t 6) (.t 9), none, false⟩])
     (.cond (.t 10) (.skip) (.exit 0)))
     (.seq (.block 1 (.region [⟨(some 13), .faddr 0 (.t 3), none, false⟩,
        ⟨(some 14), .load false 1 (.t 13), none, false⟩,
        ⟨(some 15), .bslice .uq 3 true 0 [(.int .i64 0), (.int .i64 0), (.int .i64 0)] [], none, false⟩,
        ⟨(some 16), .faddr 0 (.t 1), none, true⟩,
        ⟨(some 17), .load false 1 (.t 16), none, true⟩,
        ⟨(some 18), .move (.t 4), none, false⟩,
        ⟨(some 19), .iaddr 1 (.t 17) (.t 18), none, true⟩,
        ⟨(some 20), .load false 1 (.t 19), none, true⟩,
        ⟨(some 21), .append false .uq 3 true 24 (.t 15) (.t 20), none, false⟩,
        ⟨(some 22), .bslice .lit 1 false 1 [.nils] [(0, (.t 21))], none, false⟩,
        ⟨(some 23), .append false .uq 1 false 24 (.t 14) (.t 22), none, false⟩,
        ⟨(some 24), .faddr 0 (.t 3), none, false⟩,
        ⟨none, .store 1 (.t 24) (.t 23), none, false⟩]))
     (.region [⟨(some 11), .move (.t 4), none, false⟩,
       ⟨(some 12), .bin .add (.t 11) (.c (.int .i64 1)), none, false⟩,
       ⟨(some 4), .move (.t 12), none, false⟩])))
/-- leadtrail/leadtrailref13.Copy -/
def b_leadtrailref13_Copy : AFn := ⟨1, [.cell 2 true 1],
    (.seq (.region [⟨(some 1), .boxR 1 (.t 0), none, false⟩,
       ⟨(some 2), .alloc [.nils], none, false⟩])
     (.seq (.region [⟨(some 5), .build [.nils] [], none, false⟩,
       ⟨(some 3), .alloc [.nils], none, false⟩,
       ⟨none, .store 1 (.t 3) (.t 5), none, false⟩])
     (.ghost (.mkuqC 3 0 1) (.seq (.seq (.region [⟨(some 4), .move (.c (.int .i64 0)), none, false⟩])
     (.block 0 (.loop [1, 2, 3, 4] b_leadtrailref13_Copy_l0)))
     (.seq (.region [⟨(some 25), .load true 1 (.t 3), none, false⟩,
       ⟨none, .store 1 (.t 2) (.t 25), none, false⟩])
     (.ret))))))⟩
theorem ok_leadtrailref13_Copy : okFunc Go.Proofs.Try.prog fo Go.Proofs.Try.f22 b_leadtrailref13_Copy = true := by kernel_rfl
theorem du_leadtrailref13_Copy : dutiesF Go.Proofs.Try.f22 b_leadtrailref13_Copy = [] := by kernel_rfl
theorem fn_leadtrailref13_Copy : FnOk P fo 22 b_leadtrailref13_Copy := ⟨_, Go.Proofs.Try.func22, ok_leadtrailref13_Copy, by rw [du_leadtrailref13_Copy]; exact fun _ h => by cases h⟩
def F_leadtrailref13_Copy : List PV → Option PV := pureF (fun _ => none) b_leadtrailref13_Copy
theorem p_leadtrailref13_Copy : PureFn P 22 F_leadtrailref13_Copy := pureF_ok noTable fn_leadtrailref13_Copy

def b_leadtrailref13_Step_l0 : ACode :=
    (.seq (.seq (.region [⟨(some 19), .move (.t 8), none, false⟩,
       ⟨(some 20), .faddr 0 (.t 3), none, true⟩,
       ⟨(some 21), .load false 1 (.t 20), none, true⟩,
       ⟨(some 22), .move (.t 1), none, false⟩,
       ⟨(some 23), .iaddr 1 (.t 21) (.t 22), none, false⟩,
       ⟨(some 24), .load false 1 (.t 23), none, false⟩,
       ⟨(some 25), .len 0 (.t 24), none, false⟩,
       ⟨(some 26), .bin .lss (.t 19) (.t 25), none, false⟩])
     (.cond (.t 26) (.skip) (.exit 0)))
     (.seq (.block 1 (.seq (.region [⟨(some 29), .faddr 0 (.t 3), none, true⟩,
        ⟨(some 30), .load false 1 (.t 29), none, true⟩,
        ⟨(some 31), .move (.t 1), none, false⟩,
        ⟨(some 32), .iaddr 1 (.t 30) (.t 31), none, false⟩,
        ⟨(some 33), .load false 1 (.t 32), none, false⟩,
        ⟨(some 34), .move (.t 8), none, false⟩,
        ⟨(some 35), .iaddr 3 (.t 33) (.t 34), none, false⟩,
        ⟨(some 36), .load true 3 (.t 35), none, false⟩,
        ⟨(some 9), .alloc [(.int .i64 0), (.int .i64 0), (.int .i64 0)], none, false⟩,
        ⟨none, .store 3 (.t 9) (.t 36), none, false⟩])
      (.seq (.region [⟨(some 37), .move (.t 2), none, false⟩,
        ⟨(some 38), .conv .i64 (.t 37), none, false⟩,
        ⟨(some 39), .faddr 0 (.t 9), none, false⟩,
        ⟨(some 40), .load false 1 (.t 39), none, false⟩,
        ⟨(some 41), .bin .geq (.t 38) (.t 40), none, false⟩,
        ⟨(some 42), .move (.t 41), none, false⟩,
        ⟨(some 43), .move (.t 2), (some (42, true)), false⟩,
        ⟨(some 44), .conv .i64 (.t 43), (some (42, true)), false⟩,
        ⟨(some 45), .faddr 1 (.t 9), (some (42, true)), false⟩,
        ⟨(some 46), .load false 1 (.t 45), (some (42, true)), false⟩,
        ⟨(some 47), .bin .leq (.t 44) (.t 46), (some (42, true)), false⟩,
        ⟨(some 48), .pick (.t 42) (.t 47) (.c (.bool false)), none, false⟩])
      (.cond (.t 48) (.seq (.region [⟨(some 49), .faddr 2 (.t 9), none, false⟩,
         ⟨(some 50), .load false 1 (.t 49), none, false⟩,
         ⟨(some 6), .move (.t 50), none, false⟩,
         ⟨(some 7), .move (.c (.bool true)), none, false⟩])
       (.ret)) (.skip)))))
     (.region [⟨(some 27), .move (.t 8), none, false⟩,
       ⟨(some 28), .bin .add (.t 27) (.c (.int .i64 1)), none, false⟩,
       ⟨(some 8), .move (.t 28), none, false⟩])))
/-- leadtrail/leadtrailref13.Step -/
def b_leadtrailref13_Step : AFn := ⟨3, [.tmp 6, .tmp 7],
    (.seq (.region [⟨(some 3), .boxR 1 (.t 0), none, false⟩,
       ⟨(some 6), .move (.c (.int .i64 0)), none, false⟩,
       ⟨(some 7), .move (.c (.bool false)), none, false⟩])
     (.seq (.seq (.region [⟨(some 10), .move (.t 1), none, false⟩,
       ⟨(some 11), .bin .lss (.t 10) (.c (.int .i64 0)), none, false⟩,
       ⟨(some 12), .move (.t 11), none, false⟩,
       ⟨(some 13), .move (.t 1), (some (12, false)), false⟩,
       ⟨(some 14), .faddr 0 (.t 3), (some (12, false)), true⟩,
       ⟨(some 15), .load false 1 (.t 14), (some (12, false)), true⟩,
       ⟨(some 16), .len 0 (.t 15), (some (12, false)), false⟩,
       ⟨(some 17), .bin .geq (.t 13) (.t 16), (some (12, false)), false⟩,
       ⟨(some 18), .pick (.t 12) (.c (.bool true)) (.t 17), none, false⟩])
     (.cond (.t 18) (.seq (.region [⟨(some 6), .move (.c (.int .i64 0)), none, false⟩,
        ⟨(some 7), .move (.c (.bool false)), none, false⟩])
      (.ret)) (.skip)))
     (.seq (.seq (.region [⟨(some 8), .move (.c (.int .i64 0)), none, false⟩])
     (.block 0 (.loop [1, 2, 3, 8] b_leadtrailref13_Step_l0)))
     (.seq (.region [⟨(some 6), .move (.c (.int .i64 0)), none, false⟩,
       ⟨(some 7), .move (.c (.bool false)), none, false⟩])
     (.ret)))))⟩
theorem ok_leadtrailref13_Step : okFunc Go.Proofs.Try.prog fo Go.Proofs.Try.f25 b_leadtrailref13_Step = true := by kernel_rfl
theorem du_leadtrailref13_Step : dutiesF Go.Proofs.Try.f25 b_leadtrailref13_Step = [] := by kernel_rfl
theorem fn_leadtrailref13_Step : FnOk P fo 25 b_leadtrailref13_Step := ⟨_, Go.Proofs.Try.func25, ok_leadtrailref13_Step, by rw [du_leadtrailref13_Step]; exact fun _ h => by cases h⟩
def F_leadtrailref13_Step : List PV → Option PV := pureF (fun _ => none) b_leadtrailref13_Step
theorem p_leadtrailref13_Step : PureFn P 25 F_leadtrailref13_Step := pureF_ok noTable fn_leadtrailref13_Step

def b_leadtrailref13_Match_l0 : ACode :=
    (.seq (.seq (.region [⟨(some 10), .move (.t 7), none, false⟩,
       ⟨(some 11), .move (.t 1), none, false⟩,
       ⟨(some 12), .len 0 (.t 11), none, false⟩,
       ⟨(some 13), .bin .lss (.t 10) (.t 12), none, false⟩])
     (.cond (.t 13) (.skip) (.exit 0)))
     (.seq (.block 1 (.seq (.region [⟨(some 17), .load true 1 (.t 2), none, true⟩,
        ⟨(some 18), .move (.t 6), none, false⟩,
        ⟨(some 19), .move (.t 1), none, false⟩,
        ⟨(some 20), .move (.t 7), none, false⟩,
        ⟨(some 21), .iaddr 1 (.t 19) (.t 20), none, true⟩,
        ⟨(some 22), .load false 1 (.t 21), none, true⟩,
        ⟨(some 23), .callP F_leadtrailref13_Step [(.t 17), (.t 18), (.t 22)], none, false⟩,
        ⟨(some 16), .move (.t 23), none, false⟩,
        ⟨(some 24), .ext 0 (.t 16), none, false⟩,
        ⟨(some 25), .ext 1 (.t 16), none, false⟩,
        ⟨(some 8), .move (.t 24), none, false⟩,
        ⟨(some 9), .move (.t 25), none, false⟩])
      (.seq (.seq (.region [⟨(some 26), .move (.t 9), none, false⟩,
        ⟨(some 27), .un .not (.t 26), none, false⟩])
      (.cond (.t 27) (.seq (.region [⟨(some 28), .move (.t 7), none, false⟩,
         ⟨(some 4), .move (.t 28), none, false⟩,
         ⟨(some 5), .move (.c (.int .i64 3)), none, false⟩])
       (.ret)) (.skip)))
      (.seq (.seq (.region [⟨(some 29), .move (.t 8), none, false⟩,
        ⟨(some 30), .bin .eql (.t 29) (.c (.int .i64 (-1))), none, false⟩])
      (.cond (.t 30) (.seq (.region [⟨(some 31), .move (.t 7), none, false⟩,
         ⟨(some 32), .bin .add (.t 31) (.c (.int .i64 1)), none, false⟩,
         ⟨(some 4), .move (.t 32), none, false⟩,
         ⟨(some 5), .move (.c (.int .i64 1)), none, false⟩])
       (.ret)) (.skip)))
      (.region [⟨(some 33), .move (.t 8), none, false⟩,
        ⟨(some 6), .move (.t 33), none, false⟩])))))
     (.region [⟨(some 14), .move (.t 7), none, false⟩,
       ⟨(some 15), .bin .add (.t 14) (.c (.int .i64 1)), none, false⟩,
       ⟨(some 7), .move (.t 15), none, false⟩])))
/-- leadtrail/leadtrailref13.Match -/
def b_leadtrailref13_Match : AFn := ⟨2, [.tmp 4, .tmp 5],
    (.seq (.region [⟨(some 2), .boxR 1 (.t 0), none, false⟩,
       ⟨(some 4), .move (.c (.int .i64 0)), none, false⟩,
       ⟨(some 5), .move (.c (.int .i64 0)), none, false⟩])
     (.seq (.region [⟨(some 6), .move (.c (.int .i64 0)), none, false⟩])
     (.seq (.seq (.region [⟨(some 7), .move (.c (.int .i64 0)), none, false⟩])
     (.block 0 (.loop [1, 2, 6, 7] b_leadtrailref13_Match_l0)))
     (.seq (.region [⟨(some 34), .move (.t 1), none, false⟩,
       ⟨(some 35), .len 0 (.t 34), none, false⟩,
       ⟨(some 4), .move (.t 35), none, false⟩,
       ⟨(some 5), .move (.c (.int .i64 2)), none, false⟩])
     (.ret)))))⟩
theorem ok_leadtrailref13_Match : okFunc Go.Proofs.Try.prog fo Go.Proofs.Try.f23 b_leadtrailref13_Match = true := by kernel_rfl
theorem du_leadtrailref13_Match : dutiesF Go.Proofs.Try.f23 b_leadtrailref13_Match = [(25, F_leadtrailref13_Step)] := by kernel_rfl
theorem fn_leadtrailref13_Match : FnOk P fo 23 b_leadtrailref13_Match := ⟨_, Go.Proofs.Try.func23, ok_leadtrailref13_Match, by rw [du_leadtrailref13_Match]; exact List.forall_mem_cons.2 ⟨p_leadtrailref13_Step, fun _ h => by cases h⟩⟩
def F_leadtrailref13_Match : List PV → Option PV := pureF (fun _ => none) b_leadtrailref13_Match
theorem p_leadtrailref13_Match : PureFn P 23 F_leadtrailref13_Match := pureF_ok noTable fn_leadtrailref13_Match

end Go.AM.B1

/- The abstract code of the functions that the rows Auto* reach, part 7, printed by gen_b1.py: it is that of the program, and each is what its code computes. -/
set_option linter.unusedVariables false
namespace Go.AM.B1
open Go.AM

def b_leadtraillaw13_AutoRuns_l0 : ACode :=
    (.seq (.region [⟨(some 47), .bin .lss (.t 46) (.t 45), none, false⟩])
     (.seq (.cond (.t 47) (.skip) (.exit 0))
     (.seq (.block 1 (.seq (.region [⟨(some 48), .move (.t 46), none, false⟩,
        ⟨(some 49), .iaddr 1 (.t 44) (.t 46), none, false⟩,
        ⟨(some 50), .load false 1 (.t 49), none, false⟩,
        ⟨(some 12), .move (.t 48), none, false⟩,
        ⟨(some 13), .move (.t 50), none, false⟩])
      (.seq (.seq (.region [⟨(some 51), .move (.t 12), none, false⟩,
        ⟨(some 52), .bin .gtr (.t 51) (.c (.int .i64 50)), none, false⟩])
      (.cond (.t 52) (.exit 0) (.skip)))
      (.seq (.region [⟨(some 54), .load true 1 (.t 7), none, false⟩,
        ⟨(some 55), .move (.t 1), none, false⟩,
        ⟨(some 56), .move (.t 13), none, false⟩,
        ⟨(some 57), .callP F_auto_Step [(.t 54), (.t 55), (.t 56)], none, false⟩,
        ⟨(some 53), .move (.t 57), none, false⟩,
        ⟨(some 58), .ext 0 (.t 53), none, false⟩,
        ⟨(some 59), .ext 1 (.t 53), none, false⟩,
        ⟨(some 14), .move (.t 58), none, false⟩,
        ⟨(some 15), .move (.t 59), none, false⟩])
      (.seq (.region [⟨(some 61), .load true 1 (.t 3), none, true⟩,
        ⟨(some 62), .move (.t 1), none, false⟩,
        ⟨(some 63), .move (.t 13), none, false⟩,
        ⟨(some 64), .callP F_leadtrailref13_Step [(.t 61), (.t 62), (.t 63)], none, false⟩,
        ⟨(some 60), .move (.t 64), none, false⟩,
        ⟨(some 65), .ext 0 (.t 60), none, false⟩,
        ⟨(some 66), .ext 1 (.t 60), none, false⟩,
        ⟨(some 16), .move (.t 65), none, false⟩,
        ⟨(some 17), .move (.t 66), none, false⟩])
      (.seq (.region [⟨(some 67), .move (.t 14), none, false⟩,
        ⟨(some 68), .move (.t 16), none, false⟩,
        ⟨(some 69), .bin .neq (.t 67) (.t 68), none, false⟩,
        ⟨(some 70), .move (.t 69), none, false⟩,
        ⟨(some 71), .move (.t 15), (some (70, false)), false⟩,
        ⟨(some 72), .move (.t 17), (some (70, false)), false⟩,
        ⟨(some 73), .eq 0 true (.t 71) (.t 72), (some (70, false)), false⟩,
        ⟨(some 74), .pick (.t 70) (.c (.bool true)) (.t 73), none, false⟩])
      (.cond (.t 74) (.seq (.region [⟨(some 6), .move (.c (.bool false)), none, false⟩])
       (.ret)) (.skip))))))))
     (.region [⟨(some 75), .bin .add (.t 46) (.c (.int .i64 1)), none, false⟩,
       ⟨(some 46), .move (.t 75), none, false⟩]))))
/-- leadtrail/leadtraillaw13.AutoRuns -/
def b_leadtraillaw13_AutoRuns : AFn := ⟨3, [.tmp 6],
    (.seq (.region [⟨(some 3), .boxR 1 (.t 0), none, false⟩,
       ⟨(some 6), .move (.c (.bool false)), none, false⟩])
     (.seq (.seq (.region [⟨(some 18), .callP F_leadtraillaw13_fixed [], none, false⟩,
       ⟨(some 19), .un .not (.t 18), none, false⟩])
     (.cond (.t 19) (.seq (.region [⟨(some 6), .move (.c (.bool false)), none, false⟩])
      (.ret)) (.skip)))
     (.seq (.region [⟨(some 20), .load true 1 (.t 3), none, true⟩,
       ⟨(some 21), .callP F_leadtrailref13_Copy [(.t 20)], none, false⟩,
       ⟨(some 7), .alloc [.nils], none, false⟩,
       ⟨none, .store 1 (.t 7) (.t 21), none, false⟩])
     (.seq (.region [⟨(some 23), .load true 1 (.t 7), none, false⟩,
       ⟨(some 24), .bslice .uq 1 false 0 [(.int .u8 0)] [], none, false⟩,
       ⟨(some 25), .move (.t 2), none, false⟩,
       ⟨(some 26), .append false .uq 1 false 1 (.t 24) (.t 25), none, false⟩,
       ⟨(some 27), .callP F_auto_Match [(.t 23), (.t 26)], none, false⟩,
       ⟨(some 22), .move (.t 27), none, false⟩,
       ⟨(some 28), .ext 0 (.t 22), none, false⟩,
       ⟨(some 29), .ext 1 (.t 22), none, false⟩,
       ⟨(some 8), .move (.t 28), none, false⟩,
       ⟨(some 9), .move (.t 29), none, false⟩])
     (.seq (.region [⟨(some 31), .load true 1 (.t 3), none, true⟩,
       ⟨(some 32), .move (.t 2), none, false⟩,
       ⟨(some 33), .callP F_leadtrailref13_Match [(.t 31), (.t 32)], none, false⟩,
       ⟨(some 30), .move (.t 33), none, false⟩,
       ⟨(some 34), .ext 0 (.t 30), none, false⟩,
       ⟨(some 35), .ext 1 (.t 30), none, false⟩,
       ⟨(some 10), .move (.t 34), none, false⟩,
       ⟨(some 11), .move (.t 35), none, false⟩])
     (.seq (.seq (.region [⟨(some 36), .move (.t 8), none, false⟩,
       ⟨(some 37), .move (.t 10), none, false⟩,
       ⟨(some 38), .bin .neq (.t 36) (.t 37), none, false⟩,
       ⟨(some 39), .move (.t 38), none, false⟩,
       ⟨(some 40), .move (.t 9), (some (39, false)), false⟩,
       ⟨(some 41), .move (.t 11), (some (39, false)), false⟩,
       ⟨(some 42), .bin .neq (.t 40) (.t 41), (some (39, false)), false⟩,
       ⟨(some 43), .pick (.t 39) (.c (.bool true)) (.t 42), none, false⟩])
     (.cond (.t 43) (.seq (.region [⟨(some 6), .move (.c (.bool false)), none, false⟩])
      (.ret)) (.skip)))
     (.seq (.seq (.region [⟨(some 44), .move (.t 2), none, false⟩,
       ⟨(some 45), .len 0 (.t 44), none, false⟩,
       ⟨(some 46), .move (.c (.int .i64 0)), none, false⟩])
     (.block 0 (.loop [1, 3, 7, 44, 45, 46] b_leadtraillaw13_AutoRuns_l0)))
     (.seq (.region [⟨(some 76), .load true 1 (.t 7), none, false⟩,
       ⟨(some 77), .load true 1 (.t 3), none, true⟩,
       ⟨(some 78), .callP F_leadtrailref13_Same [(.t 76), (.t 77)], none, false⟩,
       ⟨(some 6), .move (.t 78), none, false⟩])
     (.ret)))))))))⟩
theorem ok_leadtraillaw13_AutoRuns : okFunc Go.Proofs.Try.prog fo Go.Proofs.Try.f7 b_leadtraillaw13_AutoRuns = true := by kernel_rfl
theorem du_leadtraillaw13_AutoRuns : dutiesF Go.Proofs.Try.f7 b_leadtraillaw13_AutoRuns = [(12, F_leadtraillaw13_fixed), (22, F_leadtrailref13_Copy), (21, F_auto_Match), (23, F_leadtrailref13_Match), (24, F_auto_Step), (25, F_leadtrailref13_Step), (16, F_leadtrailref13_Same)] := by kernel_rfl
theorem fn_leadtraillaw13_AutoRuns : FnOk P fo 7 b_leadtraillaw13_AutoRuns := ⟨_, Go.Proofs.Try.func7, ok_leadtraillaw13_AutoRuns, by rw [du_leadtraillaw13_AutoRuns]; exact List.forall_mem_cons.2 ⟨p_leadtraillaw13_fixed, List.forall_mem_cons.2 ⟨p_leadtrailref13_Copy, List.forall_mem_cons.2 ⟨p_auto_Match, List.forall_mem_cons.2 ⟨p_leadtrailref13_Match, List.forall_mem_cons.2 ⟨p_auto_Step, List.forall_mem_cons.2 ⟨p_leadtrailref13_Step, List.forall_mem_cons.2 ⟨p_leadtrailref13_Same, fun _ h => by cases h⟩⟩⟩⟩⟩⟩⟩⟩
theorem p_leadtraillaw13_AutoRuns : PureFn P 7 (pureF (fun _ => none) b_leadtraillaw13_AutoRuns) := pureF_ok noTable fn_leadtraillaw13_AutoRuns

def b_code_Decode_l0 : ACode :=
    (.seq (.region [⟨(some 18), .bin .lss (.t 17) (.t 16), none, false⟩])
     (.seq (.cond (.t 18) (.skip) (.exit 0))
     (.seq (.block 1 (.seq (.region [⟨(some 19), .iaddr 2 (.t 15) (.t 17), none, false⟩,
        ⟨(some 20), .load true 2 (.t 19), none, false⟩,
        ⟨(some 8), .alloc [.nils, (.int .i64 0)], none, false⟩,
        ⟨none, .store 2 (.t 8) (.t 20), none, false⟩])
      (.seq (.region [⟨(some 22), .load true 2 (.t 8), none, false⟩,
        ⟨(some 23), .move (.t 1), none, false⟩,
        ⟨(some 24), .callP F_shape_Rank [(.t 22), (.t 23)], none, false⟩,
        ⟨(some 21), .move (.t 24), none, false⟩,
        ⟨(some 25), .ext 0 (.t 21), none, false⟩,
        ⟨(some 26), .ext 1 (.t 21), none, false⟩,
        ⟨(some 9), .move (.t 25), none, false⟩,
        ⟨(some 10), .move (.t 26), none, false⟩])
      (.seq (.region [⟨(some 27), .move (.t 10), none, false⟩,
        ⟨(some 28), .move (.t 27), none, false⟩,
        ⟨(some 29), .move (.t 6), (some (28, true)), false⟩,
        ⟨(some 30), .bin .lss (.t 29) (.c (.int .i64 0)), (some (28, true)), false⟩,
        ⟨(some 31), .move (.t 30), (some (28, true)), false⟩,
        ⟨(some 32), .faddr 1 (.t 8), (some (31, false)), false⟩,
        ⟨(some 33), .load false 1 (.t 32), (some (31, false)), false⟩,
        ⟨(some 34), .move (.t 9), (some (31, false)), false⟩,
        ⟨(some 35), .bin .add (.t 33) (.t 34), (some (31, false)), false⟩,
        ⟨(some 36), .move (.t 6), (some (31, false)), false⟩,
        ⟨(some 37), .bin .lss (.t 35) (.t 36), (some (31, false)), false⟩,
        ⟨(some 38), .pick (.t 31) (.c (.bool true)) (.t 37), (some (28, true)), false⟩,
        ⟨(some 39), .pick (.t 28) (.t 38) (.c (.bool false)), none, false⟩])
      (.cond (.t 39) (.region [⟨(some 40), .faddr 1 (.t 8), none, false⟩,
         ⟨(some 41), .load false 1 (.t 40), none, false⟩,
         ⟨(some 42), .move (.t 9), none, false⟩,
         ⟨(some 43), .bin .add (.t 41) (.t 42), none, false⟩,
         ⟨(some 6), .move (.t 43), none, false⟩]) (.skip))))))
     (.region [⟨(some 44), .bin .add (.t 17) (.c (.int .i64 1)), none, false⟩,
       ⟨(some 17), .move (.t 44), none, false⟩]))))
/-- leadtrail/code.Decode -/
def b_code_Decode : AFn := ⟨2, [.tmp 4, .tmp 5],
    (.seq (.region [⟨(some 2), .boxR 1 (.t 0), none, false⟩,
       ⟨(some 4), .move (.c (.int .i64 0)), none, false⟩,
       ⟨(some 5), .move (.c (.int .i64 0)), none, false⟩])
     (.seq (.seq (.region [⟨(some 11), .load true 1 (.t 2), none, true⟩,
       ⟨(some 12), .callP F_scheme_Valid [(.t 11)], none, false⟩,
       ⟨(some 13), .un .not (.t 12), none, false⟩])
     (.cond (.t 13) (.seq (.region [⟨(some 4), .move (.c (.int .i64 0)), none, false⟩,
        ⟨(some 5), .move (.c (.int .i64 84)), none, false⟩])
      (.ret)) (.skip)))
     (.seq (.region [⟨(some 6), .move (.c (.int .i64 (-1))), none, false⟩])
     (.seq (.seq (.region [⟨(some 14), .faddr 0 (.t 2), none, true⟩,
       ⟨(some 15), .load false 1 (.t 14), none, true⟩,
       ⟨(some 16), .len 0 (.t 15), none, false⟩,
       ⟨(some 17), .move (.c (.int .i64 0)), none, false⟩])
     (.block 0 (.loop [1, 6, 15, 16, 17] b_code_Decode_l0)))
     (.seq (.seq (.region [⟨(some 45), .move (.t 6), none, false⟩,
       ⟨(some 46), .bin .lss (.t 45) (.c (.int .i64 0)), none, false⟩])
     (.cond (.t 46) (.seq (.region [⟨(some 4), .move (.c (.int .i64 0)), none, false⟩,
        ⟨(some 5), .move (.c (.int .i64 100)), none, false⟩])
      (.ret)) (.skip)))
     (.seq (.region [⟨(some 47), .move (.t 6), none, false⟩,
       ⟨(some 4), .move (.t 47), none, false⟩,
       ⟨(some 5), .move (.c (.int .i64 0)), none, false⟩])
     (.ret)))))))⟩
theorem ok_code_Decode : okFunc Go.Proofs.Try.prog fo Go.Proofs.Try.f26 b_code_Decode = true := by kernel_rfl
theorem du_code_Decode : dutiesF Go.Proofs.Try.f26 b_code_Decode = [(48, F_scheme_Valid), (49, F_shape_Rank)] := by kernel_rfl
theorem fn_code_Decode : FnOk P fo 26 b_code_Decode := ⟨_, Go.Proofs.Try.func26, ok_code_Decode, by rw [du_code_Decode]; exact List.forall_mem_cons.2 ⟨p_scheme_Valid, List.forall_mem_cons.2 ⟨p_shape_Rank, fun _ h => by cases h⟩⟩⟩
def F_code_Decode : List PV → Option PV := pureF (fun _ => none) b_code_Decode
theorem p_code_Decode : PureFn P 26 F_code_Decode := pureF_ok noTable fn_code_Decode

def b_shape_Begins_l0 : ACode :=
    (.seq (.region [⟨(some 21), .bin .lss (.t 20) (.t 19), none, false⟩])
     (.seq (.cond (.t 21) (.skip) (.exit 0))
     (.seq (.block 1 (.seq (.region [⟨(some 22), .move (.t 20), none, false⟩,
        ⟨(some 23), .iaddr 1 (.t 18) (.t 20), none, false⟩,
        ⟨(some 24), .load false 1 (.t 23), none, false⟩,
        ⟨(some 5), .move (.t 22), none, false⟩,
        ⟨(some 6), .move (.t 24), none, false⟩])
      (.seq (.region [⟨(some 25), .faddr 0 (.t 2), none, true⟩,
        ⟨(some 26), .load false 1 (.t 25), none, true⟩,
        ⟨(some 27), .move (.t 5), none, false⟩,
        ⟨(some 28), .iaddr 1 (.t 26) (.t 27), none, false⟩,
        ⟨(some 29), .load false 1 (.t 28), none, false⟩,
        ⟨(some 30), .move (.t 6), none, false⟩,
        ⟨(some 31), .conv .i64 (.t 30), none, false⟩,
        ⟨(some 32), .callP C_spans_Has [(.t 29), (.t 31)], none, false⟩,
        ⟨(some 33), .un .not (.t 32), none, false⟩])
      (.cond (.t 33) (.seq (.region [⟨(some 4), .move (.c (.bool false)), none, false⟩])
       (.ret)) (.skip)))))
     (.region [⟨(some 34), .bin .add (.t 20) (.c (.int .i64 1)), none, false⟩,
       ⟨(some 20), .move (.t 34), none, false⟩]))))
/-- leadtrail/shape.Begins -/
def b_shape_Begins : AFn := ⟨2, [.tmp 4],
    (.seq (.region [⟨(some 2), .boxR 2 (.t 0), none, false⟩,
       ⟨(some 4), .move (.c (.bool false)), none, false⟩])
     (.seq (.seq (.region [⟨(some 7), .load true 2 (.t 2), none, true⟩,
       ⟨(some 8), .callP F_shape_Valid [(.t 7)], none, false⟩,
       ⟨(some 9), .un .not (.t 8), none, false⟩,
       ⟨(some 10), .move (.t 9), none, false⟩,
       ⟨(some 11), .move (.t 1), (some (10, false)), false⟩,
       ⟨(some 12), .len 0 (.t 11), (some (10, false)), false⟩,
       ⟨(some 13), .faddr 0 (.t 2), (some (10, false)), true⟩,
       ⟨(some 14), .load false 1 (.t 13), (some (10, false)), true⟩,
       ⟨(some 15), .len 0 (.t 14), (some (10, false)), false⟩,
       ⟨(some 16), .bin .gtr (.t 12) (.t 15), (some (10, false)), false⟩,
       ⟨(some 17), .pick (.t 10) (.c (.bool true)) (.t 16), none, false⟩])
     (.cond (.t 17) (.seq (.region [⟨(some 4), .move (.c (.bool false)), none, false⟩])
      (.ret)) (.skip)))
     (.seq (.seq (.region [⟨(some 18), .move (.t 1), none, false⟩,
       ⟨(some 19), .len 0 (.t 18), none, false⟩,
       ⟨(some 20), .move (.c (.int .i64 0)), none, false⟩])
     (.block 0 (.loop [2, 18, 19, 20] b_shape_Begins_l0)))
     (.seq (.region [⟨(some 4), .move (.c (.bool true)), none, false⟩])
     (.ret)))))⟩
theorem ok_shape_Begins : okFunc Go.Proofs.Try.prog fo Go.Proofs.Try.f50 b_shape_Begins = true := by kernel_rfl
theorem du_shape_Begins : dutiesF Go.Proofs.Try.f50 b_shape_Begins = [(75, F_shape_Valid), (78, C_spans_Has)] := by kernel_rfl
theorem fn_shape_Begins : FnOk P fo 50 b_shape_Begins := ⟨_, Go.Proofs.Try.func50, ok_shape_Begins, by rw [du_shape_Begins]; exact List.forall_mem_cons.2 ⟨p_shape_Valid, List.forall_mem_cons.2 ⟨c_spans_Has, fun _ h => by cases h⟩⟩⟩
def F_shape_Begins : List PV → Option PV := pureF (fun _ => none) b_shape_Begins
theorem p_shape_Begins : PureFn P 50 F_shape_Begins := pureF_ok noTable fn_shape_Begins

def b_leadtraillaw13_begins_l0 : ACode :=
    (.seq (.region [⟨(some 11), .bin .lss (.t 10) (.t 9), none, false⟩])
     (.seq (.cond (.t 11) (.skip) (.exit 0))
     (.seq (.block 1 (.seq (.region [⟨(some 12), .iaddr 2 (.t 8) (.t 10), none, false⟩,
        ⟨(some 13), .load true 2 (.t 12), none, false⟩,
        ⟨(some 6), .alloc [.nils, (.int .i64 0)], none, false⟩,
        ⟨none, .store 2 (.t 6) (.t 13), none, false⟩])
      (.seq (.region [⟨(some 14), .load true 2 (.t 6), none, false⟩,
        ⟨(some 15), .move (.t 1), none, false⟩,
        ⟨(some 16), .callP F_shape_Begins [(.t 14), (.t 15)], none, false⟩])
      (.cond (.t 16) (.seq (.region [⟨(some 4), .move (.c (.bool true)), none, false⟩])
       (.ret)) (.skip)))))
     (.region [⟨(some 17), .bin .add (.t 10) (.c (.int .i64 1)), none, false⟩,
       ⟨(some 10), .move (.t 17), none, false⟩]))))
/-- leadtrail/leadtraillaw13.begins -/
def b_leadtraillaw13_begins : AFn := ⟨2, [.tmp 4],
    (.seq (.region [⟨(some 2), .boxR 1 (.t 0), none, false⟩,
       ⟨(some 4), .move (.c (.bool false)), none, false⟩])
     (.seq (.seq (.region [⟨(some 7), .faddr 0 (.t 2), none, true⟩,
       ⟨(some 8), .load false 1 (.t 7), none, true⟩,
       ⟨(some 9), .len 0 (.t 8), none, false⟩,
       ⟨(some 10), .move (.c (.int .i64 0)), none, false⟩])
     (.block 0 (.loop [1, 8, 9, 10] b_leadtraillaw13_begins_l0)))
     (.seq (.region [⟨(some 18), .move (.t 1), none, false⟩,
       ⟨(some 19), .len 0 (.t 18), none, false⟩,
       ⟨(some 20), .bin .eql (.t 19) (.c (.int .i64 0)), none, false⟩,
       ⟨(some 4), .move (.t 20), none, false⟩])
     (.ret))))⟩
theorem ok_leadtraillaw13_begins : okFunc Go.Proofs.Try.prog fo Go.Proofs.Try.f27 b_leadtraillaw13_begins = true := by kernel_rfl
theorem du_leadtraillaw13_begins : dutiesF Go.Proofs.Try.f27 b_leadtraillaw13_begins = [(50, F_shape_Begins)] := by kernel_rfl
theorem fn_leadtraillaw13_begins : FnOk P fo 27 b_leadtraillaw13_begins := ⟨_, Go.Proofs.Try.func27, ok_leadtraillaw13_begins, by rw [du_leadtraillaw13_begins]; exact List.forall_mem_cons.2 ⟨p_shape_Begins, fun _ h => by cases h⟩⟩
def F_leadtraillaw13_begins : List PV → Option PV := pureF (fun _ => none) b_leadtraillaw13_begins
theorem p_leadtraillaw13_begins : PureFn P 27 F_leadtraillaw13_begins := pureF_ok noTable fn_leadtraillaw13_begins

/-- leadtrail/leadtraillaw13.AutoTells -/
def b_leadtraillaw13_AutoTells : AFn := ⟨2, [.tmp 4],
    (.seq (.region [⟨(some 2), .boxR 1 (.t 0), none, false⟩,
       ⟨(some 4), .move (.c (.bool false)), none, false⟩])
     (.seq (.seq (.region [⟨(some 11), .callP F_leadtraillaw13_fixed [], none, false⟩,
       ⟨(some 12), .un .not (.t 11), none, false⟩])
     (.cond (.t 12) (.seq (.region [⟨(some 4), .move (.c (.bool false)), none, false⟩])
      (.ret)) (.skip)))
     (.seq (.region [⟨(some 14), .load true 1 (.t 2), none, true⟩,
       ⟨(some 15), .callP F_auto_Build [(.t 14)], none, false⟩,
       ⟨(some 13), .move (.t 15), none, false⟩,
       ⟨(some 16), .ext 0 (.t 13), none, false⟩,
       ⟨(some 17), .ext 1 (.t 13), none, false⟩,
       ⟨(some 5), .alloc [.nils], none, false⟩,
       ⟨none, .store 1 (.t 5) (.t 16), none, false⟩,
       ⟨(some 6), .move (.t 17), none, false⟩])
     (.seq (.seq (.region [⟨(some 18), .move (.t 6), none, false⟩,
       ⟨(some 19), .bin .neq (.t 18) (.c (.int .i64 0)), none, false⟩])
     (.cond (.t 19) (.seq (.region [⟨(some 4), .move (.c (.bool true)), none, false⟩])
      (.ret)) (.skip)))
     (.seq (.region [⟨(some 21), .load true 1 (.t 5), none, false⟩,
       ⟨(some 22), .move (.t 1), none, false⟩,
       ⟨(some 23), .callP F_auto_Match [(.t 21), (.t 22)], none, false⟩,
       ⟨(some 20), .move (.t 23), none, false⟩,
       ⟨(some 24), .ext 0 (.t 20), none, false⟩,
       ⟨(some 25), .ext 1 (.t 20), none, false⟩,
       ⟨(some 7), .move (.t 24), none, false⟩,
       ⟨(some 8), .move (.t 25), none, false⟩])
     (.seq (.seq (.region [⟨(some 26), .move (.t 7), none, false⟩,
       ⟨(some 27), .bin .lss (.t 26) (.c (.int .i64 0)), none, false⟩,
       ⟨(some 28), .move (.t 27), none, false⟩,
       ⟨(some 29), .move (.t 7), (some (28, false)), false⟩,
       ⟨(some 30), .move (.t 1), (some (28, false)), false⟩,
       ⟨(some 31), .len 0 (.t 30), (some (28, false)), false⟩,
       ⟨(some 32), .bin .gtr (.t 29) (.t 31), (some (28, false)), false⟩,
       ⟨(some 33), .pick (.t 28) (.c (.bool true)) (.t 32), none, false⟩])
     (.cond (.t 33) (.seq (.region [⟨(some 4), .move (.c (.bool false)), none, false⟩])
      (.ret)) (.skip)))
     (.seq (.region [⟨(some 35), .load true 1 (.t 2), none, true⟩,
       ⟨(some 36), .move (.t 1), none, false⟩,
       ⟨(some 37), .move (.t 7), none, false⟩,
       ⟨(some 38), .slice 1 (.t 36) none (some (.t 37)), none, true⟩,
       ⟨(some 39), .callP F_code_Decode [(.t 35), (.t 38)], none, false⟩,
       ⟨(some 34), .move (.t 39), none, false⟩,
       ⟨(some 40), .ext 0 (.t 34), none, false⟩,
       ⟨(some 41), .ext 1 (.t 34), none, false⟩,
       ⟨(some 9), .move (.t 40), none, false⟩,
       ⟨(some 10), .move (.t 41), none, false⟩])
     (.seq (.seq (.region [⟨(some 42), .move (.t 8), none, false⟩])
     (.block 0 (.seq (.region [⟨(some 44), .bin .eql (.t 42) (.c (.int .i64 1)), none, false⟩,
        ⟨(some 43), .move (.t 44), none, false⟩])
      (.cond (.t 43) (.seq (.region [⟨(some 45), .move (.t 10), none, false⟩,
         ⟨(some 46), .bin .eql (.t 45) (.c (.int .i64 0)), none, false⟩,
         ⟨(some 4), .move (.t 46), none, false⟩])
       (.ret)) (.seq (.region [⟨(some 48), .bin .eql (.t 42) (.c (.int .i64 2)), none, false⟩,
         ⟨(some 47), .move (.t 48), none, false⟩])
       (.cond (.t 47) (.seq (.region [⟨(some 49), .move (.t 7), none, false⟩,
          ⟨(some 50), .move (.t 1), none, false⟩,
          ⟨(some 51), .len 0 (.t 50), none, false⟩,
          ⟨(some 52), .bin .eql (.t 49) (.t 51), none, false⟩,
          ⟨(some 53), .move (.t 52), none, false⟩,
          ⟨(some 54), .move (.t 10), (some (53, true)), false⟩,
          ⟨(some 55), .bin .neq (.t 54) (.c (.int .i64 0)), (some (53, true)), false⟩,
          ⟨(some 56), .pick (.t 53) (.t 55) (.c (.bool false)), none, false⟩,
          ⟨(some 57), .move (.t 56), none, false⟩,
          ⟨(some 58), .load true 1 (.t 2), (some (57, true)), true⟩,
          ⟨(some 59), .move (.t 1), (some (57, true)), false⟩,
          ⟨(some 60), .callP F_leadtraillaw13_begins [(.t 58), (.t 59)], (some (57, true)), false⟩,
          ⟨(some 61), .pick (.t 57) (.t 60) (.c (.bool false)), none, false⟩,
          ⟨(some 4), .move (.t 61), none, false⟩])
        (.ret)) (.seq (.region [⟨(some 63), .bin .eql (.t 42) (.c (.int .i64 3)), none, false⟩,
          ⟨(some 62), .move (.t 63), none, false⟩])
        (.cond (.t 62) (.seq (.region [⟨(some 64), .move (.t 7), none, false⟩,
           ⟨(some 65), .move (.t 1), none, false⟩,
           ⟨(some 66), .len 0 (.t 65), none, true⟩,
           ⟨(some 67), .bin .lss (.t 64) (.t 66), none, false⟩,
           ⟨(some 68), .move (.t 67), none, false⟩,
           ⟨(some 69), .move (.t 10), (some (68, true)), false⟩,
           ⟨(some 70), .bin .neq (.t 69) (.c (.int .i64 0)), (some (68, true)), false⟩,
           ⟨(some 71), .pick (.t 68) (.t 70) (.c (.bool false)), none, false⟩,
           ⟨(some 72), .move (.t 71), none, false⟩,
           ⟨(some 73), .load true 1 (.t 2), (some (72, true)), true⟩,
           ⟨(some 74), .move (.t 1), (some (72, true)), false⟩,
           ⟨(some 75), .move (.t 7), (some (72, true)), false⟩,
           ⟨(some 76), .slice 1 (.t 74) none (some (.t 75)), (some (72, true)), true⟩,
           ⟨(some 77), .callP F_leadtraillaw13_begins [(.t 73), (.t 76)], (some (72, true)), false⟩,
           ⟨(some 78), .pick (.t 72) (.t 77) (.c (.bool false)), none, false⟩,
           ⟨(some 79), .move (.t 78), none, false⟩,
           ⟨(some 80), .load true 1 (.t 2), (some (79, true)), true⟩,
           ⟨(some 81), .move (.t 1), (some (79, true)), false⟩,
           ⟨(some 82), .move (.t 7), (some (79, true)), false⟩,
           ⟨(some 83), .bin .add (.t 82) (.c (.int .i64 1)), (some (79, true)), false⟩,
           ⟨(some 84), .slice 1 (.t 81) none (some (.t 83)), (some (79, true)), true⟩,
           ⟨(some 85), .callP F_leadtraillaw13_begins [(.t 80), (.t 84)], (some (79, true)), false⟩,
           ⟨(some 86), .un .not (.t 85), (some (79, true)), false⟩,
           ⟨(some 87), .pick (.t 79) (.t 86) (.c (.bool false)), none, false⟩,
           ⟨(some 4), .move (.t 87), none, false⟩])
         (.ret)) (.skip)))))))))
     (.seq (.region [⟨(some 4), .move (.c (.bool false)), none, false⟩])
     (.ret))))))))))⟩
theorem ok_leadtraillaw13_AutoTells : okFunc Go.Proofs.Try.prog fo Go.Proofs.Try.f8 b_leadtraillaw13_AutoTells = true := by kernel_rfl
theorem du_leadtraillaw13_AutoTells : dutiesF Go.Proofs.Try.f8 b_leadtraillaw13_AutoTells = [(12, F_leadtraillaw13_fixed), (14, F_auto_Build), (21, F_auto_Match), (26, F_code_Decode), (27, F_leadtraillaw13_begins), (27, F_leadtraillaw13_begins), (27, F_leadtraillaw13_begins)] := by kernel_rfl
theorem fn_leadtraillaw13_AutoTells : FnOk P fo 8 b_leadtraillaw13_AutoTells := ⟨_, Go.Proofs.Try.func8, ok_leadtraillaw13_AutoTells, by rw [du_leadtraillaw13_AutoTells]; exact List.forall_mem_cons.2 ⟨p_leadtraillaw13_fixed, List.forall_mem_cons.2 ⟨p_auto_Build, List.forall_mem_cons.2 ⟨p_auto_Match, List.forall_mem_cons.2 ⟨p_code_Decode, List.forall_mem_cons.2 ⟨p_leadtraillaw13_begins, List.forall_mem_cons.2 ⟨p_leadtraillaw13_begins, List.forall_mem_cons.2 ⟨p_leadtraillaw13_begins, fun _ h => by cases h⟩⟩⟩⟩⟩⟩⟩⟩
theorem p_leadtraillaw13_AutoTells : PureFn P 8 (pureF (fun _ => none) b_leadtraillaw13_AutoTells) := pureF_ok noTable fn_leadtraillaw13_AutoTells

/-- leadtrail/shape.Count -/
def b_shape_Count : AFn := ⟨1, [.tmp 2],
    (.seq (.region [⟨(some 1), .boxR 2 (.t 0), none, false⟩,
       ⟨(some 2), .move (.c (.int .i64 0)), none, false⟩])
     (.seq (.seq (.region [⟨(some 3), .load true 2 (.t 1), none, true⟩,
       ⟨(some 4), .callP F_shape_Valid [(.t 3)], none, false⟩,
       ⟨(some 5), .un .not (.t 4), none, false⟩])
     (.cond (.t 5) (.seq (.region [⟨(some 2), .move (.c (.int .i64 0)), none, false⟩])
      (.ret)) (.skip)))
     (.seq (.region [⟨(some 6), .load true 2 (.t 1), none, true⟩,
       ⟨(some 7), .callP F_shape_steps [(.t 6)], none, false⟩,
       ⟨(some 8), .iaddr 1 (.t 7) (.c (.int .i64 0)), none, false⟩,
       ⟨(some 9), .load false 1 (.t 8), none, false⟩,
       ⟨(some 2), .move (.t 9), none, false⟩])
     (.ret))))⟩
theorem ok_shape_Count : okFunc Go.Proofs.Try.prog fo Go.Proofs.Try.f97 b_shape_Count = true := by kernel_rfl
theorem du_shape_Count : dutiesF Go.Proofs.Try.f97 b_shape_Count = [(75, F_shape_Valid), (76, F_shape_steps)] := by kernel_rfl
theorem fn_shape_Count : FnOk P fo 97 b_shape_Count := ⟨_, Go.Proofs.Try.func97, ok_shape_Count, by rw [du_shape_Count]; exact List.forall_mem_cons.2 ⟨p_shape_Valid, List.forall_mem_cons.2 ⟨p_shape_steps, fun _ h => by cases h⟩⟩⟩
def F_shape_Count : List PV → Option PV := pureF (fun _ => none) b_shape_Count
theorem p_shape_Count : PureFn P 97 F_shape_Count := pureF_ok noTable fn_shape_Count

def b_shape_Unrank_l0 : ACode :=
    (.seq (.region [⟨(some 24), .bin .lss (.t 23) (.t 22), none, false⟩])
     (.seq (.cond (.t 24) (.skip) (.exit 0))
     (.seq (.block 1 (.seq (.region [⟨(some 25), .move (.t 23), none, false⟩,
        ⟨(some 26), .iaddr 1 (.t 21) (.t 23), none, false⟩,
        ⟨(some 27), .load false 1 (.t 26), none, false⟩,
        ⟨(some 7), .move (.t 25), none, false⟩,
        ⟨(some 8), .move (.t 27), none, false⟩])
      (.seq (.region [⟨(some 29), .faddr 0 (.t 2), none, true⟩,
        ⟨(some 30), .load false 1 (.t 29), none, true⟩,
        ⟨(some 31), .move (.t 7), none, false⟩,
        ⟨(some 32), .iaddr 1 (.t 30) (.t 31), none, true⟩,
        ⟨(some 33), .load false 1 (.t 32), none, true⟩,
        ⟨(some 34), .move (.t 1), none, false⟩,
        ⟨(some 35), .move (.t 8), none, false⟩,
        ⟨(some 36), .bin .quo (.t 34) (.t 35), none, false⟩,
        ⟨(some 37), .callP F_spans_Select [(.t 33), (.t 36)], none, false⟩,
        ⟨(some 28), .move (.t 37), none, false⟩,
        ⟨(some 38), .ext 0 (.t 28), none, false⟩,
        ⟨(some 39), .ext 1 (.t 28), none, false⟩,
        ⟨(some 9), .move (.t 38), none, false⟩,
        ⟨(some 10), .move (.t 39), none, false⟩])
      (.seq (.region [⟨(some 40), .move (.t 6), none, false⟩,
        ⟨(some 41), .move (.t 9), none, false⟩,
        ⟨(some 42), .conv .u8 (.t 41), none, false⟩,
        ⟨(some 43), .bslice .lit 1 false 1 [(.int .u8 0)] [(0, (.t 42))], none, false⟩,
        ⟨(some 44), .append false .uq 1 false 1 (.t 40) (.t 43), none, false⟩,
        ⟨(some 6), .move (.t 44), none, false⟩])
      (.region [⟨(some 45), .move (.t 1), none, false⟩,
        ⟨(some 46), .move (.t 8), none, false⟩,
        ⟨(some 47), .bin .rem (.t 45) (.t 46), none, false⟩,
        ⟨(some 1), .move (.t 47), none, false⟩])))))
     (.region [⟨(some 48), .bin .add (.t 23) (.c (.int .i64 1)), none, false⟩,
       ⟨(some 23), .move (.t 48), none, false⟩]))))
/-- leadtrail/shape.Unrank -/
def b_shape_Unrank : AFn := ⟨2, [.tmp 4, .tmp 5],
    (.seq (.region [⟨(some 2), .boxR 2 (.t 0), none, false⟩,
       ⟨(some 4), .move (.c .nils), none, false⟩,
       ⟨(some 5), .move (.c (.bool false)), none, false⟩])
     (.seq (.seq (.region [⟨(some 11), .move (.t 1), none, false⟩,
       ⟨(some 12), .bin .lss (.t 11) (.c (.int .i64 0)), none, false⟩,
       ⟨(some 13), .move (.t 12), none, false⟩,
       ⟨(some 14), .move (.t 1), (some (13, false)), false⟩,
       ⟨(some 15), .load true 2 (.t 2), (some (13, false)), true⟩,
       ⟨(some 16), .callP F_shape_Count [(.t 15)], (some (13, false)), false⟩,
       ⟨(some 17), .bin .geq (.t 14) (.t 16), (some (13, false)), false⟩,
       ⟨(some 18), .pick (.t 13) (.c (.bool true)) (.t 17), none, false⟩])
     (.cond (.t 18) (.seq (.region [⟨(some 4), .move (.c .nils), none, false⟩,
        ⟨(some 5), .move (.c (.bool false)), none, false⟩])
      (.ret)) (.skip)))
     (.seq (.region [⟨(some 6), .move (.c .nils), none, false⟩])
     (.ghost (.mkuq 6 1) (.seq (.seq (.region [⟨(some 19), .load true 2 (.t 2), none, true⟩,
       ⟨(some 20), .callP F_shape_steps [(.t 19)], none, false⟩,
       ⟨(some 21), .slice 1 (.t 20) (some (.c (.int .i64 1))) none, none, false⟩,
       ⟨(some 22), .len 0 (.t 21), none, false⟩,
       ⟨(some 23), .move (.c (.int .i64 0)), none, false⟩])
     (.block 0 (.loop [1, 2, 6, 21, 22, 23] b_shape_Unrank_l0)))
     (.seq (.region [⟨(some 49), .move (.t 6), none, false⟩,
       ⟨(some 4), .move (.t 49), none, false⟩,
       ⟨(some 5), .move (.c (.bool true)), none, false⟩])
     (.ret)))))))⟩
theorem ok_shape_Unrank : okFunc Go.Proofs.Try.prog fo Go.Proofs.Try.f79 b_shape_Unrank = true := by kernel_rfl
theorem du_shape_Unrank : dutiesF Go.Proofs.Try.f79 b_shape_Unrank = [(97, F_shape_Count), (76, F_shape_steps), (98, F_spans_Select)] := by kernel_rfl
theorem fn_shape_Unrank : FnOk P fo 79 b_shape_Unrank := ⟨_, Go.Proofs.Try.func79, ok_shape_Unrank, by rw [du_shape_Unrank]; exact List.forall_mem_cons.2 ⟨p_shape_Count, List.forall_mem_cons.2 ⟨p_shape_steps, List.forall_mem_cons.2 ⟨p_spans_Select, fun _ h => by cases h⟩⟩⟩⟩
def F_shape_Unrank : List PV → Option PV := pureF (fun _ => none) b_shape_Unrank
theorem p_shape_Unrank : PureFn P 79 F_shape_Unrank := pureF_ok noTable fn_shape_Unrank

def b_code_encode_l0 : ACode :=
    (.seq (.region [⟨(some 13), .bin .lss (.t 12) (.t 11), none, false⟩])
     (.seq (.cond (.t 13) (.skip) (.exit 0))
     (.seq (.block 1 (.seq (.region [⟨(some 14), .iaddr 2 (.t 10) (.t 12), none, false⟩,
        ⟨(some 15), .load true 2 (.t 14), none, false⟩,
        ⟨(some 6), .alloc [.nils, (.int .i64 0)], none, false⟩,
        ⟨none, .store 2 (.t 6) (.t 15), none, false⟩])
      (.seq (.seq (.region [⟨(some 16), .move (.t 1), none, false⟩,
        ⟨(some 17), .faddr 1 (.t 6), none, false⟩,
        ⟨(some 18), .load false 1 (.t 17), none, false⟩,
        ⟨(some 19), .bin .lss (.t 16) (.t 18), none, false⟩])
      (.cond (.t 19) (.exit 1) (.skip)))
      (.seq (.region [⟨(some 21), .load true 2 (.t 6), none, false⟩,
        ⟨(some 22), .move (.t 1), none, false⟩,
        ⟨(some 23), .faddr 1 (.t 6), none, false⟩,
        ⟨(some 24), .load false 1 (.t 23), none, false⟩,
        ⟨(some 25), .bin .sub (.t 22) (.t 24), none, false⟩,
        ⟨(some 26), .callP F_shape_Unrank [(.t 21), (.t 25)], none, false⟩,
        ⟨(some 20), .move (.t 26), none, false⟩,
        ⟨(some 27), .ext 0 (.t 20), none, false⟩,
        ⟨(some 28), .ext 1 (.t 20), none, false⟩,
        ⟨(some 7), .move (.t 27), none, false⟩,
        ⟨(some 8), .move (.t 28), none, false⟩])
      (.seq (.region [⟨(some 29), .move (.t 8), none, false⟩])
      (.cond (.t 29) (.seq (.region [⟨(some 30), .move (.t 7), none, false⟩,
         ⟨(some 4), .move (.t 30), none, false⟩])
       (.ret)) (.skip)))))))
     (.region [⟨(some 31), .bin .add (.t 12) (.c (.int .i64 1)), none, false⟩,
       ⟨(some 12), .move (.t 31), none, false⟩]))))
/-- leadtrail/code.encode -/
def b_code_encode : AFn := ⟨2, [.tmp 4],
    (.seq (.region [⟨(some 2), .boxR 1 (.t 0), none, false⟩,
       ⟨(some 4), .move (.c .nils), none, false⟩])
     (.seq (.seq (.region [⟨(some 9), .faddr 0 (.t 2), none, true⟩,
       ⟨(some 10), .load false 1 (.t 9), none, true⟩,
       ⟨(some 11), .len 0 (.t 10), none, false⟩,
       ⟨(some 12), .move (.c (.int .i64 0)), none, false⟩])
     (.block 0 (.loop [1, 10, 11, 12] b_code_encode_l0)))
     (.seq (.region [⟨(some 4), .move (.c .nils), none, false⟩])
     (.ret))))⟩
theorem ok_code_encode : okFunc Go.Proofs.Try.prog fo Go.Proofs.Try.f51 b_code_encode = true := by kernel_rfl
theorem du_code_encode : dutiesF Go.Proofs.Try.f51 b_code_encode = [(79, F_shape_Unrank)] := by kernel_rfl
theorem fn_code_encode : FnOk P fo 51 b_code_encode := ⟨_, Go.Proofs.Try.func51, ok_code_encode, by rw [du_code_encode]; exact List.forall_mem_cons.2 ⟨p_shape_Unrank, fun _ h => by cases h⟩⟩
def F_code_encode : List PV → Option PV := pureF (fun _ => none) b_code_encode
theorem p_code_encode : PureFn P 51 F_code_encode := pureF_ok noTable fn_code_encode

/-- leadtrail/code.Encode -/
def b_code_Encode : AFn := ⟨2, [.tmp 4, .tmp 5],
    (.seq (.region [⟨(some 2), .boxR 1 (.t 0), none, false⟩,
       ⟨(some 4), .move (.c .nils), none, false⟩,
       ⟨(some 5), .move (.c (.int .i64 0)), none, false⟩])
     (.seq (.seq (.region [⟨(some 7), .load true 1 (.t 2), none, true⟩,
       ⟨(some 8), .callP F_scheme_Valid [(.t 7)], none, false⟩,
       ⟨(some 9), .un .not (.t 8), none, false⟩])
     (.cond (.t 9) (.seq (.region [⟨(some 4), .move (.c .nils), none, false⟩,
        ⟨(some 5), .move (.c (.int .i64 84)), none, false⟩])
      (.ret)) (.skip)))
     (.seq (.region [⟨(some 10), .load true 1 (.t 2), none, true⟩,
       ⟨(some 11), .move (.t 1), none, false⟩,
       ⟨(some 12), .callP F_code_encode [(.t 10), (.t 11)], none, false⟩,
       ⟨(some 6), .move (.t 12), none, false⟩])
     (.seq (.seq (.region [⟨(some 13), .move (.t 6), none, false⟩,
       ⟨(some 14), .eq 2 false (.t 13) (.c .nils), none, false⟩])
     (.cond (.t 14) (.seq (.region [⟨(some 4), .move (.c .nils), none, false⟩,
        ⟨(some 5), .move (.c (.int .i64 100)), none, false⟩])
      (.ret)) (.skip)))
     (.seq (.region [⟨(some 15), .move (.t 6), none, false⟩,
       ⟨(some 4), .move (.t 15), none, false⟩,
       ⟨(some 5), .move (.c (.int .i64 0)), none, false⟩])
     (.ret))))))⟩
theorem ok_code_Encode : okFunc Go.Proofs.Try.prog fo Go.Proofs.Try.f28 b_code_Encode = true := by kernel_rfl
theorem du_code_Encode : dutiesF Go.Proofs.Try.f28 b_code_Encode = [(48, F_scheme_Valid), (51, F_code_encode)] := by kernel_rfl
theorem fn_code_Encode : FnOk P fo 28 b_code_Encode := ⟨_, Go.Proofs.Try.func28, ok_code_Encode, by rw [du_code_Encode]; exact List.forall_mem_cons.2 ⟨p_scheme_Valid, List.forall_mem_cons.2 ⟨p_code_encode, fun _ h => by cases h⟩⟩⟩
def F_code_Encode : List PV → Option PV := pureF (fun _ => none) b_code_Encode
theorem p_code_Encode : PureFn P 28 F_code_Encode := pureF_ok noTable fn_code_Encode

def b_leadtraillaw13_AutoKnows_l0 : ACode :=
    (.seq (.region [⟨(some 60), .bin .lss (.t 59) (.t 58), none, false⟩])
     (.seq (.cond (.t 60) (.skip) (.exit 0))
     (.seq (.block 1 (.seq (.region [⟨(some 61), .move (.t 59), none, false⟩,
        ⟨(some 13), .move (.t 61), none, false⟩])
      (.seq (.region [⟨(some 63), .load true 1 (.t 7), none, false⟩,
        ⟨(some 64), .move (.t 9), none, false⟩,
        ⟨(some 65), .move (.t 13), none, false⟩,
        ⟨(some 66), .slice 1 (.t 64) none (some (.t 65)), none, true⟩,
        ⟨(some 67), .callP F_auto_Match [(.t 63), (.t 66)], none, false⟩,
        ⟨(some 62), .move (.t 67), none, false⟩,
        ⟨(some 68), .ext 0 (.t 62), none, false⟩,
        ⟨(some 69), .ext 1 (.t 62), none, false⟩,
        ⟨(some 14), .move (.t 68), none, false⟩,
        ⟨(some 15), .move (.t 69), none, false⟩])
      (.seq (.region [⟨(some 70), .move (.t 14), none, false⟩,
        ⟨(some 71), .move (.t 13), none, false⟩,
        ⟨(some 72), .bin .neq (.t 70) (.t 71), none, false⟩,
        ⟨(some 73), .move (.t 72), none, false⟩,
        ⟨(some 74), .move (.t 15), (some (73, false)), false⟩,
        ⟨(some 75), .bin .neq (.t 74) (.c (.int .i64 2)), (some (73, false)), false⟩,
        ⟨(some 76), .pick (.t 73) (.c (.bool true)) (.t 75), none, false⟩])
      (.cond (.t 76) (.seq (.region [⟨(some 6), .move (.c (.bool false)), none, false⟩])
       (.ret)) (.skip))))))
     (.region [⟨(some 77), .bin .add (.t 59) (.c (.int .i64 1)), none, false⟩,
       ⟨(some 59), .move (.t 77), none, false⟩]))))
/-- leadtrail/leadtraillaw13.AutoKnows -/
def b_leadtraillaw13_AutoKnows : AFn := ⟨3, [.tmp 6],
    (.seq (.region [⟨(some 3), .boxR 1 (.t 0), none, false⟩,
       ⟨(some 6), .move (.c (.bool false)), none, false⟩])
     (.seq (.seq (.region [⟨(some 16), .callP F_leadtraillaw13_fixed [], none, false⟩,
       ⟨(some 17), .un .not (.t 16), none, false⟩])
     (.cond (.t 17) (.seq (.region [⟨(some 6), .move (.c (.bool false)), none, false⟩])
      (.ret)) (.skip)))
     (.seq (.region [⟨(some 19), .load true 1 (.t 3), none, true⟩,
       ⟨(some 20), .callP F_auto_Build [(.t 19)], none, false⟩,
       ⟨(some 18), .move (.t 20), none, false⟩,
       ⟨(some 21), .ext 0 (.t 18), none, false⟩,
       ⟨(some 22), .ext 1 (.t 18), none, false⟩,
       ⟨(some 7), .alloc [.nils], none, false⟩,
       ⟨none, .store 1 (.t 7) (.t 21), none, false⟩,
       ⟨(some 8), .move (.t 22), none, false⟩])
     (.seq (.region [⟨(some 24), .load true 1 (.t 3), none, true⟩,
       ⟨(some 25), .move (.t 1), none, false⟩,
       ⟨(some 26), .callP F_code_Encode [(.t 24), (.t 25)], none, false⟩,
       ⟨(some 23), .move (.t 26), none, false⟩,
       ⟨(some 27), .ext 0 (.t 23), none, false⟩,
       ⟨(some 28), .ext 1 (.t 23), none, false⟩,
       ⟨(some 9), .move (.t 27), none, false⟩,
       ⟨(some 10), .move (.t 28), none, false⟩])
     (.seq (.seq (.region [⟨(some 29), .move (.t 8), none, false⟩,
       ⟨(some 30), .bin .neq (.t 29) (.c (.int .i64 0)), none, false⟩])
     (.cond (.t 30) (.seq (.region [⟨(some 31), .faddr 0 (.t 7), none, false⟩,
        ⟨(some 32), .load false 1 (.t 31), none, false⟩,
        ⟨(some 33), .len 0 (.t 32), none, false⟩,
        ⟨(some 34), .bin .eql (.t 33) (.c (.int .i64 0)), none, false⟩,
        ⟨(some 6), .move (.t 34), none, false⟩])
      (.ret)) (.skip)))
     (.seq (.seq (.region [⟨(some 35), .move (.t 10), none, false⟩,
       ⟨(some 36), .bin .neq (.t 35) (.c (.int .i64 0)), none, false⟩])
     (.cond (.t 36) (.seq (.region [⟨(some 37), .move (.t 10), none, false⟩,
        ⟨(some 38), .bin .eql (.t 37) (.c (.int .i64 100)), none, false⟩,
        ⟨(some 6), .move (.t 38), none, false⟩])
      (.ret)) (.skip)))
     (.seq (.region [⟨(some 40), .load true 1 (.t 7), none, false⟩,
       ⟨(some 41), .bslice .uq 1 false 0 [(.int .u8 0)] [], none, false⟩,
       ⟨(some 42), .move (.t 9), none, false⟩,
       ⟨(some 43), .append false .uq 1 false 1 (.t 41) (.t 42), none, false⟩,
       ⟨(some 44), .move (.t 2), none, false⟩,
       ⟨(some 45), .append false .uq 1 false 1 (.t 43) (.t 44), none, false⟩,
       ⟨(some 46), .callP F_auto_Match [(.t 40), (.t 45)], none, false⟩,
       ⟨(some 39), .move (.t 46), none, false⟩,
       ⟨(some 47), .ext 0 (.t 39), none, false⟩,
       ⟨(some 48), .ext 1 (.t 39), none, false⟩,
       ⟨(some 11), .move (.t 47), none, false⟩,
       ⟨(some 12), .move (.t 48), none, false⟩])
     (.seq (.seq (.region [⟨(some 49), .move (.t 11), none, false⟩,
       ⟨(some 50), .move (.t 9), none, false⟩,
       ⟨(some 51), .len 0 (.t 50), none, false⟩,
       ⟨(some 52), .bin .neq (.t 49) (.t 51), none, false⟩,
       ⟨(some 53), .move (.t 52), none, false⟩,
       ⟨(some 54), .move (.t 12), (some (53, false)), false⟩,
       ⟨(some 55), .bin .neq (.t 54) (.c (.int .i64 1)), (some (53, false)), false⟩,
       ⟨(some 56), .pick (.t 53) (.c (.bool true)) (.t 55), none, false⟩])
     (.cond (.t 56) (.seq (.region [⟨(some 6), .move (.c (.bool false)), none, false⟩])
      (.ret)) (.skip)))
     (.seq (.seq (.region [⟨(some 57), .move (.t 9), none, false⟩,
       ⟨(some 58), .len 0 (.t 57), none, false⟩,
       ⟨(some 59), .move (.c (.int .i64 0)), none, false⟩])
     (.block 0 (.loop [7, 9, 58, 59] b_leadtraillaw13_AutoKnows_l0)))
     (.seq (.region [⟨(some 6), .move (.c (.bool true)), none, false⟩])
     (.ret)))))))))))⟩
theorem ok_leadtraillaw13_AutoKnows : okFunc Go.Proofs.Try.prog fo Go.Proofs.Try.f9 b_leadtraillaw13_AutoKnows = true := by kernel_rfl
theorem du_leadtraillaw13_AutoKnows : dutiesF Go.Proofs.Try.f9 b_leadtraillaw13_AutoKnows = [(12, F_leadtraillaw13_fixed), (14, F_auto_Build), (28, F_code_Encode), (21, F_auto_Match), (21, F_auto_Match)] := by kernel_rfl
theorem fn_leadtraillaw13_AutoKnows : FnOk P fo 9 b_leadtraillaw13_AutoKnows := ⟨_, Go.Proofs.Try.func9, ok_leadtraillaw13_AutoKnows, by rw [du_leadtraillaw13_AutoKnows]; exact List.forall_mem_cons.2 ⟨p_leadtraillaw13_fixed, List.forall_mem_cons.2 ⟨p_auto_Build, List.forall_mem_cons.2 ⟨p_code_Encode, List.forall_mem_cons.2 ⟨p_auto_Match, List.forall_mem_cons.2 ⟨p_auto_Match, fun _ h => by cases h⟩⟩⟩⟩⟩⟩
theorem p_leadtraillaw13_AutoKnows : PureFn P 9 (pureF (fun _ => none) b_leadtraillaw13_AutoKnows) := pureF_ok noTable fn_leadtraillaw13_AutoKnows

end Go.AM.B1
