/- CarryPlays: what it computes is true. -/
import Derived.Test.YtlibmcabpcehcaaRound
set_option linter.unusedVariables false
set_option linter.unusedSimpArgs false
namespace Go.AM.C1
open Go.AM

theorem getD_set_ne {r : List Int} {i j : Nat} (h : i ≠ j) (b : Int) : (r.set j b).getD i 0 = r.getD i 0 := by
  simp [List.getD_eq_getElem?_getD, List.getElem?_set, Ne.symm h]

theorem getD_set_self {r : List Int} {j : Nat} (h : j < r.length) (b : Int) : (r.set j b).getD j 0 = b := by
  simp [List.getD_eq_getElem?_getD, List.getElem?_set, h]

theorem win_push {at_ n : Nat} {r : List Int} {b : Int} (h2 : at_ < 8) (hn : n < 8) (hr : r.length = 8) : win at_ (n + 1) (r.set ((at_ + n) % 8) b) = win at_ n r ++ [u8 b] := by
  unfold win
  rw [List.range_succ, List.map_append]
  congr 1
  · apply List.map_congr_left
    intro i hi
    rw [List.mem_range] at hi
    rw [getD_set_ne (by omega)]
  · simp only [List.map_cons, List.map_nil]
    rw [getD_set_self (by omega)]

theorem win_drop {at_ n k : Nat} {r : List Int} (hk : k ≤ n) : (win at_ n r).drop k = win ((at_ + k) % 8) (n - k) r := by
  unfold win
  apply List.ext_getElem
  · simp
  · intro i h1 h2
    simp only [List.getElem_drop, List.getElem_map, List.getElem_range]
    rw [show (at_ + (k + i)) % 8 = ((at_ + k) % 8 + i) % 8 by omega]

theorem win_zero (at_ : Nat) (r : List Int) : win at_ 0 r = [] := rfl

theorem set_ring {k : Nat} (hk : k < 8) (r0 r1 r2 r3 r4 r5 r6 r7 : Int) (room at_ m : Nat) (b : Int) :
    ∃ q0 q1 q2 q3 q4 q5 q6 q7, (ring r0 r1 r2 r3 r4 r5 r6 r7 room at_ m).set k (.pv (u8 b)) = ring q0 q1 q2 q3 q4 q5 q6 q7 room at_ m ∧ [r0, r1, r2, r3, r4, r5, r6, r7].set k b = [q0, q1, q2, q3, q4, q5, q6, q7] := by
  match k, hk with
  | 0, _ => exact ⟨b, r1, r2, r3, r4, r5, r6, r7, rfl, rfl⟩
  | 1, _ => exact ⟨r0, b, r2, r3, r4, r5, r6, r7, rfl, rfl⟩
  | 2, _ => exact ⟨r0, r1, b, r3, r4, r5, r6, r7, rfl, rfl⟩
  | 3, _ => exact ⟨r0, r1, r2, b, r4, r5, r6, r7, rfl, rfl⟩
  | 4, _ => exact ⟨r0, r1, r2, r3, b, r5, r6, r7, rfl, rfl⟩
  | 5, _ => exact ⟨r0, r1, r2, r3, r4, b, r6, r7, rfl, rfl⟩
  | 6, _ => exact ⟨r0, r1, r2, r3, r4, r5, b, r7, rfl, rfl⟩
  | 7, _ => exact ⟨r0, r1, r2, r3, r4, r5, r6, b, rfl, rfl⟩

/-- The loop's head after i calls. -/
def InvP (room : Nat) (S : PV) (len : Nat) (i : Nat) (t : St) : Prop :=
  ∃ (r0 r1 r2 r3 r4 r5 r6 r7 : Int) (at_ n : Nat) (B : PV), at_ < 8 ∧ n ≤ room ∧ ((B = .nils ∧ n = 0) ∨ B = .lit 1 (win at_ n [r0, r1, r2, r3, r4, r5, r6, r7])) ∧
    t = ⟨envP S len i, [.box (ring r0 r1 r2 r3 r4 r5 r6 r7 room at_ n), .box [.pv (.int .i64 room), .pv .nils], .box [pvInt room, .pv B]]⟩

theorem round_step {room : Nat} (h1 : 1 ≤ room ∧ room ≤ 8) {ops : List PV} (hops : ∀ o ∈ ops, ∃ k N b : Int, o = .agg [.int .i64 k, .int .i64 N, .int .u8 b]) (hw : ops.length ≤ maxLen) (i : Nat) (hi : i < ops.length) (t : St) (hI : InvP room (.lit 3 ops) ops.length i t) :
    ∃ t', roundL (callL tab0 8) [5, 7, 35, 36, 37] c_leadtraillaw02_CarryPlays_l0 3 t = some (.norm, t') ∧ InvP room (.lit 3 ops) ops.length (i + 1) t' := by
  obtain ⟨r0, r1, r2, r3, r4, r5, r6, r7, at_, n, B, h2, h3, hB, rfl⟩ := hI
  obtain ⟨k, N, b, ho⟩ := hops (ops[i]) (List.getElem_mem hi)
  have ho' : ops[i]? = some (.agg [.int .i64 k, .int .i64 N, .int .u8 b]) := by rw [List.getElem?_eq_getElem hi, ho]
  have hn8 : n ≤ 8 := by omega
  have lw : (win at_ n [r0, r1, r2, r3, r4, r5, r6, r7]).length = n := by simp
  -- the ways out of a call
  have keepL : B = .lit 1 (win at_ n [r0, r1, r2, r3, r4, r5, r6, r7]) →
      runF (callL tab0 7) c_leadtraillaw02_step [.ptr 0 0, .ptr 2 0, opV k N b] [.box (ring r0 r1 r2 r3 r4 r5 r6 r7 room at_ n), .box [.pv (.int .i64 room), .pv .nils], .box [pvInt room, .pv (.lit 1 (win at_ n [r0, r1, r2, r3, r4, r5, r6, r7]))], .box [.pv (.int .i64 k), .pv (.int .i64 N), .pv (.int .u8 b)]] =
      some (.pv (.bool true), [.box (ring r0 r1 r2 r3 r4 r5 r6 r7 room at_ n), .box [.pv (.int .i64 room), .pv .nils], .box [pvInt room, .pv (.lit 1 (win at_ n [r0, r1, r2, r3, r4, r5, r6, r7]))], .box [.pv (.int .i64 k), .pv (.int .i64 N), .pv (.int .u8 b)]]) →
      ∃ t', roundL (callL tab0 8) [5, 7, 35, 36, 37] c_leadtraillaw02_CarryPlays_l0 3 ⟨envP (.lit 3 ops) ops.length i, [.box (ring r0 r1 r2 r3 r4 r5 r6 r7 room at_ n), .box [.pv (.int .i64 room), .pv .nils], .box [pvInt room, .pv B]]⟩ = some (.norm, t') ∧ InvP room (.lit 3 ops) ops.length (i + 1) t' := by
    rintro rfl hs
    exact ⟨_, round_lit room at_ n h2 hn8 r0 r1 r2 r3 r4 r5 r6 r7 _ _ ops ops.length i hi rfl hw k N b ho' hs, r0, r1, r2, r3, r4, r5, r6, r7, at_, n, _, h2, h3, .inr rfl, rfl⟩
  have keepN : B = .nils → n = 0 →
      runF (callL tab0 7) c_leadtraillaw02_step [.ptr 0 0, .ptr 2 0, opV k N b] [.box (ring r0 r1 r2 r3 r4 r5 r6 r7 room at_ 0), .box [.pv (.int .i64 room), .pv .nils], .box [pvInt room, .pv .nils], .box [.pv (.int .i64 k), .pv (.int .i64 N), .pv (.int .u8 b)]] =
      some (.pv (.bool true), [.box (ring r0 r1 r2 r3 r4 r5 r6 r7 room at_ 0), .box [.pv (.int .i64 room), .pv .nils], .box [pvInt room, .pv .nils], .box [.pv (.int .i64 k), .pv (.int .i64 N), .pv (.int .u8 b)]]) →
      ∃ t', roundL (callL tab0 8) [5, 7, 35, 36, 37] c_leadtraillaw02_CarryPlays_l0 3 ⟨envP (.lit 3 ops) ops.length i, [.box (ring r0 r1 r2 r3 r4 r5 r6 r7 room at_ n), .box [.pv (.int .i64 room), .pv .nils], .box [pvInt room, .pv B]]⟩ = some (.norm, t') ∧ InvP room (.lit 3 ops) ops.length (i + 1) t' := by
    rintro rfl rfl hs
    exact ⟨_, round_nils room at_ h2 r0 r1 r2 r3 r4 r5 r6 r7 _ _ ops ops.length i hi rfl hw k N b ho' hs, r0, r1, r2, r3, r4, r5, r6, r7, at_, 0, _, h2, h3, .inl ⟨rfl, rfl⟩, rfl⟩
  have turn : ∀ (q0 q1 q2 q3 q4 q5 q6 q7 : Int) (at' n' m : Nat), at' < 8 → n' ≤ room →
      runF (callL tab0 7) c_leadtraillaw02_step [.ptr 0 0, .ptr 2 0, opV k N b] [.box (ring r0 r1 r2 r3 r4 r5 r6 r7 room at_ n), .box [.pv (.int .i64 room), .pv .nils], .box [pvInt room, .pv B], .box [.pv (.int .i64 k), .pv (.int .i64 N), .pv (.int .u8 b)]] =
      some (.pv (.bool true), [.box (ring q0 q1 q2 q3 q4 q5 q6 q7 room at' n'), .box [.pv (.int .i64 room), .pv .nils], .box [pvInt room, .uq 4 false 1 (win at' n' [q0, q1, q2, q3, q4, q5, q6, q7])], .box [.pv (.int .i64 k), .pv (.int .i64 N), .pv (.int .u8 b)], .tok 1 m false]) →
      ∃ t', roundL (callL tab0 8) [5, 7, 35, 36, 37] c_leadtraillaw02_CarryPlays_l0 3 ⟨envP (.lit 3 ops) ops.length i, [.box (ring r0 r1 r2 r3 r4 r5 r6 r7 room at_ n), .box [.pv (.int .i64 room), .pv .nils], .box [pvInt room, .pv B]]⟩ = some (.norm, t') ∧ InvP room (.lit 3 ops) ops.length (i + 1) t' := by
    intro q0 q1 q2 q3 q4 q5 q6 q7 at' n' m g2 g3 hs
    exact ⟨_, round_uq room at_ n at' n' m g2 (by omega) r0 r1 r2 r3 r4 r5 r6 r7 q0 q1 q2 q3 q4 q5 q6 q7 _ _ B ops ops.length i hi rfl hw k N b ho' hs, q0, q1, q2, q3, q4, q5, q6, q7, at', n', _, g2, g3, .inr rfl, rfl⟩
  by_cases k1 : k = 1
  · subst k1
    by_cases hf : n < room
    · obtain ⟨q0, q1, q2, q3, q4, q5, q6, q7, hq, hl⟩ := set_ring (Nat.mod_lt (at_ + n) (by decide : 0 < 8)) r0 r1 r2 r3 r4 r5 r6 r7 room at_ (n + 1) b
      have hwp := win_push (at_ := at_) (n := n) (r := [r0, r1, r2, r3, r4, r5, r6, r7]) (b := b) h2 (by omega) rfl
      rw [hl] at hwp
      refine turn q0 q1 q2 q3 q4 q5 q6 q7 at_ (n + 1) (n + 1) h2 hf ?_
      rcases hB with ⟨rfl, rfl⟩ | rfl
      · rw [step_push_nils 4 room at_ h1 h2]
        rw [win_zero, List.nil_append] at hwp
        rw [hwp, ← hq]
        rfl
      · rw [step_push 4 room at_ n h1 h2 hf _ _ _ _ _ _ _ _ _ _ _ _ _ _ _ _ lw]
        rw [hwp, ← hq]
    · have hr : n = room := by omega
      rcases hB with ⟨rfl, rfl⟩ | rfl
      · omega
      · subst hr
        exact keepL rfl (step_push_full 4 n at_ h1 _ _ _ _ _ _ _ _ _ _ _ _ _ _ _ _ lw)
  by_cases k2 : k = 2
  · subst k2
    by_cases hN : N < 0 ∨ (n : Int) ≤ N
    · rcases hB with ⟨rfl, rfl⟩ | rfl
      · exact keepN rfl rfl (step_at_nils 4 room at_ _ _ _ _ _ _ _ _ _ _ _ _ _ _ _)
      · exact keepL rfl (step_at_out 4 room at_ n _ _ _ _ _ _ _ _ _ _ _ _ _ _ _ hN _ lw)
    · obtain ⟨j, rfl⟩ : ∃ j : Nat, N = j := ⟨N.toNat, by omega⟩
      rcases hB with ⟨rfl, rfl⟩ | rfl
      · omega
      · exact keepL rfl (step_at_in 4 room at_ n j h2 hn8 (by omega) _ _ _ _ _ _ _ _ _ _ _ _ _ _)
  by_cases k3 : k = 3
  · subst k3
    by_cases hN : N < 0 ∨ (n : Int) < N
    · rcases hB with ⟨rfl, rfl⟩ | rfl
      · exact keepN rfl rfl (step_drop_out_nils 4 room at_ h1.1 _ _ _ _ _ _ _ _ _ _ _ _ _ _ _ hN)
      · exact keepL rfl (step_drop_out 4 room at_ n h1.1 _ _ _ _ _ _ _ _ _ _ _ _ _ _ _ hN _ lw)
    · obtain ⟨j, rfl⟩ : ∃ j : Nat, N = j := ⟨N.toNat, by omega⟩
      have hj : j ≤ n := by omega
      refine turn r0 r1 r2 r3 r4 r5 r6 r7 ((at_ + j) % 8) (n - j) (n - j) (Nat.mod_lt _ (by decide)) (by omega) ?_
      rcases hB with ⟨rfl, rfl⟩ | rfl
      · have : j = 0 := by omega
        subst this
        have := step_drop_zero 4 room at_ h1.1 h2 (.pv (u8 r0)) (.pv (u8 r1)) (.pv (u8 r2)) (.pv (u8 r3)) (.pv (u8 r4)) (.pv (u8 r5)) (.pv (u8 r6)) (.pv (u8 r7)) (.int .i64 room) .nils (.int .i64 3) (.int .i64 0) (.int .u8 b) b
        exact this
      · rw [step_drop_in 4 room at_ n j h1.1 h2 hn8 hj _ _ _ _ _ _ _ _ _ _ _ _ _ _ _ lw, win_drop hj]
  · have hs := fun T => step_none 4 room at_ n (.pv (u8 r0)) (.pv (u8 r1)) (.pv (u8 r2)) (.pv (u8 r3)) (.pv (u8 r4)) (.pv (u8 r5)) (.pv (u8 r6)) (.pv (u8 r7)) T k N b k1 k2 k3
    rcases hB with ⟨rfl, rfl⟩ | rfl
    · exact keepN rfl rfl (hs _)
    · exact keepL rfl (hs _)

end Go.AM.C1
