/- CarryQueue: what it computes is true. -/
import Derived.Test.YtlibmcabpcehcaaQueue2
set_option linter.unusedVariables false
set_option linter.unusedSimpArgs false
namespace Go.AM.C1
open Go.AM

/-- What is kept, in order, as numbers. -/
abbrev winI (at_ n : Nat) (r : List Int) : List Int := (List.range n).map fun i => r.getD ((at_ + i) % 8) 0

theorem win_map (at_ n : Nat) (r : List Int) : win at_ n r = (winI at_ n r).map u8 := by simp [win, winI, List.map_map, Function.comp_def]

/-- A list of ints, as an argument. -/
def Ints (k : IntKind) (S : PV) (l : List Int) : Prop := (S = .nils ∧ l = []) ∨ S = .lit 1 (l.map (.int k))

theorem Ints.len {k : IntKind} {S : PV} {l : List Int} (h : Ints k S l) (H : List AObj) : lenA H 0 (.pv S) = some l.length := by
  rcases h with ⟨rfl, rfl⟩ | rfl
  · rfl
  · simp [lenA]

/-- The loop's head after i bytes. -/
def InvQ (D S : PV) (len : Nat) (i : Nat) (t : St) : Prop :=
  ∃ (r0 r1 r2 r3 r4 r5 r6 r7 : Int) (at_ n : Nat) (I : List PV) (OL : List Int) (p q : Bool), at_ < 8 ∧ n ≤ 8 ∧ I.length ≤ i ∧ I = OL.map u8 ++ win at_ n [r0, r1, r2, r3, r4, r5, r6, r7] ∧
    t = ⟨envQ D S len i (.uq 1 p 1 I) (.uq 2 q 1 (OL.map u8)), [.box (ring r0 r1 r2 r3 r4 r5 r6 r7 8 at_ n), .tok 1 I.length p, .tok 1 (OL.map u8).length q]⟩

theorem queue_step {D : PV} {ds bs : List Int} (hD : Ints .i64 D ds) (hw : bs.length ≤ reachBytes) (i : Nat) (hi : i < bs.length) (t : St) (hI : InvQ D (.lit 1 (bs.map u8)) bs.length i t) :
    ∃ t', roundL (callL tab0 8) [1, 5, 7, 8, 26, 27, 28] c_leadtraillaw02_CarryQueue_l0 3 t = some (.norm, t') ∧ InvQ D (.lit 1 (bs.map u8)) bs.length (i + 1) t' := by
  obtain ⟨r0, r1, r2, r3, r4, r5, r6, r7, at_, n, I, OL, p, q, h2, h3, hIl, hIe, rfl⟩ := hI
  have hx : (bs.map u8)[i]? = some (u8 (bs[i])) := by simp [hi]
  have hlb : bs.length = (bs.map u8).length := by simp
  have hOl : (OL.map u8).length ≤ i := by rw [hIe] at hIl; simp at hIl ⊢; omega
  have lw : ∀ m q, (win at_ m q).length = m := by intro m q; simp
  by_cases hf : n < 8
  · obtain ⟨q0, q1, q2, q3, q4, q5, q6, q7, hq, hl⟩ := set_ring (Nat.mod_lt (at_ + n) (by decide : 0 < 8)) r0 r1 r2 r3 r4 r5 r6 r7 8 at_ (n + 1) bs[i]
    have hwp := win_push (at_ := at_) (n := n) (r := [r0, r1, r2, r3, r4, r5, r6, r7]) (b := bs[i]) h2 hf rfl
    rw [hl] at hwp
    have hIe' : I ++ [u8 bs[i]] = OL.map u8 ++ win at_ (n + 1) [q0, q1, q2, q3, q4, q5, q6, q7] := by rw [hIe, List.append_assoc, hwp]
    by_cases hd : i < ds.length
    · have hDe : D = .lit 1 (ds.map (.int .i64)) := by
        rcases hD with ⟨rfl, rfl⟩ | rfl
        · simp at hd
        · rfl
      obtain ⟨k, hk⟩ : ∃ k : Nat, min (max ds[i] 0) ((n + 1 : Nat) : Int) = k := ⟨(min (max ds[i] 0) ((n + 1 : Nat) : Int)).toNat, by omega⟩
      have hkn : k ≤ n + 1 := by omega
      rw [hDe]
      obtain ⟨q', hr⟩ := round_room_drop at_ n r0 r1 r2 r3 r4 r5 r6 r7 q0 q1 q2 q3 q4 q5 q6 q7 (bs.map u8) bs.length i hi hlb hw bs[i] hx I (OL.map u8) p q h2 hf hIl hOl (ds.map (.int .i64)) (by simpa using hd) ds[i] (by simp [hd]) k hkn hk hq
      refine ⟨_, hr, q0, q1, q2, q3, q4, q5, q6, q7, (at_ + k) % 8, n + 1 - k, I ++ [u8 bs[i]], OL ++ (winI at_ (n + 1) [q0, q1, q2, q3, q4, q5, q6, q7]).take k, false, q', Nat.mod_lt _ (by decide), by omega, by simp; omega, ?_, ?_⟩
      · rw [hIe', ← win_drop hkn, List.map_append, List.map_take, ← win_map, List.append_assoc, List.take_append_drop]
      · rw [List.map_append, List.map_take, ← win_map]
        congr 3
        · simp
        · have : ((win at_ (n + 1) [q0, q1, q2, q3, q4, q5, q6, q7]).take k).length = k := by rw [List.length_take, lw]; omega
          rw [List.length_append, this]
    · have hr := round_room at_ n r0 r1 r2 r3 r4 r5 r6 r7 q0 q1 q2 q3 q4 q5 q6 q7 D (bs.map u8) bs.length i hi hlb hw bs[i] hx I (OL.map u8) p q h2 _ hD.len hf hIl (by omega) hq
      refine ⟨_, hr, q0, q1, q2, q3, q4, q5, q6, q7, at_, n + 1, I ++ [u8 bs[i]], OL, false, q, h2, by omega, by simp; omega, hIe', ?_⟩
      congr 3
      simp
  · have hn : n = 8 := by omega
    subst hn
    by_cases hd : i < ds.length
    · have hDe : D = .lit 1 (ds.map (.int .i64)) := by
        rcases hD with ⟨rfl, rfl⟩ | rfl
        · simp at hd
        · rfl
      obtain ⟨k, hk⟩ : ∃ k : Nat, min (max ds[i] 0) 8 = (k : Int) := ⟨(min (max ds[i] 0) 8).toNat, by omega⟩
      have hkn : k ≤ 8 := by omega
      rw [hDe]
      obtain ⟨q', hr⟩ := round_full_drop at_ r0 r1 r2 r3 r4 r5 r6 r7 (bs.map u8) bs.length i hi hlb hw bs[i] hx I (OL.map u8) p q h2 hIl hOl (ds.map (.int .i64)) (by simpa using hd) ds[i] (by simp [hd]) k hkn hk
      refine ⟨_, hr, r0, r1, r2, r3, r4, r5, r6, r7, (at_ + k) % 8, 8 - k, I, OL ++ (winI at_ 8 [r0, r1, r2, r3, r4, r5, r6, r7]).take k, p, q', Nat.mod_lt _ (by decide), by omega, by omega, ?_, ?_⟩
      · rw [hIe, ← win_drop hkn, List.map_append, List.map_take, ← win_map, List.append_assoc, List.take_append_drop]
      · rw [List.map_append, List.map_take, ← win_map]
        congr 3
        have : ((win at_ 8 [r0, r1, r2, r3, r4, r5, r6, r7]).take k).length = k := by rw [List.length_take, lw]; omega
        rw [List.length_append, this]
    · have hr := round_full at_ r0 r1 r2 r3 r4 r5 r6 r7 D (bs.map u8) bs.length i hi hlb hw bs[i] hx I (OL.map u8) p q _ hD.len hIl (by omega)
      exact ⟨_, hr, r0, r1, r2, r3, r4, r5, r6, r7, at_, 8, I, OL, p, q, h2, h3, by omega, hIe, rfl⟩

end Go.AM.C1
