/- Superblocks: which are valid, by the program and by the reference. -/
import Derived.Test.YtggoaelbglhehaaMgA2
import Derived.Deep.RegionHeld3
import Derived.Deep.QuietTactic
import Derived.IntWalk
/- Superblocks: which are valid, by the program and by the reference. -/
set_option linter.unusedVariables false
set_option linter.unusedSimpArgs false
set_option maxRecDepth 100000
namespace Go.Proofs.Ytggoaelbglhehaa
open Go.RowKit
def spC (s : Sp) : Array Value := #[.int .i64 s.gen, .int .i64 s.epoch, .int .i64 s.blocks, .int .i64 s.log, .int .i64 s.stamp, .int .i64 s.at_, .int .i64 s.root, .int .i64 s.count, .int .i64 s.version]
theorem an_within (a lo hi : Int) (w : World) : Calls Try.prog 44 #[.int .i64 a, .int .i64 lo, .int .i64 hi] w fun e w' => e = .returned (.bool (decide (lo ≤ a ∧ a ≤ hi))) ∧ w' = w := by
  by_cases h1 : lo ≤ a
  · by_cases h2 : a ≤ hi
    · rw [decide_eq_true (show lo ≤ a ∧ a ≤ hi from ⟨h1, h2⟩)]
      go_enter Try.func44, Try.ntmps44
      go_wp2
      go_ret
      exact ⟨by simp [h1, h2], rfl⟩
    · rw [decide_eq_false (show ¬ (lo ≤ a ∧ a ≤ hi) from fun h => h2 h.2)]
      go_enter Try.func44, Try.ntmps44
      go_wp2
      go_ret
      exact ⟨by simp [h1, h2], rfl⟩
  · rw [decide_eq_false (show ¬ (lo ≤ a ∧ a ≤ hi) from fun h => h1 h.1)]
    go_enter Try.func44, Try.ntmps44
    go_wp2
    go_ret
    exact ⟨by simp [h1], rfl⟩
theorem rn_upTo (a lo : Int) (w : World) : Calls Try.prog 45 #[.int .i64 a, .int .i64 lo] w fun e w' => e = .returned (.bool (decide (lo ≤ a ∧ a ≤ 1152921500311879680))) ∧ w' = w := by
  by_cases h1 : lo ≤ a
  · by_cases h2 : a ≤ 1152921500311879680
    · rw [decide_eq_true (show lo ≤ a ∧ a ≤ 1152921500311879680 from ⟨h1, h2⟩)]
      go_enter Try.func45, Try.ntmps45
      go_wp2
      go_ret
      exact ⟨by simp [h1, h2], rfl⟩
    · rw [decide_eq_false (show ¬ (lo ≤ a ∧ a ≤ 1152921500311879680) from fun h => h2 h.2)]
      go_enter Try.func45, Try.ntmps45
      go_wp2
      go_ret
      exact ⟨by simp [h1, h2], rfl⟩
  · rw [decide_eq_false (show ¬ (lo ≤ a ∧ a ≤ 1152921500311879680) from fun h => h1 h.1)]
    go_enter Try.func45, Try.ntmps45
    go_wp2
    go_ret
    exact ⟨by simp [h1], rfl⟩
/-- whole numbers of 64 bits, all of them -/
def Sp.ok (s : Sp) : Prop := (-9223372036854775808 ≤ s.gen ∧ s.gen < 9223372036854775808) ∧ (-9223372036854775808 ≤ s.epoch ∧ s.epoch < 9223372036854775808) ∧ (-9223372036854775808 ≤ s.blocks ∧ s.blocks < 9223372036854775808) ∧ (-9223372036854775808 ≤ s.log ∧ s.log < 9223372036854775808) ∧ (-9223372036854775808 ≤ s.stamp ∧ s.stamp < 9223372036854775808) ∧ (-9223372036854775808 ≤ s.at_ ∧ s.at_ < 9223372036854775808) ∧ (-9223372036854775808 ≤ s.root ∧ s.root < 9223372036854775808) ∧ (-9223372036854775808 ≤ s.count ∧ s.count < 9223372036854775808) ∧ (-9223372036854775808 ≤ s.version ∧ s.version < 9223372036854775808)
set_option maxHeartbeats 2000000 in
theorem an_Valid (s : Sp) (n : Int) (hs : s.ok) (w : World) : Calls Try.prog 11 #[.agg (spC s), .int .i64 n] w fun e w' => e = .returned (.bool (decide (Vld s n))) ∧ Below w.heap.size w w' := by
  obtain ⟨sg, se, sb, sl, ss, sa, sr, sc, sv⟩ := s
  obtain ⟨o1, o2, o3, o4, o5, o6, o7, o8, o9⟩ := hs
  dsimp only at o1 o2 o3 o4 o5 o6 o7 o8 o9
  unfold spC
  dsimp only
  clear o1 o2 o3 o5 o7 o8 o9
  by_cases c1 : sb = n
  rotate_left
  · have q1 : (sb != n) = true := by simp [c1]
    rw [show decide (Vld ⟨sg, se, sb, sl, ss, sa, sr, sc, sv⟩ n) = false from decide_eq_false (fun h => c1 h.blocks)]
    go_enter Try.func11, Try.ntmps11
    go_wp2
    go_ret
    exact ⟨rfl, (Below.refl _ _).alloc (Nat.le_refl _) _⟩
  have q1 : (sb != n) = false := by simp [c1]
  by_cases c2 : 64 ≤ n ∧ n ≤ 4096
  rotate_left
  · have HW1 := Lib.hid (an_within n 64 4096)
    rw [decide_eq_false (show ¬ (64 ≤ n ∧ n ≤ 4096) from by omega)] at HW1
    rw [show decide (Vld ⟨sg, se, sb, sl, ss, sa, sr, sc, sv⟩ n) = false from decide_eq_false (fun h => c2 ⟨h.lo, h.hi⟩)]
    go_enter Try.func11, Try.ntmps11
    go_wp2_with fail
    refine (HW1.out _).mono ?_
    rintro e w1 ⟨rfl, rfl⟩
    go_wp2
    go_ret
    exact ⟨rfl, (Below.refl _ _).alloc (Nat.le_refl _) _⟩
  by_cases c3 : 8 ≤ sl ∧ sl ≤ 512
  rotate_left
  · have HW1 := Lib.hid (an_within n 64 4096)
    rw [decide_eq_true (show 64 ≤ n ∧ n ≤ 4096 from by omega)] at HW1
    have HW2 := Lib.hid (an_within sl 8 512)
    rw [decide_eq_false (show ¬ (8 ≤ sl ∧ sl ≤ 512) from by omega)] at HW2
    rw [show decide (Vld ⟨sg, se, sb, sl, ss, sa, sr, sc, sv⟩ n) = false from decide_eq_false (fun h => c3 h.log)]
    go_enter Try.func11, Try.ntmps11
    go_wp2_with fail
    refine (HW1.out _).mono ?_
    rintro e w1 ⟨rfl, rfl⟩
    go_wp2_with fail
    refine (HW2.out _).mono ?_
    rintro e w2 ⟨rfl, rfl⟩
    go_wp2
    go_ret
    exact ⟨rfl, (Below.refl _ _).alloc (Nat.le_refl _) _⟩
  by_cases c4 : 2 + sl + 40 ≤ n
  rotate_left
  · have q4 : n < 2 + sl + 40 := by omega
    have HW1 := Lib.hid (an_within n 64 4096)
    rw [decide_eq_true (show 64 ≤ n ∧ n ≤ 4096 from by omega)] at HW1
    have HW2 := Lib.hid (an_within sl 8 512)
    rw [decide_eq_true (show 8 ≤ sl ∧ sl ≤ 512 from by omega)] at HW2
    rw [show decide (Vld ⟨sg, se, sb, sl, ss, sa, sr, sc, sv⟩ n) = false from decide_eq_false (fun h => c4 h.room)]
    go_enter Try.func11, Try.ntmps11
    go_wp2_with fail
    refine (HW1.out _).mono ?_
    rintro e w1 ⟨rfl, rfl⟩
    go_wp2_with fail
    refine (HW2.out _).mono ?_
    rintro e w2 ⟨rfl, rfl⟩
    go_wp2
    go_ret
    exact ⟨rfl, (Below.refl _ _).alloc (Nat.le_refl _) _⟩
  have q4 : ¬ n < 2 + sl + 40 := by omega
  by_cases c5 : 1 ≤ sg ∧ sg ≤ 1152921500311879680
  rotate_left
  · have HW1 := Lib.hid (an_within n 64 4096)
    rw [decide_eq_true (show 64 ≤ n ∧ n ≤ 4096 from by omega)] at HW1
    have HW2 := Lib.hid (an_within sl 8 512)
    rw [decide_eq_true (show 8 ≤ sl ∧ sl ≤ 512 from by omega)] at HW2
    have HW3 := Lib.hid (an_within sg 1 1152921500311879680)
    rw [decide_eq_false (show ¬ (1 ≤ sg ∧ sg ≤ 1152921500311879680) from by omega)] at HW3
    rw [show decide (Vld ⟨sg, se, sb, sl, ss, sa, sr, sc, sv⟩ n) = false from decide_eq_false (fun h => c5 h.gen)]
    go_enter Try.func11, Try.ntmps11
    go_wp2_with fail
    refine (HW1.out _).mono ?_
    rintro e w1 ⟨rfl, rfl⟩
    go_wp2_with fail
    refine (HW2.out _).mono ?_
    rintro e w2 ⟨rfl, rfl⟩
    go_wp2_with fail
    refine (HW3.out _).mono ?_
    rintro e w3 ⟨rfl, rfl⟩
    go_wp2
    go_ret
    exact ⟨rfl, (Below.refl _ _).alloc (Nat.le_refl _) _⟩
  by_cases c6 : 1 ≤ se ∧ se ≤ 1152921500311879680
  rotate_left
  · have HW1 := Lib.hid (an_within n 64 4096)
    rw [decide_eq_true (show 64 ≤ n ∧ n ≤ 4096 from by omega)] at HW1
    have HW2 := Lib.hid (an_within sl 8 512)
    rw [decide_eq_true (show 8 ≤ sl ∧ sl ≤ 512 from by omega)] at HW2
    have HW3 := Lib.hid (an_within sg 1 1152921500311879680)
    rw [decide_eq_true (show 1 ≤ sg ∧ sg ≤ 1152921500311879680 from by omega)] at HW3
    have HW4 := Lib.hid (an_within se 1 1152921500311879680)
    rw [decide_eq_false (show ¬ (1 ≤ se ∧ se ≤ 1152921500311879680) from by omega)] at HW4
    rw [show decide (Vld ⟨sg, se, sb, sl, ss, sa, sr, sc, sv⟩ n) = false from decide_eq_false (fun h => c6 h.epoch)]
    go_enter Try.func11, Try.ntmps11
    go_wp2_with fail
    refine (HW1.out _).mono ?_
    rintro e w1 ⟨rfl, rfl⟩
    go_wp2_with fail
    refine (HW2.out _).mono ?_
    rintro e w2 ⟨rfl, rfl⟩
    go_wp2_with fail
    refine (HW3.out _).mono ?_
    rintro e w3 ⟨rfl, rfl⟩
    go_wp2_with fail
    refine (HW4.out _).mono ?_
    rintro e w4 ⟨rfl, rfl⟩
    go_wp2
    go_ret
    exact ⟨rfl, (Below.refl _ _).alloc (Nat.le_refl _) _⟩
  by_cases c7 : 1 ≤ ss ∧ ss ≤ 1152921500311879680
  rotate_left
  · have HW1 := Lib.hid (an_within n 64 4096)
    rw [decide_eq_true (show 64 ≤ n ∧ n ≤ 4096 from by omega)] at HW1
    have HW2 := Lib.hid (an_within sl 8 512)
    rw [decide_eq_true (show 8 ≤ sl ∧ sl ≤ 512 from by omega)] at HW2
    have HW3 := Lib.hid (an_within sg 1 1152921500311879680)
    rw [decide_eq_true (show 1 ≤ sg ∧ sg ≤ 1152921500311879680 from by omega)] at HW3
    have HW4 := Lib.hid (an_within se 1 1152921500311879680)
    rw [decide_eq_true (show 1 ≤ se ∧ se ≤ 1152921500311879680 from by omega)] at HW4
    have HW5 := Lib.hid (an_within ss 1 1152921500311879680)
    rw [decide_eq_false (show ¬ (1 ≤ ss ∧ ss ≤ 1152921500311879680) from by omega)] at HW5
    rw [show decide (Vld ⟨sg, se, sb, sl, ss, sa, sr, sc, sv⟩ n) = false from decide_eq_false (fun h => c7 h.stamp)]
    go_enter Try.func11, Try.ntmps11
    go_wp2_with fail
    refine (HW1.out _).mono ?_
    rintro e w1 ⟨rfl, rfl⟩
    go_wp2_with fail
    refine (HW2.out _).mono ?_
    rintro e w2 ⟨rfl, rfl⟩
    go_wp2_with fail
    refine (HW3.out _).mono ?_
    rintro e w3 ⟨rfl, rfl⟩
    go_wp2_with fail
    refine (HW4.out _).mono ?_
    rintro e w4 ⟨rfl, rfl⟩
    go_wp2_with fail
    refine (HW5.out _).mono ?_
    rintro e w5 ⟨rfl, rfl⟩
    go_wp2
    go_ret
    exact ⟨rfl, (Below.refl _ _).alloc (Nat.le_refl _) _⟩
  by_cases c8 : 0 ≤ sv ∧ sv ≤ 1152921500311879680
  rotate_left
  · have HW1 := Lib.hid (an_within n 64 4096)
    rw [decide_eq_true (show 64 ≤ n ∧ n ≤ 4096 from by omega)] at HW1
    have HW2 := Lib.hid (an_within sl 8 512)
    rw [decide_eq_true (show 8 ≤ sl ∧ sl ≤ 512 from by omega)] at HW2
    have HW3 := Lib.hid (an_within sg 1 1152921500311879680)
    rw [decide_eq_true (show 1 ≤ sg ∧ sg ≤ 1152921500311879680 from by omega)] at HW3
    have HW4 := Lib.hid (an_within se 1 1152921500311879680)
    rw [decide_eq_true (show 1 ≤ se ∧ se ≤ 1152921500311879680 from by omega)] at HW4
    have HW5 := Lib.hid (an_within ss 1 1152921500311879680)
    rw [decide_eq_true (show 1 ≤ ss ∧ ss ≤ 1152921500311879680 from by omega)] at HW5
    have HW6 := Lib.hid (an_within sv 0 1152921500311879680)
    rw [decide_eq_false (show ¬ (0 ≤ sv ∧ sv ≤ 1152921500311879680) from by omega)] at HW6
    rw [show decide (Vld ⟨sg, se, sb, sl, ss, sa, sr, sc, sv⟩ n) = false from decide_eq_false (fun h => c8 h.version)]
    go_enter Try.func11, Try.ntmps11
    go_wp2_with fail
    refine (HW1.out _).mono ?_
    rintro e w1 ⟨rfl, rfl⟩
    go_wp2_with fail
    refine (HW2.out _).mono ?_
    rintro e w2 ⟨rfl, rfl⟩
    go_wp2_with fail
    refine (HW3.out _).mono ?_
    rintro e w3 ⟨rfl, rfl⟩
    go_wp2_with fail
    refine (HW4.out _).mono ?_
    rintro e w4 ⟨rfl, rfl⟩
    go_wp2_with fail
    refine (HW5.out _).mono ?_
    rintro e w5 ⟨rfl, rfl⟩
    go_wp2_with fail
    refine (HW6.out _).mono ?_
    rintro e w6 ⟨rfl, rfl⟩
    go_wp2
    go_ret
    exact ⟨rfl, (Below.refl _ _).alloc (Nat.le_refl _) _⟩
  have l1 := Int.emod_nonneg (ss - 1) (show sl ≠ 0 by omega)
  have l2 := Int.emod_lt_of_pos (ss - 1) (show 0 < sl by omega)
  have l3 : (ss - 1).tmod sl = (ss - 1) % sl := Int.tmod_eq_emod_of_nonneg (by omega)
  have l4 : (0 : Int) ≤ ss - 1 ∧ ss - 1 < 1152921500311879680 := by omega
  have l5 : ¬ sl = 0 := by omega
  have l6 : IntKind.i64.wrap (ss - 1) = ss - 1 := by simp [IntKind.wrap, IntKind.bits, IntKind.signed]; omega
  obtain ⟨m, hm⟩ : ∃ m, m = (ss - 1) % sl := ⟨_, rfl⟩
  rw [← hm] at l1 l2 l3
  have HM := Lib.hid hm
  clear hm
  by_cases c9 : sa = m
  rotate_left
  · have q9 : (sa != m) = true := by simp [c9]
    have HW1 := Lib.hid (an_within n 64 4096)
    rw [decide_eq_true (show 64 ≤ n ∧ n ≤ 4096 from by omega)] at HW1
    have HW2 := Lib.hid (an_within sl 8 512)
    rw [decide_eq_true (show 8 ≤ sl ∧ sl ≤ 512 from by omega)] at HW2
    have HW3 := Lib.hid (an_within sg 1 1152921500311879680)
    rw [decide_eq_true (show 1 ≤ sg ∧ sg ≤ 1152921500311879680 from by omega)] at HW3
    have HW4 := Lib.hid (an_within se 1 1152921500311879680)
    rw [decide_eq_true (show 1 ≤ se ∧ se ≤ 1152921500311879680 from by omega)] at HW4
    have HW5 := Lib.hid (an_within ss 1 1152921500311879680)
    rw [decide_eq_true (show 1 ≤ ss ∧ ss ≤ 1152921500311879680 from by omega)] at HW5
    have HW6 := Lib.hid (an_within sv 0 1152921500311879680)
    rw [decide_eq_true (show 0 ≤ sv ∧ sv ≤ 1152921500311879680 from by omega)] at HW6
    rw [show decide (Vld ⟨sg, se, sb, sl, ss, sa, sr, sc, sv⟩ n) = false from decide_eq_false (fun h => c9 (h.at_.trans HM.out.symm))]
    go_enter Try.func11, Try.ntmps11
    go_wp2_with fail
    refine (HW1.out _).mono ?_
    rintro e w1 ⟨rfl, rfl⟩
    go_wp2_with fail
    refine (HW2.out _).mono ?_
    rintro e w2 ⟨rfl, rfl⟩
    go_wp2_with fail
    refine (HW3.out _).mono ?_
    rintro e w3 ⟨rfl, rfl⟩
    go_wp2_with fail
    refine (HW4.out _).mono ?_
    rintro e w4 ⟨rfl, rfl⟩
    go_wp2_with fail
    refine (HW5.out _).mono ?_
    rintro e w5 ⟨rfl, rfl⟩
    go_wp2_with fail
    refine (HW6.out _).mono ?_
    rintro e w6 ⟨rfl, rfl⟩
    go_wp2_with fail
    go_quiet (fail)
    all_goals go_wp2
    go_ret
    exact ⟨rfl, (by first | exact below_drewN ((Below.refl _ _).alloc (Nat.le_refl _) _) 1 | exact below_drewN ((Below.refl _ _).alloc (Nat.le_refl _) _) _ | exact (Below.refl _ _).alloc (Nat.le_refl _) _)⟩
  have q9 : (sa != m) = false := by simp [c9]
  by_cases c10 : sr = 0
  · have q10 : (sr == 0) = true := by simp [c10]
    by_cases c11 : sc = 0
    · have HW1 := Lib.hid (an_within n 64 4096)
      rw [decide_eq_true (show 64 ≤ n ∧ n ≤ 4096 from by omega)] at HW1
      have HW2 := Lib.hid (an_within sl 8 512)
      rw [decide_eq_true (show 8 ≤ sl ∧ sl ≤ 512 from by omega)] at HW2
      have HW3 := Lib.hid (an_within sg 1 1152921500311879680)
      rw [decide_eq_true (show 1 ≤ sg ∧ sg ≤ 1152921500311879680 from by omega)] at HW3
      have HW4 := Lib.hid (an_within se 1 1152921500311879680)
      rw [decide_eq_true (show 1 ≤ se ∧ se ≤ 1152921500311879680 from by omega)] at HW4
      have HW5 := Lib.hid (an_within ss 1 1152921500311879680)
      rw [decide_eq_true (show 1 ≤ ss ∧ ss ≤ 1152921500311879680 from by omega)] at HW5
      have HW6 := Lib.hid (an_within sv 0 1152921500311879680)
      rw [decide_eq_true (show 0 ≤ sv ∧ sv ≤ 1152921500311879680 from by omega)] at HW6
      rw [show decide (Vld ⟨sg, se, sb, sl, ss, sa, sr, sc, sv⟩ n) = true from decide_eq_true ⟨c1, c2.1, c2.2, c3, c4, c5, c6, c7, c8, c9.trans HM.out, .inl ⟨c10, c11⟩⟩]
      go_enter Try.func11, Try.ntmps11
      go_wp2_with fail
      refine (HW1.out _).mono ?_
      rintro e w1 ⟨rfl, rfl⟩
      go_wp2_with fail
      refine (HW2.out _).mono ?_
      rintro e w2 ⟨rfl, rfl⟩
      go_wp2_with fail
      refine (HW3.out _).mono ?_
      rintro e w3 ⟨rfl, rfl⟩
      go_wp2_with fail
      refine (HW4.out _).mono ?_
      rintro e w4 ⟨rfl, rfl⟩
      go_wp2_with fail
      refine (HW5.out _).mono ?_
      rintro e w5 ⟨rfl, rfl⟩
      go_wp2_with fail
      refine (HW6.out _).mono ?_
      rintro e w6 ⟨rfl, rfl⟩
      go_wp2_with fail
      go_quiet (fail)
      all_goals go_wp2
      go_ret
      exact ⟨by simp [c11], (by first | exact below_drewN ((Below.refl _ _).alloc (Nat.le_refl _) _) 1 | exact below_drewN ((Below.refl _ _).alloc (Nat.le_refl _) _) _ | exact (Below.refl _ _).alloc (Nat.le_refl _) _)⟩
    · have HW1 := Lib.hid (an_within n 64 4096)
      rw [decide_eq_true (show 64 ≤ n ∧ n ≤ 4096 from by omega)] at HW1
      have HW2 := Lib.hid (an_within sl 8 512)
      rw [decide_eq_true (show 8 ≤ sl ∧ sl ≤ 512 from by omega)] at HW2
      have HW3 := Lib.hid (an_within sg 1 1152921500311879680)
      rw [decide_eq_true (show 1 ≤ sg ∧ sg ≤ 1152921500311879680 from by omega)] at HW3
      have HW4 := Lib.hid (an_within se 1 1152921500311879680)
      rw [decide_eq_true (show 1 ≤ se ∧ se ≤ 1152921500311879680 from by omega)] at HW4
      have HW5 := Lib.hid (an_within ss 1 1152921500311879680)
      rw [decide_eq_true (show 1 ≤ ss ∧ ss ≤ 1152921500311879680 from by omega)] at HW5
      have HW6 := Lib.hid (an_within sv 0 1152921500311879680)
      rw [decide_eq_true (show 0 ≤ sv ∧ sv ≤ 1152921500311879680 from by omega)] at HW6
      rw [show decide (Vld ⟨sg, se, sb, sl, ss, sa, sr, sc, sv⟩ n) = false from decide_eq_false (fun h => (h.root.elim (fun h => c11 h.2) (fun h => by (have h1 : 2 + sl ≤ sr := h.1); omega)))]
      go_enter Try.func11, Try.ntmps11
      go_wp2_with fail
      refine (HW1.out _).mono ?_
      rintro e w1 ⟨rfl, rfl⟩
      go_wp2_with fail
      refine (HW2.out _).mono ?_
      rintro e w2 ⟨rfl, rfl⟩
      go_wp2_with fail
      refine (HW3.out _).mono ?_
      rintro e w3 ⟨rfl, rfl⟩
      go_wp2_with fail
      refine (HW4.out _).mono ?_
      rintro e w4 ⟨rfl, rfl⟩
      go_wp2_with fail
      refine (HW5.out _).mono ?_
      rintro e w5 ⟨rfl, rfl⟩
      go_wp2_with fail
      refine (HW6.out _).mono ?_
      rintro e w6 ⟨rfl, rfl⟩
      go_wp2_with fail
      go_quiet (fail)
      all_goals go_wp2
      go_ret
      exact ⟨by simp [c11], (by first | exact below_drewN ((Below.refl _ _).alloc (Nat.le_refl _) _) 1 | exact below_drewN ((Below.refl _ _).alloc (Nat.le_refl _) _) _ | exact (Below.refl _ _).alloc (Nat.le_refl _) _)⟩
  have q10 : (sr == 0) = false := by simp [c10]
  by_cases c11 : 2 + sl ≤ sr ∧ sr ≤ n - 1
  rotate_left
  · have HW1 := Lib.hid (an_within n 64 4096)
    rw [decide_eq_true (show 64 ≤ n ∧ n ≤ 4096 from by omega)] at HW1
    have HW2 := Lib.hid (an_within sl 8 512)
    rw [decide_eq_true (show 8 ≤ sl ∧ sl ≤ 512 from by omega)] at HW2
    have HW3 := Lib.hid (an_within sg 1 1152921500311879680)
    rw [decide_eq_true (show 1 ≤ sg ∧ sg ≤ 1152921500311879680 from by omega)] at HW3
    have HW4 := Lib.hid (an_within se 1 1152921500311879680)
    rw [decide_eq_true (show 1 ≤ se ∧ se ≤ 1152921500311879680 from by omega)] at HW4
    have HW5 := Lib.hid (an_within ss 1 1152921500311879680)
    rw [decide_eq_true (show 1 ≤ ss ∧ ss ≤ 1152921500311879680 from by omega)] at HW5
    have HW6 := Lib.hid (an_within sv 0 1152921500311879680)
    rw [decide_eq_true (show 0 ≤ sv ∧ sv ≤ 1152921500311879680 from by omega)] at HW6
    have HW7 := Lib.hid (an_within sr (2 + sl) (n - 1))
    rw [decide_eq_false (show ¬ (2 + sl ≤ sr ∧ sr ≤ n - 1) from by omega)] at HW7
    rw [show decide (Vld ⟨sg, se, sb, sl, ss, sa, sr, sc, sv⟩ n) = false from decide_eq_false (fun h => (h.root.elim (fun h => c10 h.1) (fun h => c11 ⟨h.1, h.2.1⟩)))]
    go_enter Try.func11, Try.ntmps11
    go_wp2_with fail
    refine (HW1.out _).mono ?_
    rintro e w1 ⟨rfl, rfl⟩
    go_wp2_with fail
    refine (HW2.out _).mono ?_
    rintro e w2 ⟨rfl, rfl⟩
    go_wp2_with fail
    refine (HW3.out _).mono ?_
    rintro e w3 ⟨rfl, rfl⟩
    go_wp2_with fail
    refine (HW4.out _).mono ?_
    rintro e w4 ⟨rfl, rfl⟩
    go_wp2_with fail
    refine (HW5.out _).mono ?_
    rintro e w5 ⟨rfl, rfl⟩
    go_wp2_with fail
    refine (HW6.out _).mono ?_
    rintro e w6 ⟨rfl, rfl⟩
    go_wp2_with fail
    go_quiet (fail)
    go_wp2_with fail
    refine (HW7.out _).mono ?_
    rintro e w7 ⟨rfl, rfl⟩
    all_goals go_wp2
    go_ret
    exact ⟨rfl, (by first | exact below_drewN ((Below.refl _ _).alloc (Nat.le_refl _) _) 1 | exact below_drewN ((Below.refl _ _).alloc (Nat.le_refl _) _) _ | exact (Below.refl _ _).alloc (Nat.le_refl _) _)⟩
  by_cases c12 : 1 ≤ sc ∧ sc ≤ 1152921500311879680
  rotate_left
  · have HW1 := Lib.hid (an_within n 64 4096)
    rw [decide_eq_true (show 64 ≤ n ∧ n ≤ 4096 from by omega)] at HW1
    have HW2 := Lib.hid (an_within sl 8 512)
    rw [decide_eq_true (show 8 ≤ sl ∧ sl ≤ 512 from by omega)] at HW2
    have HW3 := Lib.hid (an_within sg 1 1152921500311879680)
    rw [decide_eq_true (show 1 ≤ sg ∧ sg ≤ 1152921500311879680 from by omega)] at HW3
    have HW4 := Lib.hid (an_within se 1 1152921500311879680)
    rw [decide_eq_true (show 1 ≤ se ∧ se ≤ 1152921500311879680 from by omega)] at HW4
    have HW5 := Lib.hid (an_within ss 1 1152921500311879680)
    rw [decide_eq_true (show 1 ≤ ss ∧ ss ≤ 1152921500311879680 from by omega)] at HW5
    have HW6 := Lib.hid (an_within sv 0 1152921500311879680)
    rw [decide_eq_true (show 0 ≤ sv ∧ sv ≤ 1152921500311879680 from by omega)] at HW6
    have HW7 := Lib.hid (an_within sr (2 + sl) (n - 1))
    rw [decide_eq_true (show 2 + sl ≤ sr ∧ sr ≤ n - 1 from by omega)] at HW7
    have HW8 := Lib.hid (an_within sc 1 1152921500311879680)
    rw [decide_eq_false (show ¬ (1 ≤ sc ∧ sc ≤ 1152921500311879680) from by omega)] at HW8
    rw [show decide (Vld ⟨sg, se, sb, sl, ss, sa, sr, sc, sv⟩ n) = false from decide_eq_false (fun h => (h.root.elim (fun h => c10 h.1) (fun h => c12 ⟨h.2.2.1, h.2.2.2⟩)))]
    go_enter Try.func11, Try.ntmps11
    go_wp2_with fail
    refine (HW1.out _).mono ?_
    rintro e w1 ⟨rfl, rfl⟩
    go_wp2_with fail
    refine (HW2.out _).mono ?_
    rintro e w2 ⟨rfl, rfl⟩
    go_wp2_with fail
    refine (HW3.out _).mono ?_
    rintro e w3 ⟨rfl, rfl⟩
    go_wp2_with fail
    refine (HW4.out _).mono ?_
    rintro e w4 ⟨rfl, rfl⟩
    go_wp2_with fail
    refine (HW5.out _).mono ?_
    rintro e w5 ⟨rfl, rfl⟩
    go_wp2_with fail
    refine (HW6.out _).mono ?_
    rintro e w6 ⟨rfl, rfl⟩
    go_wp2_with fail
    go_quiet (fail)
    go_wp2_with fail
    refine (HW7.out _).mono ?_
    rintro e w7 ⟨rfl, rfl⟩
    go_wp2_with fail
    refine (HW8.out _).mono ?_
    rintro e w8 ⟨rfl, rfl⟩
    all_goals go_wp2
    go_ret
    exact ⟨rfl, (by first | exact below_drewN ((Below.refl _ _).alloc (Nat.le_refl _) _) 1 | exact below_drewN ((Below.refl _ _).alloc (Nat.le_refl _) _) _ | exact (Below.refl _ _).alloc (Nat.le_refl _) _)⟩
  have HW1 := Lib.hid (an_within n 64 4096)
  rw [decide_eq_true (show 64 ≤ n ∧ n ≤ 4096 from by omega)] at HW1
  have HW2 := Lib.hid (an_within sl 8 512)
  rw [decide_eq_true (show 8 ≤ sl ∧ sl ≤ 512 from by omega)] at HW2
  have HW3 := Lib.hid (an_within sg 1 1152921500311879680)
  rw [decide_eq_true (show 1 ≤ sg ∧ sg ≤ 1152921500311879680 from by omega)] at HW3
  have HW4 := Lib.hid (an_within se 1 1152921500311879680)
  rw [decide_eq_true (show 1 ≤ se ∧ se ≤ 1152921500311879680 from by omega)] at HW4
  have HW5 := Lib.hid (an_within ss 1 1152921500311879680)
  rw [decide_eq_true (show 1 ≤ ss ∧ ss ≤ 1152921500311879680 from by omega)] at HW5
  have HW6 := Lib.hid (an_within sv 0 1152921500311879680)
  rw [decide_eq_true (show 0 ≤ sv ∧ sv ≤ 1152921500311879680 from by omega)] at HW6
  have HW7 := Lib.hid (an_within sr (2 + sl) (n - 1))
  rw [decide_eq_true (show 2 + sl ≤ sr ∧ sr ≤ n - 1 from by omega)] at HW7
  have HW8 := Lib.hid (an_within sc 1 1152921500311879680)
  rw [decide_eq_true (show 1 ≤ sc ∧ sc ≤ 1152921500311879680 from by omega)] at HW8
  rw [show decide (Vld ⟨sg, se, sb, sl, ss, sa, sr, sc, sv⟩ n) = true from decide_eq_true ⟨c1, c2.1, c2.2, c3, c4, c5, c6, c7, c8, c9.trans HM.out, .inr ⟨c11.1, c11.2, c12.1, c12.2⟩⟩]
  go_enter Try.func11, Try.ntmps11
  go_wp2_with fail
  refine (HW1.out _).mono ?_
  rintro e w1 ⟨rfl, rfl⟩
  go_wp2_with fail
  refine (HW2.out _).mono ?_
  rintro e w2 ⟨rfl, rfl⟩
  go_wp2_with fail
  refine (HW3.out _).mono ?_
  rintro e w3 ⟨rfl, rfl⟩
  go_wp2_with fail
  refine (HW4.out _).mono ?_
  rintro e w4 ⟨rfl, rfl⟩
  go_wp2_with fail
  refine (HW5.out _).mono ?_
  rintro e w5 ⟨rfl, rfl⟩
  go_wp2_with fail
  refine (HW6.out _).mono ?_
  rintro e w6 ⟨rfl, rfl⟩
  go_wp2_with fail
  go_quiet (fail)
  go_wp2_with fail
  refine (HW7.out _).mono ?_
  rintro e w7 ⟨rfl, rfl⟩
  go_wp2_with fail
  refine (HW8.out _).mono ?_
  rintro e w8 ⟨rfl, rfl⟩
  all_goals go_wp2
  go_ret
  exact ⟨rfl, (by first | exact below_drewN ((Below.refl _ _).alloc (Nat.le_refl _) _) 1 | exact below_drewN ((Below.refl _ _).alloc (Nat.le_refl _) _) _ | exact (Below.refl _ _).alloc (Nat.le_refl _) _)⟩
set_option maxHeartbeats 2000000 in
theorem rn_Valid (s : Sp) (n : Int) (hs : s.ok) (w : World) : Calls Try.prog 12 #[.agg (spC s), .int .i64 n] w fun e w' => e = .returned (.bool (decide (Vld s n))) ∧ Below w.heap.size w w' := by
  obtain ⟨sg, se, sb, sl, ss, sa, sr, sc, sv⟩ := s
  obtain ⟨o1, o2, o3, o4, o5, o6, o7, o8, o9⟩ := hs
  dsimp only at o1 o2 o3 o4 o5 o6 o7 o8 o9
  unfold spC
  dsimp only
  clear o1 o2 o3 o5 o7 o8 o9
  by_cases c1 : sb = n
  rotate_left
  · have q1 : (sb != n) = true := by simp [c1]
    rw [show decide (Vld ⟨sg, se, sb, sl, ss, sa, sr, sc, sv⟩ n) = false from decide_eq_false (fun h => c1 h.blocks)]
    go_enter Try.func12, Try.ntmps12
    go_wp2
    go_ret
    exact ⟨rfl, (Below.refl _ _).alloc (Nat.le_refl _) _⟩
  have q1 : (sb != n) = false := by simp [c1]
  by_cases c2 : 64 ≤ n ∧ n ≤ 4096
  rotate_left
  · by_cases c21 : n < 64
    · rw [show decide (Vld ⟨sg, se, sb, sl, ss, sa, sr, sc, sv⟩ n) = false from decide_eq_false (fun h => c2 ⟨h.lo, h.hi⟩)]
      go_enter Try.func12, Try.ntmps12
      go_wp2
      go_ret
      exact ⟨rfl, (Below.refl _ _).alloc (Nat.le_refl _) _⟩
    · have c22 : 4096 < n := by omega
      rw [show decide (Vld ⟨sg, se, sb, sl, ss, sa, sr, sc, sv⟩ n) = false from decide_eq_false (fun h => c2 ⟨h.lo, h.hi⟩)]
      go_enter Try.func12, Try.ntmps12
      go_wp2
      go_ret
      exact ⟨rfl, (Below.refl _ _).alloc (Nat.le_refl _) _⟩
  have c22 : ¬ n < 64 ∧ ¬ 4096 < n := by omega
  by_cases c3 : 8 ≤ sl ∧ sl ≤ 512
  rotate_left
  · by_cases c31 : sl < 8
    · rw [show decide (Vld ⟨sg, se, sb, sl, ss, sa, sr, sc, sv⟩ n) = false from decide_eq_false (fun h => c3 h.log)]
      go_enter Try.func12, Try.ntmps12
      go_wp2
      go_ret
      exact ⟨rfl, (Below.refl _ _).alloc (Nat.le_refl _) _⟩
    · have c32 : 512 < sl := by omega
      rw [show decide (Vld ⟨sg, se, sb, sl, ss, sa, sr, sc, sv⟩ n) = false from decide_eq_false (fun h => c3 h.log)]
      go_enter Try.func12, Try.ntmps12
      go_wp2
      go_ret
      exact ⟨rfl, (Below.refl _ _).alloc (Nat.le_refl _) _⟩
  have c32 : ¬ sl < 8 ∧ ¬ 512 < sl := by omega
  by_cases c4 : 2 + sl + 40 ≤ n
  rotate_left
  · have q4 : n - 2 - sl < 40 := by omega
    rw [show decide (Vld ⟨sg, se, sb, sl, ss, sa, sr, sc, sv⟩ n) = false from decide_eq_false (fun h => c4 h.room)]
    go_enter Try.func12, Try.ntmps12
    go_wp2
    go_ret
    exact ⟨rfl, (Below.refl _ _).alloc (Nat.le_refl _) _⟩
  have q4 : ¬ n - 2 - sl < 40 := by omega
  by_cases c5 : 1 ≤ sg ∧ sg ≤ 1152921500311879680
  rotate_left
  · have HW1 := Lib.hid (rn_upTo sg 1)
    rw [decide_eq_false (show ¬ (1 ≤ sg ∧ sg ≤ 1152921500311879680) from by omega)] at HW1
    rw [show decide (Vld ⟨sg, se, sb, sl, ss, sa, sr, sc, sv⟩ n) = false from decide_eq_false (fun h => c5 h.gen)]
    go_enter Try.func12, Try.ntmps12
    go_wp2_with fail
    refine (HW1.out _).mono ?_
    rintro e w1 ⟨rfl, rfl⟩
    go_wp2
    go_ret
    exact ⟨rfl, (Below.refl _ _).alloc (Nat.le_refl _) _⟩
  by_cases c6 : 1 ≤ se ∧ se ≤ 1152921500311879680
  rotate_left
  · have HW1 := Lib.hid (rn_upTo sg 1)
    rw [decide_eq_true (show 1 ≤ sg ∧ sg ≤ 1152921500311879680 from by omega)] at HW1
    have HW2 := Lib.hid (rn_upTo se 1)
    rw [decide_eq_false (show ¬ (1 ≤ se ∧ se ≤ 1152921500311879680) from by omega)] at HW2
    rw [show decide (Vld ⟨sg, se, sb, sl, ss, sa, sr, sc, sv⟩ n) = false from decide_eq_false (fun h => c6 h.epoch)]
    go_enter Try.func12, Try.ntmps12
    go_wp2_with fail
    refine (HW1.out _).mono ?_
    rintro e w1 ⟨rfl, rfl⟩
    go_wp2_with fail
    refine (HW2.out _).mono ?_
    rintro e w2 ⟨rfl, rfl⟩
    go_wp2
    go_ret
    exact ⟨rfl, (Below.refl _ _).alloc (Nat.le_refl _) _⟩
  by_cases c7 : 1 ≤ ss ∧ ss ≤ 1152921500311879680
  rotate_left
  · have HW1 := Lib.hid (rn_upTo sg 1)
    rw [decide_eq_true (show 1 ≤ sg ∧ sg ≤ 1152921500311879680 from by omega)] at HW1
    have HW2 := Lib.hid (rn_upTo se 1)
    rw [decide_eq_true (show 1 ≤ se ∧ se ≤ 1152921500311879680 from by omega)] at HW2
    have HW3 := Lib.hid (rn_upTo ss 1)
    rw [decide_eq_false (show ¬ (1 ≤ ss ∧ ss ≤ 1152921500311879680) from by omega)] at HW3
    rw [show decide (Vld ⟨sg, se, sb, sl, ss, sa, sr, sc, sv⟩ n) = false from decide_eq_false (fun h => c7 h.stamp)]
    go_enter Try.func12, Try.ntmps12
    go_wp2_with fail
    refine (HW1.out _).mono ?_
    rintro e w1 ⟨rfl, rfl⟩
    go_wp2_with fail
    refine (HW2.out _).mono ?_
    rintro e w2 ⟨rfl, rfl⟩
    go_wp2_with fail
    refine (HW3.out _).mono ?_
    rintro e w3 ⟨rfl, rfl⟩
    go_wp2
    go_ret
    exact ⟨rfl, (Below.refl _ _).alloc (Nat.le_refl _) _⟩
  by_cases c8 : 0 ≤ sv ∧ sv ≤ 1152921500311879680
  rotate_left
  · have HW1 := Lib.hid (rn_upTo sg 1)
    rw [decide_eq_true (show 1 ≤ sg ∧ sg ≤ 1152921500311879680 from by omega)] at HW1
    have HW2 := Lib.hid (rn_upTo se 1)
    rw [decide_eq_true (show 1 ≤ se ∧ se ≤ 1152921500311879680 from by omega)] at HW2
    have HW3 := Lib.hid (rn_upTo ss 1)
    rw [decide_eq_true (show 1 ≤ ss ∧ ss ≤ 1152921500311879680 from by omega)] at HW3
    have HW4 := Lib.hid (rn_upTo sv 0)
    rw [decide_eq_false (show ¬ (0 ≤ sv ∧ sv ≤ 1152921500311879680) from by omega)] at HW4
    rw [show decide (Vld ⟨sg, se, sb, sl, ss, sa, sr, sc, sv⟩ n) = false from decide_eq_false (fun h => c8 h.version)]
    go_enter Try.func12, Try.ntmps12
    go_wp2_with fail
    refine (HW1.out _).mono ?_
    rintro e w1 ⟨rfl, rfl⟩
    go_wp2_with fail
    refine (HW2.out _).mono ?_
    rintro e w2 ⟨rfl, rfl⟩
    go_wp2_with fail
    refine (HW3.out _).mono ?_
    rintro e w3 ⟨rfl, rfl⟩
    go_wp2_with fail
    refine (HW4.out _).mono ?_
    rintro e w4 ⟨rfl, rfl⟩
    go_wp2
    go_ret
    exact ⟨rfl, (Below.refl _ _).alloc (Nat.le_refl _) _⟩
  have l1 := Int.emod_nonneg (ss - 1) (show sl ≠ 0 by omega)
  have l2 := Int.emod_lt_of_pos (ss - 1) (show 0 < sl by omega)
  have l3 : (ss - 1).tmod sl = (ss - 1) % sl := Int.tmod_eq_emod_of_nonneg (by omega)
  have l4 : (0 : Int) ≤ ss - 1 ∧ ss - 1 < 1152921500311879680 := by omega
  have l5 : ¬ sl = 0 := by omega
  have l6 : IntKind.i64.wrap (ss - 1) = ss - 1 := by simp [IntKind.wrap, IntKind.bits, IntKind.signed]; omega
  obtain ⟨m, hm⟩ : ∃ m, m = (ss - 1) % sl := ⟨_, rfl⟩
  rw [← hm] at l1 l2 l3
  have HM := Lib.hid hm
  clear hm
  by_cases c9 : sa = m
  rotate_left
  · have q9 : (sa != m) = true := by simp [c9]
    have HW1 := Lib.hid (rn_upTo sg 1)
    rw [decide_eq_true (show 1 ≤ sg ∧ sg ≤ 1152921500311879680 from by omega)] at HW1
    have HW2 := Lib.hid (rn_upTo se 1)
    rw [decide_eq_true (show 1 ≤ se ∧ se ≤ 1152921500311879680 from by omega)] at HW2
    have HW3 := Lib.hid (rn_upTo ss 1)
    rw [decide_eq_true (show 1 ≤ ss ∧ ss ≤ 1152921500311879680 from by omega)] at HW3
    have HW4 := Lib.hid (rn_upTo sv 0)
    rw [decide_eq_true (show 0 ≤ sv ∧ sv ≤ 1152921500311879680 from by omega)] at HW4
    rw [show decide (Vld ⟨sg, se, sb, sl, ss, sa, sr, sc, sv⟩ n) = false from decide_eq_false (fun h => c9 (h.at_.trans HM.out.symm))]
    go_enter Try.func12, Try.ntmps12
    go_wp2_with fail
    refine (HW1.out _).mono ?_
    rintro e w1 ⟨rfl, rfl⟩
    go_wp2_with fail
    refine (HW2.out _).mono ?_
    rintro e w2 ⟨rfl, rfl⟩
    go_wp2_with fail
    refine (HW3.out _).mono ?_
    rintro e w3 ⟨rfl, rfl⟩
    go_wp2_with fail
    refine (HW4.out _).mono ?_
    rintro e w4 ⟨rfl, rfl⟩
    go_wp2_with fail
    go_quiet (fail)
    all_goals go_wp2
    go_ret
    exact ⟨rfl, (by first | exact below_drewN ((Below.refl _ _).alloc (Nat.le_refl _) _) 1 | exact below_drewN ((Below.refl _ _).alloc (Nat.le_refl _) _) _ | exact (Below.refl _ _).alloc (Nat.le_refl _) _)⟩
  have q9 : (sa != m) = false := by simp [c9]
  by_cases c10 : sr = 0
  · have q10 : (sr == 0) = true := by simp [c10]
    by_cases c11 : sc = 0
    · have HW1 := Lib.hid (rn_upTo sg 1)
      rw [decide_eq_true (show 1 ≤ sg ∧ sg ≤ 1152921500311879680 from by omega)] at HW1
      have HW2 := Lib.hid (rn_upTo se 1)
      rw [decide_eq_true (show 1 ≤ se ∧ se ≤ 1152921500311879680 from by omega)] at HW2
      have HW3 := Lib.hid (rn_upTo ss 1)
      rw [decide_eq_true (show 1 ≤ ss ∧ ss ≤ 1152921500311879680 from by omega)] at HW3
      have HW4 := Lib.hid (rn_upTo sv 0)
      rw [decide_eq_true (show 0 ≤ sv ∧ sv ≤ 1152921500311879680 from by omega)] at HW4
      rw [show decide (Vld ⟨sg, se, sb, sl, ss, sa, sr, sc, sv⟩ n) = true from decide_eq_true ⟨c1, c2.1, c2.2, c3, c4, c5, c6, c7, c8, c9.trans HM.out, .inl ⟨c10, c11⟩⟩]
      go_enter Try.func12, Try.ntmps12
      go_wp2_with fail
      refine (HW1.out _).mono ?_
      rintro e w1 ⟨rfl, rfl⟩
      go_wp2_with fail
      refine (HW2.out _).mono ?_
      rintro e w2 ⟨rfl, rfl⟩
      go_wp2_with fail
      refine (HW3.out _).mono ?_
      rintro e w3 ⟨rfl, rfl⟩
      go_wp2_with fail
      refine (HW4.out _).mono ?_
      rintro e w4 ⟨rfl, rfl⟩
      go_wp2_with fail
      go_quiet (fail)
      all_goals go_wp2
      go_ret
      exact ⟨by simp [c11], (by first | exact below_drewN ((Below.refl _ _).alloc (Nat.le_refl _) _) 1 | exact below_drewN ((Below.refl _ _).alloc (Nat.le_refl _) _) _ | exact (Below.refl _ _).alloc (Nat.le_refl _) _)⟩
    · have HW1 := Lib.hid (rn_upTo sg 1)
      rw [decide_eq_true (show 1 ≤ sg ∧ sg ≤ 1152921500311879680 from by omega)] at HW1
      have HW2 := Lib.hid (rn_upTo se 1)
      rw [decide_eq_true (show 1 ≤ se ∧ se ≤ 1152921500311879680 from by omega)] at HW2
      have HW3 := Lib.hid (rn_upTo ss 1)
      rw [decide_eq_true (show 1 ≤ ss ∧ ss ≤ 1152921500311879680 from by omega)] at HW3
      have HW4 := Lib.hid (rn_upTo sv 0)
      rw [decide_eq_true (show 0 ≤ sv ∧ sv ≤ 1152921500311879680 from by omega)] at HW4
      rw [show decide (Vld ⟨sg, se, sb, sl, ss, sa, sr, sc, sv⟩ n) = false from decide_eq_false (fun h => (h.root.elim (fun h => c11 h.2) (fun h => by (have h1 : 2 + sl ≤ sr := h.1); omega)))]
      go_enter Try.func12, Try.ntmps12
      go_wp2_with fail
      refine (HW1.out _).mono ?_
      rintro e w1 ⟨rfl, rfl⟩
      go_wp2_with fail
      refine (HW2.out _).mono ?_
      rintro e w2 ⟨rfl, rfl⟩
      go_wp2_with fail
      refine (HW3.out _).mono ?_
      rintro e w3 ⟨rfl, rfl⟩
      go_wp2_with fail
      refine (HW4.out _).mono ?_
      rintro e w4 ⟨rfl, rfl⟩
      go_wp2_with fail
      go_quiet (fail)
      all_goals go_wp2
      go_ret
      exact ⟨by simp [c11], (by first | exact below_drewN ((Below.refl _ _).alloc (Nat.le_refl _) _) 1 | exact below_drewN ((Below.refl _ _).alloc (Nat.le_refl _) _) _ | exact (Below.refl _ _).alloc (Nat.le_refl _) _)⟩
  have q10 : (sr == 0) = false := by simp [c10]
  by_cases c11 : 2 + sl ≤ sr
  rotate_left
  · have HW1 := Lib.hid (rn_upTo sg 1)
    rw [decide_eq_true (show 1 ≤ sg ∧ sg ≤ 1152921500311879680 from by omega)] at HW1
    have HW2 := Lib.hid (rn_upTo se 1)
    rw [decide_eq_true (show 1 ≤ se ∧ se ≤ 1152921500311879680 from by omega)] at HW2
    have HW3 := Lib.hid (rn_upTo ss 1)
    rw [decide_eq_true (show 1 ≤ ss ∧ ss ≤ 1152921500311879680 from by omega)] at HW3
    have HW4 := Lib.hid (rn_upTo sv 0)
    rw [decide_eq_true (show 0 ≤ sv ∧ sv ≤ 1152921500311879680 from by omega)] at HW4
    rw [show decide (Vld ⟨sg, se, sb, sl, ss, sa, sr, sc, sv⟩ n) = false from decide_eq_false (fun h => (h.root.elim (fun h => c10 h.1) (fun h => c11 h.1)))]
    go_enter Try.func12, Try.ntmps12
    go_wp2_with fail
    refine (HW1.out _).mono ?_
    rintro e w1 ⟨rfl, rfl⟩
    go_wp2_with fail
    refine (HW2.out _).mono ?_
    rintro e w2 ⟨rfl, rfl⟩
    go_wp2_with fail
    refine (HW3.out _).mono ?_
    rintro e w3 ⟨rfl, rfl⟩
    go_wp2_with fail
    refine (HW4.out _).mono ?_
    rintro e w4 ⟨rfl, rfl⟩
    go_wp2_with fail
    go_quiet (fail)
    all_goals go_wp2
    go_ret
    exact ⟨by simp [c11], (by first | exact below_drewN ((Below.refl _ _).alloc (Nat.le_refl _) _) 1 | exact below_drewN ((Below.refl _ _).alloc (Nat.le_refl _) _) _ | exact (Below.refl _ _).alloc (Nat.le_refl _) _)⟩
  by_cases c13 : sr < n
  rotate_left
  · have HW1 := Lib.hid (rn_upTo sg 1)
    rw [decide_eq_true (show 1 ≤ sg ∧ sg ≤ 1152921500311879680 from by omega)] at HW1
    have HW2 := Lib.hid (rn_upTo se 1)
    rw [decide_eq_true (show 1 ≤ se ∧ se ≤ 1152921500311879680 from by omega)] at HW2
    have HW3 := Lib.hid (rn_upTo ss 1)
    rw [decide_eq_true (show 1 ≤ ss ∧ ss ≤ 1152921500311879680 from by omega)] at HW3
    have HW4 := Lib.hid (rn_upTo sv 0)
    rw [decide_eq_true (show 0 ≤ sv ∧ sv ≤ 1152921500311879680 from by omega)] at HW4
    rw [show decide (Vld ⟨sg, se, sb, sl, ss, sa, sr, sc, sv⟩ n) = false from decide_eq_false (fun h => (h.root.elim (fun h => c10 h.1) (fun h => c13 (by (have h1 : sr ≤ n - 1 := h.2.1); omega))))]
    go_enter Try.func12, Try.ntmps12
    go_wp2_with fail
    refine (HW1.out _).mono ?_
    rintro e w1 ⟨rfl, rfl⟩
    go_wp2_with fail
    refine (HW2.out _).mono ?_
    rintro e w2 ⟨rfl, rfl⟩
    go_wp2_with fail
    refine (HW3.out _).mono ?_
    rintro e w3 ⟨rfl, rfl⟩
    go_wp2_with fail
    refine (HW4.out _).mono ?_
    rintro e w4 ⟨rfl, rfl⟩
    go_wp2_with fail
    go_quiet (fail)
    all_goals go_wp2
    go_ret
    exact ⟨by simp [c13], (by first | exact below_drewN ((Below.refl _ _).alloc (Nat.le_refl _) _) 1 | exact below_drewN ((Below.refl _ _).alloc (Nat.le_refl _) _) _ | exact (Below.refl _ _).alloc (Nat.le_refl _) _)⟩
  by_cases c12 : 1 ≤ sc ∧ sc ≤ 1152921500311879680
  rotate_left
  · have HW1 := Lib.hid (rn_upTo sg 1)
    rw [decide_eq_true (show 1 ≤ sg ∧ sg ≤ 1152921500311879680 from by omega)] at HW1
    have HW2 := Lib.hid (rn_upTo se 1)
    rw [decide_eq_true (show 1 ≤ se ∧ se ≤ 1152921500311879680 from by omega)] at HW2
    have HW3 := Lib.hid (rn_upTo ss 1)
    rw [decide_eq_true (show 1 ≤ ss ∧ ss ≤ 1152921500311879680 from by omega)] at HW3
    have HW4 := Lib.hid (rn_upTo sv 0)
    rw [decide_eq_true (show 0 ≤ sv ∧ sv ≤ 1152921500311879680 from by omega)] at HW4
    have HW5 := Lib.hid (rn_upTo sc 1)
    rw [decide_eq_false (show ¬ (1 ≤ sc ∧ sc ≤ 1152921500311879680) from by omega)] at HW5
    rw [show decide (Vld ⟨sg, se, sb, sl, ss, sa, sr, sc, sv⟩ n) = false from decide_eq_false (fun h => (h.root.elim (fun h => c10 h.1) (fun h => c12 ⟨h.2.2.1, h.2.2.2⟩)))]
    go_enter Try.func12, Try.ntmps12
    go_wp2_with fail
    refine (HW1.out _).mono ?_
    rintro e w1 ⟨rfl, rfl⟩
    go_wp2_with fail
    refine (HW2.out _).mono ?_
    rintro e w2 ⟨rfl, rfl⟩
    go_wp2_with fail
    refine (HW3.out _).mono ?_
    rintro e w3 ⟨rfl, rfl⟩
    go_wp2_with fail
    refine (HW4.out _).mono ?_
    rintro e w4 ⟨rfl, rfl⟩
    go_wp2_with fail
    go_quiet (fail)
    go_wp2_with fail
    refine (HW5.out _).mono ?_
    rintro e w5 ⟨rfl, rfl⟩
    all_goals go_wp2
    go_ret
    exact ⟨rfl, (by first | exact below_drewN ((Below.refl _ _).alloc (Nat.le_refl _) _) 1 | exact below_drewN ((Below.refl _ _).alloc (Nat.le_refl _) _) _ | exact (Below.refl _ _).alloc (Nat.le_refl _) _)⟩
  have HW1 := Lib.hid (rn_upTo sg 1)
  rw [decide_eq_true (show 1 ≤ sg ∧ sg ≤ 1152921500311879680 from by omega)] at HW1
  have HW2 := Lib.hid (rn_upTo se 1)
  rw [decide_eq_true (show 1 ≤ se ∧ se ≤ 1152921500311879680 from by omega)] at HW2
  have HW3 := Lib.hid (rn_upTo ss 1)
  rw [decide_eq_true (show 1 ≤ ss ∧ ss ≤ 1152921500311879680 from by omega)] at HW3
  have HW4 := Lib.hid (rn_upTo sv 0)
  rw [decide_eq_true (show 0 ≤ sv ∧ sv ≤ 1152921500311879680 from by omega)] at HW4
  have HW5 := Lib.hid (rn_upTo sc 1)
  rw [decide_eq_true (show 1 ≤ sc ∧ sc ≤ 1152921500311879680 from by omega)] at HW5
  rw [show decide (Vld ⟨sg, se, sb, sl, ss, sa, sr, sc, sv⟩ n) = true from decide_eq_true ⟨c1, c2.1, c2.2, c3, c4, c5, c6, c7, c8, c9.trans HM.out, .inr ⟨c11, (show sr ≤ n - 1 by omega), c12.1, c12.2⟩⟩]
  go_enter Try.func12, Try.ntmps12
  go_wp2_with fail
  refine (HW1.out _).mono ?_
  rintro e w1 ⟨rfl, rfl⟩
  go_wp2_with fail
  refine (HW2.out _).mono ?_
  rintro e w2 ⟨rfl, rfl⟩
  go_wp2_with fail
  refine (HW3.out _).mono ?_
  rintro e w3 ⟨rfl, rfl⟩
  go_wp2_with fail
  refine (HW4.out _).mono ?_
  rintro e w4 ⟨rfl, rfl⟩
  go_wp2_with fail
  go_quiet (fail)
  go_wp2_with fail
  refine (HW5.out _).mono ?_
  rintro e w5 ⟨rfl, rfl⟩
  all_goals go_wp2
  go_ret
  exact ⟨rfl, (by first | exact below_drewN ((Below.refl _ _).alloc (Nat.le_refl _) _) 1 | exact below_drewN ((Below.refl _ _).alloc (Nat.le_refl _) _) _ | exact (Below.refl _ _).alloc (Nat.le_refl _) _)⟩
end Go.Proofs.Ytggoaelbglhehaa
/- Numbers read from a block's bytes: got, of the program and of the reference; the list of fields. -/
set_option linter.unusedVariables false
set_option linter.unusedSimpArgs false
set_option maxRecDepth 100000
namespace Go.Proofs.Ytggoaelbglhehaa
open Go.RowKit
theorem i64_wrap_def (n : Int) : IntKind.i64.wrap n = if n % 18446744073709551616 ≥ 9223372036854775808 then n % 18446744073709551616 - 18446744073709551616 else n % 18446744073709551616 := by
  simp [IntKind.wrap, IntKind.bits, IntKind.signed]
theorem i64_wrap_mod (n : Int) : IntKind.i64.wrap n % 18446744073709551616 = n % 18446744073709551616 := by
  rw [i64_wrap_def]; split <;> omega
theorem i64_wrap_congr {a b : Int} (h : a % 18446744073709551616 = b % 18446744073709551616) : IntKind.i64.wrap a = IntKind.i64.wrap b := by
  rw [i64_wrap_def, i64_wrap_def, h]
theorem wrap64_mod (n : Int) : wrap64 n % 18446744073709551616 = n % 18446744073709551616 := by
  unfold wrap64; omega
theorem or_apart' (i a d : Nat) (ha : a < 2 ^ i) : (a ||| (d * 2 ^ i)) = a + d * 2 ^ i := by
  rw [Nat.mul_comm d, Nat.or_comm, ← Nat.two_pow_add_eq_or_of_lt ha]
  omega
theorem i64_or (p q : Int) (a b : Nat) (hp : p % 18446744073709551616 = (a : Int)) (hq : q % 18446744073709551616 = (b : Int)) : bits .or .i64 p q = IntKind.i64.wrap ((a ||| b : Nat) : Int) := by
  show IntKind.i64.wrap ((BitVec.ofInt 64 p ||| BitVec.ofInt 64 q).toNat : Nat) = _
  rw [BitVec.toNat_or, BitVec.toNat_ofInt, BitVec.toNat_ofInt]
  have e1 : (p % ((2 ^ 64 : Nat) : Int)).toNat = a := by omega
  have e2 : (q % ((2 ^ 64 : Nat) : Int)).toNat = b := by omega
  rw [e1, e2]
theorem p256 (i : Nat) : 256 ^ i = 2 ^ (8 * i) := by rw [Nat.pow_mul]
/-- one byte more, above the others -/
theorem or_up (a i : Nat) (x : UInt8) (ha : a < 256 ^ i) (hi : i ≤ 7) (q : Int) (hq : q % 18446744073709551616 = ((x.toNat * 256 ^ i : Nat) : Int) % 18446744073709551616) : bits .or .i64 (IntKind.i64.wrap (a : Int)) q = IntKind.i64.wrap ((a + x.toNat * 256 ^ i : Nat) : Int) := by
  have hx := x.toNat_lt
  have h7 : 256 ^ i ≤ 256 ^ 7 := Nat.pow_le_pow_right (by decide) hi
  have h8 : (256 : Nat) ^ 7 = 72057594037927936 := by decide
  have hb : x.toNat * 256 ^ i ≤ 255 * 256 ^ i := Nat.mul_le_mul_right _ (by omega)
  rw [i64_or _ _ a (x.toNat * 256 ^ i) (by rw [i64_wrap_mod]; omega) (by rw [hq]; omega), p256, or_apart' _ _ _ (by rw [← p256]; exact ha)]
/-- one byte more, below the others -/
theorem or_down (V : Nat) (x : UInt8) (hV : V < 256 ^ 7) (p : Int) (hp : p % 18446744073709551616 = ((V * 256 : Nat) : Int) % 18446744073709551616) : bits .or .i64 p (x.toNat : Int) = IntKind.i64.wrap ((x.toNat + 256 * V : Nat) : Int) := by
  have hx := x.toNat_lt
  have h8 : (256 : Nat) ^ 7 = 72057594037927936 := by decide
  rw [i64_or _ _ (V * 256) x.toNat (by rw [hp]; omega) (by omega), Nat.or_comm, show V * 256 = V * 2 ^ 8 from rfl, or_apart' 8 _ _ (by omega)]
  congr 2; omega
theorem leN_append : ∀ (l m : List UInt8), leN (l ++ m) = leN l + 256 ^ l.length * leN m
  | [], m => by simp [leN]
  | x :: r, m => by
    rw [List.cons_append, leN, leN, leN_append r m, List.length_cons, Nat.pow_succ, Nat.mul_add, ← Nat.mul_assoc, Nat.mul_comm 256 (256 ^ r.length)]; omega
theorem leN_take_succ (l : List UInt8) (i : Nat) (h : i < l.length) : leN (l.take (i + 1)) = leN (l.take i) + (l.getD i 0).toNat * 256 ^ i := by
  rw [take_snoc l i 0 h, leN_append, List.length_take, Nat.min_eq_left (by omega)]
  simp only [leN]
  rw [Nat.mul_comm]; simp
theorem leN_drop (l : List UInt8) (i : Nat) (h : i < l.length) : leN (l.drop i) = (l.getD i 0).toNat + 256 * leN (l.drop (i + 1)) := by
  rw [List.drop_eq_getElem_cons h, leN, List.getD_eq_getElem?_getD, List.getElem?_eq_getElem h]; rfl
theorem seg_getD (L : List UInt8) (at_ k i : Nat) (hi : i < k) : (seg L at_ k).getD i 0 = L.getD (at_ + i) 0 := by
  rw [List.getD_eq_getElem?_getD, List.getD_eq_getElem?_getD, seg_get, if_pos hi]
theorem an_got (A : Option Addr) (n c : Nat) (L : List UInt8) (at_ k : Nat) (w : World) (hr : Rd w A n c L) (hk : k ≤ 8) (h : at_ + k ≤ n) (hn : n ≤ 100000) (h0 : 0 < k) :
    Calls Try.prog 46 #[.slice A n c, .int .i64 at_, .int .i64 k] w fun e w' => e = .returned (.int .i64 (getI (seg L at_ k))) ∧ w' = w := by
  obtain ⟨b, o, rfl, hc⟩ := hr.at_ (by omega)
  have hlen := hr.len
  obtain ⟨S, hS⟩ : ∃ S, S = seg L at_ k := ⟨_, rfl⟩
  have hSl : S.length = k := by rw [hS]; exact seg_len L at_ k (by omega)
  have HC := Lib.hid (show ∀ i, i < k → w.cell? ⟨b, o + (at_ + i), none⟩ = some (.int .u8 ((S.getD i 0).toNat : Int)) from fun i hi => by
    rw [hS, seg_getD L at_ k i hi]; exact hc (at_ + i) (by omega))
  rw [← hS]
  clear hS hc hr hlen
  have HSL := Lib.hid hSl
  clear hSl
  go_enter Try.func46, Try.ntmps46
  go_wp2_with fail
  go_loopw [7, 8, 10] (fun v _ x wx => ∃ i : Nat, i ≤ k ∧ x = .int .i64 i ∧ v = .int .i64 (getI (S.take i)) ∧ wx = w) (fun _ _ x _ => k - (intOf x).toNat)
  case atStart => exact ⟨0, by omega, rfl, rfl, rfl⟩
  case round =>
    obtain ⟨i, hi, rfl, rfl, rfl⟩ := hrel
    by_cases hik : i < k
    · have hcell := HC.out i hik
      obtain ⟨x, hx⟩ : ∃ x, x = S.getD i 0 := ⟨_, rfl⟩
      rw [← hx] at hcell
      have hx8 := x.toNat_lt
      have hii : (0 : Int) ≤ (i : Int) ∧ (i : Int) < (k : Int) ∧ (k : Int) ≤ 8 := by omega
      have haa : (0 : Int) ≤ (at_ : Int) ∧ (at_ : Int) + (k : Int) ≤ (n : Int) ∧ (n : Int) ≤ 100000 := by omega
      have HST := Lib.hid (show ∀ q : Int, q % 18446744073709551616 = ((x.toNat * 256 ^ i : Nat) : Int) % 18446744073709551616 → bits .or .i64 (getI (S.take i)) q = getI (S.take (i + 1)) from fun q hq => by
        unfold getI
        rw [leN_take_succ S i (by rw [HSL.out]; exact hik), ← hx]
        refine or_up _ i x ?_ (by omega) q hq
        have h9 := leN_lt (S.take i)
        rwa [List.length_take, HSL.out, Nat.min_eq_left (by omega)] at h9)
      obtain ⟨G, hG⟩ : ∃ G, G = getI (S.take i) := ⟨_, rfl⟩
      rw [← hG] at HST ⊢
      clear hx hG
      go_wp2
      refine ⟨⟨i + 1, by omega, by go_num, ?_, trivial⟩, by simp [intOf]; omega⟩
      rw [HST.out (wrap64 ((x.toNat : Int) * 2 ^ (8 * i))) (by rw [wrap64_mod, p256]; simp)]
    · obtain rfl : i = k := by omega
      have HT := Lib.hid (show S.take i = S from List.take_of_length_le (by rw [HSL.out]; exact Nat.le_refl _))
      rw [HT.out]
      go_wp2
      go_ret
      exact ⟨rfl, rfl⟩
theorem rn_got (A : Option Addr) (n c : Nat) (L : List UInt8) (at_ k : Nat) (w : World) (hr : Rd w A n c L) (hk : k ≤ 8) (h : at_ + k ≤ n) (hn : n ≤ 100000) (h0 : 0 < k) :
    Calls Try.prog 47 #[.slice A n c, .int .i64 at_, .int .i64 k] w fun e w' => e = .returned (.int .i64 (getI (seg L at_ k))) ∧ w' = w := by
  obtain ⟨b, o, rfl, hc⟩ := hr.at_ (by omega)
  have hlen := hr.len
  obtain ⟨S, hS⟩ : ∃ S, S = seg L at_ k := ⟨_, rfl⟩
  have hSl : S.length = k := by rw [hS]; exact seg_len L at_ k (by omega)
  have HC := Lib.hid (show ∀ i, i < k → w.cell? ⟨b, o + (at_ + i), none⟩ = some (.int .u8 ((S.getD i 0).toNat : Int)) from fun i hi => by
    rw [hS, seg_getD L at_ k i hi]; exact hc (at_ + i) (by omega))
  rw [← hS]
  clear hS hc hr hlen
  have HSL := Lib.hid hSl
  clear hSl
  have hkk : (0 : Int) < (k : Int) ∧ (k : Int) ≤ 8 := by omega
  go_enter Try.func47, Try.ntmps47
  go_wp2_with fail
  go_loopw [7, 8] (fun v x wx => ∃ i : Nat, i ≤ k ∧ x = .int .i64 ((i : Int) - 1) ∧ v = .int .i64 (getI (S.drop i)) ∧ wx = w) (fun _ x _ => (intOf x + 1).toNat)
  case atStart => exact ⟨k, by omega, rfl, by rw [List.drop_eq_nil_of_le (by rw [HSL.out]; exact Nat.le_refl _)]; rfl, rfl⟩
  case round =>
    obtain ⟨i, hi, rfl, rfl, rfl⟩ := hrel
    by_cases hik : 0 < i
    · obtain ⟨j, rfl⟩ : ∃ j, i = j + 1 := ⟨i - 1, by omega⟩
      have hcell := HC.out j (by omega)
      obtain ⟨x, hx⟩ : ∃ x, x = S.getD j 0 := ⟨_, rfl⟩
      rw [← hx] at hcell
      have hx8 := x.toNat_lt
      have hjj : (0 : Int) ≤ (j : Int) ∧ (j : Int) < (k : Int) := by omega
      have haa : (0 : Int) ≤ (at_ : Int) ∧ (at_ : Int) + (k : Int) ≤ (n : Int) ∧ (n : Int) ≤ 100000 := by omega
      rw [show (((j + 1 : Nat) : Int) - 1) = (j : Int) by omega]
      have HST := Lib.hid (show ∀ q : Int, q % 18446744073709551616 = ((leN (S.drop (j + 1)) * 256 : Nat) : Int) % 18446744073709551616 → bits .or .i64 q (x.toNat : Int) = getI (S.drop j) from fun q hq => by
        unfold getI
        rw [leN_drop S j (by rw [HSL.out]; omega), ← hx]
        refine or_down _ x ?_ q hq
        have h9 := leN_lt (S.drop (j + 1))
        rw [List.length_drop, HSL.out] at h9
        exact Nat.lt_of_lt_of_le h9 (Nat.pow_le_pow_right (by decide) (by omega)))
      have HG := Lib.hid (show getI (S.drop (j + 1)) % 18446744073709551616 = (leN (S.drop (j + 1)) : Int) % 18446744073709551616 from i64_wrap_mod _)
      obtain ⟨G, hG⟩ : ∃ G, G = getI (S.drop (j + 1)) := ⟨_, rfl⟩
      rw [← hG] at HG ⊢
      clear hx hG hik
      go_wp2
      refine ⟨⟨j, by omega, by go_num, ?_, trivial⟩, by simp [intOf]; try omega⟩
      rw [HST.out _ (by have h9 := HG.out; rw [wrap64_mod]; omega)]
    · obtain rfl : i = 0 := by omega
      rw [show (((0 : Nat) : Int) - 1) = -1 by omega, List.drop_zero]
      go_wp2
      go_ret
      exact ⟨rfl, rfl⟩
/-- a number laid, by the reference -/
theorem rn_put (w0 w : World) (g c k at_ : Nat) (v : Int) (M : List UInt8) (hO : Own w w0.heap.size (.slice (some ⟨g, 0, none⟩) 512 c) 512 M) (hB : Below w0.heap.size w0 w) (hg : w0.heap.size ≤ g) (hk : k ≤ 8) (h : at_ + k ≤ 512) :
    Calls Try.prog 42 #[.slice (some ⟨g, 0, none⟩) 512 c, .int .i64 at_, .int .i64 v, .int .i64 k] w fun e w' => e = .returned (.tuple #[]) ∧ Own w' w0.heap.size (.slice (some ⟨g, 0, none⟩) 512 c) 512 (splice M at_ (leB k v)) ∧ Below w0.heap.size w0 w' := by
  have HO := Lib.hid hO
  have HML := Lib.hid hO.len
  have HB := Lib.hid hB
  obtain ⟨X, hX⟩ : ∃ X, X = leB k v := ⟨_, rfl⟩
  have HXL := Lib.hid (show X.length = k by rw [hX, leB_len])
  have HXV := Lib.hid (show ∀ i, i < k → (v / 2 ^ (8 * i)) % 256 = ((X.getD i 0).toNat : Int) from fun i hi => by
    rw [hX, leB_get k v i hi, UInt8.toNat_ofNat', p256]
    rw [show ((2 ^ (8 * i) : Nat) : Int) = (2 : Int) ^ (8 * i) from Int.natCast_pow 2 _]
    omega)
  rw [← hX]
  clear hX hO hB
  have hkk : (0 : Int) ≤ (k : Int) ∧ (k : Int) ≤ 8 ∧ (0 : Int) ≤ (at_ : Int) ∧ (at_ : Int) + (k : Int) ≤ 512 := by omega
  go_enter Try.func42, Try.ntmps42
  go_wp2_with fail
  go_loopw [8] (fun x wx => ∃ i : Nat, i ≤ k ∧ x = .int .i64 i ∧ Own wx w0.heap.size (.slice (some ⟨g, 0, none⟩) 512 c) 512 (splice M at_ (X.take i)) ∧ Below w0.heap.size w0 wx) (fun x _ => k - (intOf x).toNat)
  case atStart => exact ⟨0, by omega, rfl, by rw [List.take_zero, spl_nil]; exact HO.out, HB.out⟩
  case round =>
    obtain ⟨i, hi, rfl, hOi, hBi⟩ := hrel
    have HOi := Lib.hid hOi
    have HBi := Lib.hid hBi
    by_cases hik : i < k
    · have hcell := hOi.cell (at_ + i) (by omega)
      have hfree := hOi.free (at_ + i)
      obtain ⟨y, hy⟩ : ∃ y, y = (splice M at_ (X.take i)).getD (at_ + i) 0 := ⟨_, rfl⟩
      rw [← hy] at hcell
      have hii : (0 : Int) ≤ (i : Int) ∧ (i : Int) < (k : Int) := by omega
      have hxv := HXV.out i hik
      obtain ⟨x, hx⟩ : ∃ x, x = X.getD i 0 := ⟨_, rfl⟩
      rw [← hx] at hxv
      have hst := hOi.store (at_ + i) x
      rw [hx, spl_step M X at_ i 0 (by rw [HXL.out, HML.out]; omega) (by rw [HXL.out]; omega), ← hx] at hst
      have HST := Lib.hid hst
      clear hOi hBi hy hx hst
      go_wp2
      exact ⟨⟨i + 1, by omega, by go_num, HST.out, HBi.out.setCell hg _⟩, by simp [intOf]; omega⟩
    · obtain rfl : i = k := by omega
      have HT := Lib.hid (show X.take i = X from List.take_of_length_le (by rw [HXL.out]; exact Nat.le_refl _))
      rw [HT.out] at HOi
      clear hOi hBi
      go_wp2
      go_end0
      exact ⟨rfl, HOi.out, HBi.out⟩
def fldA (s : Sp) : Array Value := ((flds s).flatMap fun f => [.int .i64 (f.1 : Nat), .int .i64 (f.2.1 : Nat), .int .i64 f.2.2]).toArray
theorem an_fields (s : Sp) (w : World) : Calls Try.prog 39 #[.agg (spC s)] w fun e w' => ∃ g, e = .returned (.slice (some ⟨g, 0, none⟩) 11 11) ∧ w.heap.size ≤ g ∧ Below w.heap.size w w' ∧ w'.heap[g]? = some (.cells (fldA s) 76) := by
  obtain ⟨sg, se, sb, sl, ss, sa, sr, sc, sv⟩ := s
  unfold spC
  dsimp only
  go_enter Try.func39, Try.ntmps39
  go_wp2
  go_ret
  refine ⟨w.heap.size + 1, rfl, by omega, ((Below.refl _ w).alloc (Nat.le_refl _) _).alloc (by rw [World.size_alloc]; omega) _, ?_⟩
  have h9 := heap_alloc_new (w.alloc (.cells #[.int .i64 sg, .int .i64 se, .int .i64 sb, .int .i64 sl, .int .i64 ss, .int .i64 sa, .int .i64 sr, .int .i64 sc, .int .i64 sv] 25)) (.cells (fldA ⟨sg, se, sb, sl, ss, sa, sr, sc, sv⟩) 76)
  rw [World.size_alloc] at h9
  exact h9
theorem flat3_get {α : Type} (f0 f1 f2 : α → Value) (d : α) : ∀ (l : List α) (i : Nat), i < l.length → (l.flatMap fun x => [f0 x, f1 x, f2 x])[i * 3]? = some (f0 (l.getD i d)) ∧ (l.flatMap fun x => [f0 x, f1 x, f2 x])[i * 3 + 1]? = some (f1 (l.getD i d)) ∧ (l.flatMap fun x => [f0 x, f1 x, f2 x])[i * 3 + 2]? = some (f2 (l.getD i d))
  | [], i, h => by simp at h
  | x :: r, 0, _ => ⟨rfl, rfl, rfl⟩
  | x :: r, i + 1, h => by
    have ih := flat3_get f0 f1 f2 d r i (by simpa using h)
    rw [List.flatMap_cons, show (i + 1) * 3 = i * 3 + 1 + 1 + 1 by omega]
    simpa using ih
theorem fld_cells {W : World} {g : Nat} {s : Sp} (h : W.heap[g]? = some (.cells (fldA s) 76)) (i : Nat) (hi : i < 11) : W.cell? ⟨g, i * 3, none⟩ = some (.int .i64 (((flds s).getD i (0, 0, 0)).1 : Nat)) ∧ W.cell? ⟨g, i * 3 + 1, none⟩ = some (.int .i64 (((flds s).getD i (0, 0, 0)).2.1 : Nat)) ∧ W.cell? ⟨g, i * 3 + 2, none⟩ = some (.int .i64 ((flds s).getD i (0, 0, 0)).2.2) := by
  have h3 := flat3_get (fun f : Nat × Nat × Int => .int .i64 (f.1 : Nat)) (fun f => .int .i64 (f.2.1 : Nat)) (fun f => .int .i64 f.2.2) (0, 0, 0) (flds s) i (by simpa [flds] using hi)
  have hc : ∀ j, W.cell? ⟨g, j, none⟩ = ((flds s).flatMap fun f => [Value.int .i64 (f.1 : Nat), .int .i64 (f.2.1 : Nat), .int .i64 f.2.2])[j]? := fun j => by
    rw [cell_of_row W g j _ _ _ h]; simp [fldA]
  rw [hc, hc, hc]
  exact h3
end Go.Proofs.Ytggoaelbglhehaa
