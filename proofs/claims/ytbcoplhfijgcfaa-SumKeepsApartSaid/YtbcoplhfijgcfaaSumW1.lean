/- Walks of sum's and the reference's small functions: turned, step, product, times, moved, zeros. For every input. -/
import Derived.Test.YtbcoplhfijgcfaaProg
import Derived.Test.YtbcoplhfijgcfaaSumMath
import Derived.Test.YtbcoplhfijgcfaaW
import Derived.WalkKit
import Derived.KernelRfl
import Derived.RowKit
import Derived.Lib.Hide
set_option linter.unusedVariables false
set_option linter.unusedSimpArgs false
namespace Go.Proofs.Ytbcoplhfijgcfaa
open Go.RowKit SumMath
theorem sum_turned (b : BitVec 32) (w : World) :
    Calls Try.prog 41 #[.int .u32 b.toNat] w fun e w' => e = .returned (.int .u32 (T b).toNat) ∧ w = w' := by
  have h1 := b.isLt
  generalize hx : (b.toNat : Int) = x
  have hl : 0 ≤ x ∧ x < 4294967296 := by omega
  have H := Lib.hid hx; clear hx h1
  obtain ⟨h0, h1⟩ := hl
  go_enter Try.func41, Try.ntmps41
  go_wp2
  · go_ret
    exact ⟨ret_u32 (turned_yes H.out.symm ‹_›), rfl⟩
  · go_ret
    exact ⟨ret_u32 (turned_no H.out.symm ‹_›), rfl⟩
theorem ref_step (b : BitVec 32) (w : World) :
    Calls Try.prog 37 #[.int .u32 b.toNat] w fun e w' => e = .returned (.int .u32 (T b).toNat) ∧ w = w' := by
  have h1 := b.isLt
  generalize hx : (b.toNat : Int) = x
  have hl : 0 ≤ x ∧ x < 4294967296 := by omega
  have H := Lib.hid hx; clear hx h1
  obtain ⟨h0, h1⟩ := hl
  go_enter Try.func37, Try.ntmps37
  go_wp2
  · go_ret
    exact ⟨ret_u32 (step_yes H.out.symm ‹_›), rfl⟩
  · go_ret
    exact ⟨ret_u32 (step_no H.out.symm ‹_›), rfl⟩

theorem Tn_succ' (i : Nat) (b : BitVec 32) : T (Tn i b) = Tn (i + 1) b := T_Tn i b
theorem sum_product (a b : BitVec 32) (w : World) :
    Calls Try.prog 39 #[.int .u32 a.toNat, .int .u32 b.toNat] w fun e w' => e = .returned (.int .u32 (pr a b 32).toNat) ∧ w = w' := by
  have ha := a.isLt
  go_enter Try.func39, Try.ntmps39
  go_wp2
  go_loop [1, 5, 6] (fun v p m => ∃ i : Nat, i ≤ 32 ∧ v = .int .u32 (Tn i b).toNat ∧ p = .int .u32 (pr a b i).toNat ∧ m = .int .u32 (mI i)) (fun _ _ m => (intOf m).toNat)
  case atStart => exact ⟨0, by omega, rfl, rfl, rfl⟩
  case round =>
    obtain ⟨i, hi, rfl, rfl, rfl⟩ := hrel
    by_cases hlt : i < 32
    · have hp := mI_pos i hlt
      have hm := mI_lt i
      have hq : ((mI i : Int) != 0) = true := by rw [bne_iff_ne]; omega
      cases ht : a.getLsbD (31 - i)
      · have hb : (bits .and .u32 (a.toNat : Int) (mI i : Int) != 0) = false := by rw [and_mI a i hlt, ht]
        have HT := Lib.hid ht; clear ht
        go_wp2_with (go_at_call 41; refine (sum_turned _ _).mono ?_; rintro e w' ⟨rfl, rfl⟩)
        refine ⟨⟨i + 1, by omega, iv (by rw [Tn_succ']), iv (pr_no HT.out), iv (by rw [mI_succ]; omega)⟩, by simp [intOf]; omega⟩
      · have hb : (bits .and .u32 (a.toNat : Int) (mI i : Int) != 0) = true := by rw [and_mI a i hlt, ht]
        have HT := Lib.hid ht; clear ht
        go_wp2_with (go_at_call 41; refine (sum_turned _ _).mono ?_; rintro e w' ⟨rfl, rfl⟩)
        refine ⟨⟨i + 1, by omega, iv (by rw [Tn_succ']), iv (pr_yes HT.out), iv (by rw [mI_succ]; omega)⟩, by simp [intOf]; omega⟩
    · obtain rfl : i = 32 := by omega
      have hq : ((mI 32 : Int) != 0) = false := by decide
      go_wp2
      go_ret
      exact ⟨rfl, rfl⟩
theorem ref_times (a b : BitVec 32) (w : World) :
    Calls Try.prog 40 #[.int .u32 a.toNat, .int .u32 b.toNat] w fun e w' => e = .returned (.int .u32 (pr a b 32).toNat) ∧ w = w' := by
  have ha := a.isLt
  go_enter Try.func40, Try.ntmps40
  go_wp2
  go_loop [0, 1, 5, 6] (fun x v p m => ∃ i : Nat, i ≤ 32 ∧ x = .int .u32 (sh a i) ∧ v = .int .u32 (Tn i b).toNat ∧ p = .int .u32 (pr a b i).toNat ∧ m = .int .i64 i) (fun _ _ _ m => 32 - (intOf m).toNat)
  case atStart => exact ⟨0, by omega, by rw [sh_zero], rfl, rfl, rfl⟩
  case round =>
    obtain ⟨i, hi, rfl, rfl, rfl, rfl⟩ := hrel
    have hs := sh_lt a i
    by_cases hlt : i < 32
    · cases ht : a.getLsbD (31 - i)
      · have hb : ¬ (2147483648 ≤ sh a i) := by have := sh_top a i hlt; rw [ht] at this; simpa using this
        have hb2 : decide ((2147483648 : Int) ≤ (sh a i : Int)) = false := by simp; omega
        have HT := Lib.hid ht; clear ht
        go_wp2_with (go_at_call 37; refine (ref_step _ _).mono ?_; rintro e w' ⟨rfl, rfl⟩)
        refine ⟨⟨i + 1, by omega, iv (by rw [sh_succ]; omega), iv (by rw [Tn_succ']), iv (pr_no HT.out), by go_num⟩, by simp [intOf]; omega⟩
      · have hb : (2147483648 ≤ sh a i) := by have := sh_top a i hlt; rw [ht] at this; simpa using this
        have hb2 : decide ((2147483648 : Int) ≤ (sh a i : Int)) = true := by simp; omega
        have HT := Lib.hid ht; clear ht
        go_wp2_with (go_at_call 37; refine (ref_step _ _).mono ?_; rintro e w' ⟨rfl, rfl⟩)
        refine ⟨⟨i + 1, by omega, iv (by rw [sh_succ]; omega), iv (by rw [Tn_succ']), iv (pr_yes HT.out), by go_num⟩, by simp [intOf]; omega⟩
    · obtain rfl : i = 32 := by omega
      go_wp2
      go_ret
      exact ⟨rfl, rfl⟩
theorem i64_and1 (r : Nat) (h : r < 9223372036854775808) : bits .and .i64 (r : Int) 1 = ((r % 2 : Nat) : Int) := by
  have h2 := bits_mask .i64 63 (by decide) (by intro n h0 h1; rw [IntKind.wrap_i64]; omega) 1 (by decide) (r : Int) (by omega) (by omega)
  simp at h2
  rw [h2]; omega
theorem mv_odd {s r n : Nat} {x a : BitVec 32} (h : Tn (s * r) x = Tn (8 * n) a) (ho : r % 2 = 1) : Tn (s * 2 * (r / 2)) (Tn s x) = Tn (8 * n) a := by
  rw [← Tn_add, ← h]; congr 1
  obtain ⟨q, rfl⟩ : ∃ q, r = 2 * q + 1 := ⟨r / 2, by omega⟩
  rw [show (2 * q + 1) / 2 = q by omega, Nat.mul_add, Nat.mul_assoc, Nat.mul_one]
theorem mv_even {s r n : Nat} {x a : BitVec 32} (h : Tn (s * r) x = Tn (8 * n) a) (ho : r % 2 = 0) : Tn (s * 2 * (r / 2)) x = Tn (8 * n) a := by
  rw [← h]; congr 1
  obtain ⟨q, rfl⟩ : ∃ q, r = 2 * q := ⟨r / 2, by omega⟩
  rw [show (2 * q) / 2 = q by omega, Nat.mul_assoc]
theorem pow_sq (s : Nat) : pr (Tn s e0) (Tn s e0) 32 = Tn (s * 2) e0 := by rw [pr_pow, ← Tn_add, Nat.mul_two]
theorem sum_moved (a : BitVec 32) (n : Nat) (hn : n < 9223372036854775808) (w : World) :
    Calls Try.prog 35 #[.int .u32 a.toNat, .int .i64 n] w fun e w' => e = .returned (.int .u32 (Tn (8 * n) a).toNat) ∧ w = w' := by
  go_enter Try.func35, Try.ntmps35
  go_wp2
  go_loop [0, 1, 5] (fun v r p => ∃ (x : BitVec 32) (m s : Nat), m < 9223372036854775808 ∧ v = .int .u32 x.toNat ∧ r = .int .i64 m ∧ p = .int .u32 (Tn s e0).toNat ∧ Tn (s * m) x = Tn (8 * n) a) (fun _ r _ => (intOf r).toNat)
  case atStart => exact ⟨a, n, 8, hn, rfl, rfl, rfl, rfl⟩
  case round =>
    obtain ⟨x, m, s, hm, rfl, rfl, rfl, hs⟩ := hrel
    have HS := Lib.hid hs; clear hs
    by_cases hlt : 0 < m
    · have ha := i64_and1 m hm
      rcases Nat.mod_two_eq_zero_or_one m with ho | ho
      · have hb : (bits .and .i64 (m : Int) 1 == 1) = false := by rw [ha, ho]; rfl
        have HO := Lib.hid ho; clear ho ha
        go_wp2_with (go_at_call 39; refine (sum_product _ _ _).mono ?_; rintro e w' ⟨rfl, rfl⟩)
        refine ⟨⟨x, m / 2, s * 2, by omega, rfl, iv (by omega), iv (by rw [pow_sq]), mv_even HS.out HO.out⟩, by simp [intOf]; omega⟩
      · have hb : (bits .and .i64 (m : Int) 1 == 1) = true := by rw [ha, ho]; rfl
        have HO := Lib.hid ho; clear ho ha
        go_wp2_with (go_at_call 39; refine (sum_product _ _ _).mono ?_; rintro e w' ⟨rfl, rfl⟩)
        refine ⟨⟨Tn s x, m / 2, s * 2, by omega, iv (by rw [pr_pow]), iv (by omega), iv (by rw [pow_sq]), mv_odd HS.out HO.out⟩, by simp [intOf]; omega⟩
    · obtain rfl : m = 0 := by omega
      go_wp2
      go_ret
      exact ⟨ret_u32 (by rw [← HS.out]; rfl), rfl⟩
theorem ref_zeros (a : BitVec 32) (n : Nat) (hn : n < 9223372036854775808) (w : World) :
    Calls Try.prog 36 #[.int .u32 a.toNat, .int .i64 n] w fun e w' => e = .returned (.int .u32 (Tn (8 * n) a).toNat) ∧ w = w' := by
  go_enter Try.func36, Try.ntmps36
  go_wp2
  go_loop [0, 1, 5] (fun v r p => ∃ (x : BitVec 32) (m s : Nat), m < 9223372036854775808 ∧ v = .int .u32 x.toNat ∧ r = .int .i64 m ∧ p = .int .u32 (Tn s e0).toNat ∧ Tn (s * m) x = Tn (8 * n) a) (fun _ r _ => (intOf r).toNat)
  case atStart => exact ⟨a, n, 8, hn, rfl, rfl, rfl, rfl⟩
  case round =>
    obtain ⟨x, m, s, hm, rfl, rfl, rfl, hs⟩ := hrel
    have HS := Lib.hid hs; clear hs
    by_cases hlt : 0 < m
    · rcases Nat.mod_two_eq_zero_or_one m with ho | ho
      · have hb : ((m : Int) % 2 == 1) = false := by simp; omega
        have HO := Lib.hid ho; clear ho
        go_wp2_with (go_at_call 40; refine (ref_times _ _ _).mono ?_; rintro e w' ⟨rfl, rfl⟩)
        refine ⟨⟨x, m / 2, s * 2, by omega, rfl, iv (by omega), iv (by rw [pow_sq]), mv_even HS.out HO.out⟩, by simp [intOf]; omega⟩
      · have hb : ((m : Int) % 2 == 1) = true := by simp; omega
        have HO := Lib.hid ho; clear ho
        go_wp2_with (go_at_call 40; refine (ref_times _ _ _).mono ?_; rintro e w' ⟨rfl, rfl⟩)
        refine ⟨⟨Tn s x, m / 2, s * 2, by omega, iv (by rw [pr_pow]), iv (by omega), iv (by rw [pow_sq]), mv_odd HS.out HO.out⟩, by simp [intOf]; omega⟩
    · obtain rfl : m = 0 := by omega
      go_wp2
      go_ret
      exact ⟨ret_u32 (by rw [← HS.out]; rfl), rfl⟩
end Go.Proofs.Ytbcoplhfijgcfaa
