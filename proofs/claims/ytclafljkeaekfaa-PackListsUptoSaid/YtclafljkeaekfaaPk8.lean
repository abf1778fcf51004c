/- The walk of counts: a number's form is told to be its groups. -/
import Derived.Test.YtclafljkeaekfaaPk7
set_option linter.unusedVariables false
set_option linter.unusedSimpArgs false
set_option maxRecDepth 100000
namespace Go.Proofs.Ytclafljkeaekfaa
open Go.RowKit
set_option maxHeartbeats 2000000 in
theorem l2_counts (v : Nat) (hv : v < 2 ^ 64) (A : Option Addr) (n c : Nat) (hn : n = (nf v).length) (w : World) (hr : Rd w A n c (nf v)) :
    Calls Try.prog 17 #[.slice A n c, .int .u64 v] w fun e w' => e = .returned (.bool true) ∧ w' = w := by
  have HD := Lib.hid (nf_dig v hv)
  have hp := nf_length_pos v
  have hl := nf_length_le v
  rw [← hn] at HD hp hl
  obtain ⟨bb, oo, rfl, hc⟩ := hr.at_ (by omega)
  have HC := Lib.hid hc
  have HV := Lib.hid hv
  clear hr hc hv hn
  have hlast := HC.out (n - 1) (by omega)
  have hld := HD.out.1 (n - 1) (by omega)
  rw [if_neg (by omega), Nat.add_zero] at hld
  obtain ⟨z, hz⟩ : ∃ z, z = (nf v).getD (n - 1) 0 := ⟨_, rfl⟩
  rw [← hz] at hlast hld
  have hz128 : ¬ (128 : Int) ≤ (z.toNat : Int) := by omega
  have hn1 : (n : Int) - 1 = ((n - 1 : Nat) : Int) := by omega
  obtain ⟨m, hm⟩ : ∃ m, m = n - 1 := ⟨_, rfl⟩
  have hz0 : 1 < n → ((z.toNat : Int) == 0) = false := fun h => by
    have h1 := HD.out.2.2 h
    have h2 := HD.out.2.1
    rw [← hm] at h1 hld
    have h3 : v / 128 ^ m < 128 := by
      rw [show n = m + 1 by omega, Nat.pow_succ, ← Nat.div_div_eq_div_mul] at h2
      omega
    have : z.toNat = v / 128 ^ m := by omega
    simp; omega
  rw [← hm] at hlast hn1
  have hmn : m < n := by omega
  have HM := Lib.hid hm
  have HZ := Lib.hid hz0
  clear hld hz hm hz0
  have hne : ((n : Int) == 0) = false := by simp; omega
  have hcase : ((1 : Int) < (n : Int) ∧ ((z.toNat : Int) == 0) = false) ∨ ¬ (1 : Int) < (n : Int) := by
    by_cases h1 : 1 < n
    · exact .inl ⟨by omega, HZ.out h1⟩
    · exact .inr (by omega)
  rcases hcase with ⟨h1, h2⟩ | h1
  all_goals (
    go_enter Try.func17, Try.ntmps17
    go_wp2_with fail
    go_loopw [1, 6] (fun x ix wr => ∃ i y : Nat, i ≤ n ∧ ix = .int .i64 i ∧ x = .int .u64 y ∧ y = v / 128 ^ i ∧ wr = w) (fun _ x _ => n - (intOf x).toNat)
    case atStart => exact ⟨0, v, by omega, rfl, rfl, by simp, rfl⟩
    case round =>
      obtain ⟨i, y, hi, rfl, rfl, hy, rfl⟩ := hrel
      have HY := Lib.hid hy
      clear hy
      by_cases hin : i < n
      · obtain ⟨x, hx⟩ : ∃ x, x = (nf v).getD i 0 := ⟨_, rfl⟩
        have hcx := HC.out i hin
        have hdx := HD.out.1 i hin
        rw [← hx] at hcx hdx
        rw [← HY.out] at hdx
        obtain ⟨r, hr⟩ : ∃ r, r = y % 128 := ⟨_, rfl⟩
        have ha1 := u8_and127 x
        have ha2 := u64_and127 y
        have hxr : x.toNat % 128 = r := by
          rw [hdx, ← hr]
          split <;> omega
        rw [hxr] at ha1
        rw [← hr] at ha2
        have hrw : IntKind.u64.wrap (r : Int) = (r : Int) := IntWalk.u64_in _ (by omega)
        have hnx : y / 128 = v / 128 ^ (i + 1) := by rw [HY.out, Nat.div_div_eq_div_mul, Nat.pow_succ]
        have HNX := Lib.hid hnx
        have ht : ((i : Int) < (m : Int) ∧ (128 : Int) ≤ (x.toNat : Int)) ∨ (¬ (i : Int) < (m : Int) ∧ ¬ (128 : Int) ≤ (x.toNat : Int)) := by
          have hx8 := x.toNat_lt
          by_cases h : i + 1 < n
          · rw [if_pos h] at hdx
            exact .inl (by omega)
          · rw [if_neg h] at hdx
            exact .inr (by omega)
        clear hx hdx hr hxr hnx
        rcases ht with ⟨ht1, ht2⟩ | ⟨ht1, ht2⟩
        · go_wp2
          go_roundw
          case rel => exact ⟨i + 1, y / 128, by omega, by go_num, by go_num, HNX.out, trivial⟩
          case measure => simp [intOf]; omega
        · go_wp2
          go_roundw
          case rel => exact ⟨i + 1, y / 128, by omega, by go_num, by go_num, HNX.out, trivial⟩
          case measure => simp [intOf]; omega
      obtain rfl : n = i := by omega
      have hy0 : y = 0 := by rw [HY.out]; exact HD.out.2.1
      subst hy0
      go_wp2
      go_ret
      exact ⟨by simp, rfl⟩)
end Go.Proofs.Ytclafljkeaekfaa
