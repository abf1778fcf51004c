/- The walk of open. -/
import Derived.Test.YtodondpggkohjaaSpL2
import Derived.Laws.Bits128
set_option linter.unusedVariables false
set_option linter.unusedSimpArgs false
namespace Go.Proofs.Ytodondpggkohjaa
open Go.RowKit
/-- a space just made: m blocks from 2 on, each free or old -/
def OpenPost (w : World) (e : Ending) (w' : World) : Prop :=
  ∃ b g m : Nat, ∃ is : List Int, e = .returned (.tuple #[.pointer (some ⟨b, 0, none⟩), .int .i64 m]) ∧ IsSp w' b g 2 is ∧ is.length = m ∧ 1 ≤ m ∧ m ≤ 64 ∧ (∀ x ∈ is, x = 0 ∨ x = 2) ∧ w.heap.size ≤ b ∧ w.heap.size ≤ g ∧ Below w.heap.size w w'
theorem and63 (n : Int) : bits .and .i64 n 63 = n % 64 := by
  have h63 : (BitVec.ofInt 64 63).toNat = 2 ^ 6 - 1 := by decide
  have key : (BitVec.ofInt 64 n &&& BitVec.ofInt 64 63).toNat = (n % ((2 ^ 64 : Nat) : Int)).toNat % 2 ^ 6 := by
    rw [BitVec.toNat_and, BitVec.toNat_ofInt, h63, Nat.and_two_pow_sub_one_eq_mod]
  show IntKind.i64.wrap ((BitVec.ofInt 64 n &&& BitVec.ofInt 64 63).toNat : Nat) = n % 64
  rw [key, IntKind.wrap_i64]
  omega
/-- the states that open's marks say -/
theorem l8_open (x : Int) (hx : -9223372036854775808 ≤ x ∧ x < 9223372036854775808) (A : Option Addr) (n c : Nat) (l : List Bool) (w : World) (hr : RdB w A n c l) :
    Calls Try.prog 8 #[.int .i64 x, .slice A n c] w (OpenPost w) := by
  have hmx := hr.max
  have HR := Lib.hid hr
  clear hr
  obtain ⟨m0, hm0⟩ : ∃ m0 : Nat, x % 64 = m0 := ⟨(x % 64).toNat, by omega⟩
  have h64 : m0 ≤ 63 := by omega
  have hb := (and63 x).trans hm0
  obtain ⟨m, hm⟩ : ∃ m : Nat, (m0 : Int) + 1 = m := ⟨m0 + 1, by omega⟩
  have hm1 : 1 ≤ m := by omega
  have hm64 : m ≤ 64 := by omega
  clear hm0
  go_enter Try.func8, Try.ntmps8
  go_wp2_with fail
  go_loopw [6, 7] (fun v x wr => ∃ k q : Nat, k ≤ m ∧ k ≤ n ∧ x = .int .i64 k ∧ q ≤ k ∧ q = (sel p1 2 (mi l) k).length ∧ OwnI wr w.heap.size v q (sel p1 2 (mi l) k) ∧ Below w.heap.size w wr) (fun _ x _ => n - (intOf x).toNat)
  case atStart => exact ⟨0, 0, by omega, by omega, rfl, by omega, rfl, OwnI.nil _ _, Below.refl _ _⟩
  case round =>
    obtain ⟨k, q, hk, hkn, rfl, hqk, hq, hO, hB⟩ := hrel
    have HO := Lib.hid hO
    have HQ := Lib.hid hq
    clear hO hq
    have hz := hB.size
    by_cases hgo : k < m ∧ k < n
    · obtain ⟨hg1, hg2⟩ := hgo
      obtain ⟨b0, o, rfl, hc⟩ := HR.out.at_ (by omega)
      have hcell := cell_ext hB (hc k hg2)
      have hsel : sel p1 2 (mi l) (k + 1) = if p1 ((mi l).getD k 0) then sel p1 2 (mi l) k ++ [((2 + k : Nat) : Int)] else sel p1 2 (mi l) k := rfl
      rw [mi_get] at hsel
      have HC := Lib.hid hc
      clear hc
      generalize l.getD k false = y at *
      cases y
      · rw [show p1 (if false = true then 1 else 0) = false by decide] at hsel
        have HS := Lib.hid hsel
        clear hsel
        go_wp2
        exact ⟨⟨k + 1, q, by omega, by omega, by go_num, by omega, by rw [HS.out]; exact HQ.out, by rw [HS.out]; exact HO.out, hB⟩, by simp [intOf]; omega⟩
      · rw [show p1 (if true = true then 1 else 0) = true by decide] at hsel
        have HS := Lib.hid hsel
        clear hsel
        obtain ⟨k2, hk2⟩ : ∃ k2 : Nat, 2 + (k : Int) = k2 := ⟨2 + k, by omega⟩
        have hk2' : k2 = 2 + k := by omega
        have HK2 := Lib.hid hk2'
        clear hk2'
        go_wp2_with (at_builtin; refine wp_appI1 (w0 := w) w.heap.size _ HO.out hB hz (by omega) _ _ rfl rfl rfl rfl ?_; intro v1 w1 hO1 hB1; have HO1 := Lib.hid hO1; clear hO1)
        go_roundw
        case rel => exact ⟨k + 1, q + 1, by omega, by omega, by go_num, by omega, by rw [HS.out]; simp; exact HQ.out, by rw [HS.out, ← HK2.out]; exact HO1.out, hB1⟩
        case measure => simp [intOf]; omega
    · obtain ⟨A9, c9, rfl, hR9⟩ := HO.out.rd [] (by omega) (by simp)
      have H9 := Lib.hid hR9
      clear hR9
      have HOK := Lib.hid (sel_ok p1 2 (mi l) k (2 + m) (by omega))
      generalize hL : sel p1 2 (mi l) k = L at *
      clear hL
      obtain ⟨m2, hm2⟩ : ∃ m2 : Nat, 2 + (m : Int) = m2 := ⟨2 + m, by omega⟩
      have hm2' : m2 = 2 + m := by omega
      have HM2 := Lib.hid hm2'
      have HOK2 := Lib.hid (show NewOk 2 m2 L q by rw [hm2', HQ.out]; exact HOK.out)
      have HL2 := Lib.hid (show m2 ≤ 4096 ∧ 2 ≤ m2 by omega)
      clear hm2'
      have hke : decide ((k : Int) < m) = true → decide ((k : Int) < n) = false := by
        intro h; have := of_decide_eq_true h; exact decide_eq_false (by omega)
      by_cases hkm : k < m
      · have hkn' : n = k := by omega
        subst hkn'
        go_wp2_with fail
        refine (sp_New m2 2 HL2.out.1 HL2.out.2 _ q c9 L wr H9.out).mono ?_
        rintro e w1 hp
        obtain ⟨rfl, hI⟩ := hp.1 HOK2.out
        have HI := Lib.hid hI
        have HB1 := Lib.hid (hB.trans (hp.2.2.mono hz))
        clear hp hI
        go_wp2
        go_ret2
        exact ⟨_, _, m, _, rfl, HI.out, by rw [nk_length]; have := HM2.out; omega, by omega, by omega, nk_vals _ _ _ _, by omega, by omega, HB1.out⟩
      · have hkm' : m = k := by omega
        subst hkm'
        go_wp2_with fail
        refine (sp_New m2 2 HL2.out.1 HL2.out.2 _ q c9 L wr H9.out).mono ?_
        rintro e w1 hp
        obtain ⟨rfl, hI⟩ := hp.1 HOK2.out
        have HI := Lib.hid hI
        have HB1 := Lib.hid (hB.trans (hp.2.2.mono hz))
        clear hp hI
        go_wp2
        go_ret2
        exact ⟨_, _, m, _, rfl, HI.out, by rw [nk_length]; have := HM2.out; omega, by omega, by omega, nk_vals _ _ _ _, by omega, by omega, HB1.out⟩
end Go.Proofs.Ytodondpggkohjaa
