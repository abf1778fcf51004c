/- The reference's reader: its memory; the number whose form begins a list, told by its digits. -/
import Derived.Test.YtclafljkeaekfaaPkX
import Derived.Test.YtclafljkeaekfaaPk5
set_option linter.unusedVariables false
set_option linter.unusedSimpArgs false
set_option maxRecDepth 100000
namespace Go.Proofs.Ytclafljkeaekfaa
open Go.RowKit
def dg : List UInt8 → Nat
  | [] => 0
  | x :: r => x.toNat % 128 + 128 * dg r
theorem dg_drop : ∀ (i : Nat) (l : List UInt8), dg (l.drop i) ≤ dg l
  | 0, l => by simp
  | i + 1, [] => by simp
  | i + 1, x :: r => by
    have := dg_drop i r
    rw [List.drop_succ_cons, dg]; omega
theorem dg_step (l : List UInt8) (i : Nat) (h : i < l.length) : dg (l.drop i) = (l.getD i 0).toNat % 128 + 128 * dg (l.drop (i + 1)) := by
  rw [drop_cons l i h, dg]
theorem un_run : ∀ (n k : Nat) (l : List UInt8), n < k → n < l.length → (∀ i, i < n → 128 ≤ (l.getD i 0).toNat) → (l.getD n 0).toNat < 128 →
    un k l = if (k - n - 1 < 9 ∧ (l.getD n 0).toNat = 0) ∨ (k - n - 1 = 0 ∧ 1 < (l.getD n 0).toNat) then (21, 0, 0) else (0, dg (l.take (n + 1)), n + 1)
  | n, 0, _, h, _, _, _ => by omega
  | n, k + 1, [], _, h, _, _ => by simp at h
  | 0, k + 1, b :: l, _, _, _, h => by
    have h' : b.toNat < 128 := h
    rw [un, if_neg (by omega)]
    show _ = if (k + 1 - 0 - 1 < 9 ∧ b.toNat = 0) ∨ (k + 1 - 0 - 1 = 0 ∧ 1 < b.toNat) then _ else _
    rw [show k + 1 - 0 - 1 = k by omega]
    split
    · rfl
    · simp only [List.take_succ_cons, List.take_zero, dg]
      rw [Nat.mod_eq_of_lt h']; rfl
  | n + 1, k + 1, b :: l, h1, h2, h3, h4 => by
    have hb : 128 ≤ b.toNat := h3 0 (by omega)
    have ih := un_run n k l (by omega) (by simpa using h2) (fun i hi => h3 (i + 1) (by omega)) h4
    rw [un, if_pos hb, ih]
    show _ = if (k + 1 - (n + 1) - 1 < 9 ∧ (l.getD n 0).toNat = 0) ∨ (k + 1 - (n + 1) - 1 = 0 ∧ 1 < (l.getD n 0).toNat) then _ else _
    rw [show k + 1 - (n + 1) - 1 = k - n - 1 by omega]
    split
    · rfl
    · simp only [if_true, List.take_succ_cons, dg]
theorem un_short : ∀ (k : Nat) (l : List UInt8), l.length < k → (∀ i, i < l.length → 128 ≤ (l.getD i 0).toNat) → un k l = (20, 0, 0)
  | 0, l, h, _ => by omega
  | k + 1, [], _, _ => rfl
  | k + 1, b :: l, h, h2 => by
    have hb : 128 ≤ b.toNat := h2 0 (by simp)
    have ih := un_short k l (by simpa using h) (fun i hi => h2 (i + 1) (by simpa using hi))
    rw [un, if_pos hb, ih]; rfl
theorem un_over : ∀ (k : Nat) (l : List UInt8), k ≤ l.length → (∀ i, i < k → 128 ≤ (l.getD i 0).toNat) → un k l = (21, 0, 0)
  | 0, l, _, _ => rfl
  | k + 1, [], h, _ => by simp at h
  | k + 1, b :: l, h, h2 => by
    have hb : 128 ≤ b.toNat := h2 0 (by omega)
    have ih := un_over k l (by simpa using h) (fun i hi => h2 (i + 1) (by omega))
    rw [un, if_pos hb, ih]; rfl
theorem getD_take {l : List UInt8} {i n : Nat} (h : i < n) : (l.take n).getD i 0 = l.getD i 0 := by simp [List.getD_eq_getElem?_getD, h]
def NumPost (l : List UInt8) (w : World) (e : Ending) (w' : World) : Prop := e = .returned (.tuple #[.int .u64 ((un 10 l).2.1 : Nat), .int .i64 ((un 10 l).2.2 : Nat), .int .i64 ((un 10 l).1 : Nat)]) ∧ w' = w
set_option maxHeartbeats 2000000 in
theorem py_number (A : Option Addr) (n c : Nat) (l : List UInt8) (w : World) (hr : Rd w A n c l) :
    Calls Try.prog 79 #[.slice A n c] w (NumPost l w) := by
  have HR := Lib.hid hr
  have hmx := hr.max
  have HL := Lib.hid hr.len
  clear hr
  go_enter Try.func79, Try.ntmps79
  go_wp2_with fail
  go_loop [5] (fun x => ∃ k : Nat, k ≤ n ∧ k ≤ 10 ∧ x = .int .i64 k ∧ ∀ i, i < k → 128 ≤ (l.getD i 0).toNat) (fun x => n - (intOf x).toNat)
  case atStart => exact ⟨0, by omega, by omega, rfl, fun i hi => by omega⟩
  case round =>
    obtain ⟨k, hk, hk10, rfl, hall⟩ := hrel
    have HA := Lib.hid hall
    clear hall
    by_cases h10 : k = 10
    · have hU := un_over 10 l (by rw [HL.out]; omega) (fun i hi => HA.out i (by omega))
      have HU := Lib.hid hU
      have hlt10 : decide ((k : Int) < 10) = false := decide_eq_false (by omega)
      have heq10 : ((k : Int) == 10) = true := by simp; omega
      clear hU h10
      by_cases hkn : k < n
      · have hkd : decide ((k : Int) < (n : Int)) = true := decide_eq_true (by omega)
        go_wp2
        go_ret3
        exact ⟨by rw [HU.out]; rfl, rfl⟩
      · have hkd : decide ((k : Int) < (n : Int)) = false := decide_eq_false (by omega)
        go_wp2
        go_ret3
        exact ⟨by rw [HU.out]; rfl, rfl⟩
    have hlt10 : decide ((k : Int) < 10) = true := decide_eq_true (by omega)
    have heq10 : ((k : Int) == 10) = false := by simp; omega
    by_cases hkn : k < n
    · have hkd : decide ((k : Int) < (n : Int)) = true := decide_eq_true (by omega)
      have hke : ((k : Int) == (n : Int)) = false := by simp; omega
      obtain ⟨bb, oo, rfl, hc⟩ := HR.out.at_ (by omega)
      have hcx := hc k hkn
      have HC := Lib.hid hc
      obtain ⟨x, hx⟩ : ∃ x, x = l.getD k 0 := ⟨_, rfl⟩
      rw [← hx] at hcx
      have HX := Lib.hid hx
      have hk0 : (0 : Int) ≤ (k : Int) := by omega
      clear hc hx
      by_cases h128 : 128 ≤ x.toNat
      · have hg : (128 : Int) ≤ (x.toNat : Int) := by omega
        go_wp2
        go_round
        case rel =>
          refine ⟨k + 1, by omega, by omega, by go_num, fun i hi => ?_⟩
          rcases Nat.lt_or_ge i k with h | h
          · exact HA.out i h
          · obtain rfl : i = k := by omega
            rw [← HX.out]; exact h128
        case measure => simp [intOf]; omega
      · have hg : ¬ (128 : Int) ≤ (x.toNat : Int) := by omega
        have hR := un_run k 10 l (by omega) (by rw [HL.out]; exact hkn) HA.out (by rw [← HX.out]; omega)
        rw [← HX.out] at hR
        by_cases hbad : (0 < k ∧ x.toNat = 0) ∨ (k = 9 ∧ 1 < x.toNat)
        · rw [if_pos (by omega)] at hR
          have HU := Lib.hid hR
          clear hR
          rcases (show (0 < k ∧ x.toNat = 0) ∨ (¬ (0 < k ∧ x.toNat = 0) ∧ k = 9 ∧ 1 < x.toNat) by omega) with ⟨h1, h2⟩ | ⟨h0, h1, h2⟩
          · have e1 : (0 : Int) < (k : Int) := by omega
            have e2 : ((x.toNat : Int) == 0) = true := by simp; omega
            have e3 : decide ((0 : Int) < (k : Int)) = true := decide_eq_true e1
            clear hbad h1 h2
            go_wp2
            go_ret3
            exact ⟨by rw [HU.out]; rfl, rfl⟩
          · have e1 : (0 : Int) < (k : Int) := by omega
            have e2 : ((x.toNat : Int) == 0) = false := by simp; omega
            have e3 : decide ((0 : Int) < (k : Int)) = true := decide_eq_true e1
            have e4 : ((k : Int) == 9) = true := by simp; omega
            have e5 : (1 : Int) < (x.toNat : Int) := by omega
            have e6 : decide ((1 : Int) < (x.toNat : Int)) = true := decide_eq_true e5
            clear hbad h1 h2 h0
            go_wp2
            go_ret3
            exact ⟨by rw [HU.out]; rfl, rfl⟩
        · rw [if_neg (by omega)] at hR
          have hv := (nf_un hR).2.2.2
          have HU := Lib.hid hR
          have HV := Lib.hid hv
          have hlen : (l.take (k + 1)).length = k + 1 := by rw [List.length_take, HL.out]; omega
          have HLEN := Lib.hid hlen
          have hcase : (k = 0 ∧ ¬ (0 : Int) < (k : Int) ∧ ((k : Int) == 9) = false) ∨ (0 < k ∧ x.toNat ≠ 0 ∧ ((k : Int) == 9) = false) ∨ (k = 9 ∧ x.toNat = 1) := by
            have h9 : k ≠ 9 → ((k : Int) == 9) = false := fun h => by simp; omega
            rcases (show k = 0 ∨ (0 < k ∧ k ≠ 9) ∨ k = 9 by omega) with h | h | h
            · exact .inl ⟨h, by omega, h9 (by omega)⟩
            · exact .inr (.inl ⟨h.1, by omega, h9 h.2⟩)
            · exact .inr (.inr ⟨h, by omega⟩)
          clear hR hv hbad hlen
          have hpost : ∃ q : Bool × Bool × Bool, True := ⟨(true, true, true), trivial⟩
          clear hpost
          rcases hcase with ⟨h1, h2, h3⟩ | ⟨h1, h2, h3⟩ | ⟨h1, h2⟩
          all_goals (
            (first | (have e1 : (0 : Int) < (k : Int) := by omega) | skip)
            (first | (have e2 : ((x.toNat : Int) == 0) = false := by simp; omega) | skip)
            (first | (have e4 : ((k : Int) == 9) = true := by simp; omega) | skip)
            (first | (have e5 : ¬ (1 : Int) < (x.toNat : Int) := by omega) | skip)
            (first | (have e6 : decide ((0 : Int) < (k : Int)) = true := decide_eq_true (by omega)) | (have e6 : decide ((0 : Int) < (k : Int)) = false := decide_eq_false (by omega)))
            (first | (have e7 : decide ((1 : Int) < (x.toNat : Int)) = false := decide_eq_false (by omega)) | skip)
            have hk10' : (k : Int) < 10 := by omega
            have HH1 := Lib.hid h1
            clear h1
            go_wp2_with fail
            go_loop [6, 7] (fun vv y => ∃ j : Nat, j ≤ k + 1 ∧ y = .int .i64 ((j : Int) - 1) ∧ vv = .int .u64 (dg ((l.take (k + 1)).drop j) : Nat)) (fun _ y => (intOf y + 1).toNat)
            case atStart => exact ⟨k + 1, by omega, iv (by omega), iv (by rw [List.drop_eq_nil_of_le (by rw [HLEN.out]; exact Nat.le_refl _)]; rfl)⟩
            case round =>
              obtain ⟨j, hj, hy, hvv⟩ := hrel
              rcases j with _ | i
              · have hy2 := hy.trans (iv (show (((0 : Nat) : Int) - 1) = -1 by omega))
                have hv2 := hvv.trans (iv (show ((dg ((l.take (k + 1)).drop 0) : Nat) : Int) = (dg (l.take (k + 1)) : Nat) by simp))
                clear hy hvv
                subst hy2 hv2
                obtain ⟨G, hG⟩ : ∃ G, G = dg (l.take (k + 1)) := ⟨_, rfl⟩
                rw [← hG]
                have HG := Lib.hid hG
                clear hG
                go_wp2
                go_ret3
                exact ⟨by rw [HU.out]; simp [HG.out], rfl⟩
              · have hy2 := hy.trans (iv (show (((i + 1 : Nat) : Int) - 1) = (i : Int) by omega))
                clear hy
                subst hy2 hvv
                have hst := dg_step (l.take (k + 1)) i (by rw [HLEN.out]; omega)
                have hle := dg_drop i (l.take (k + 1))
                rw [getD_take (by omega)] at hst
                obtain ⟨z, hz⟩ : ∃ z, z = l.getD i 0 := ⟨_, rfl⟩
                have hcz := HC.out i (by omega)
                rw [← hz] at hst hcz
                obtain ⟨a0, ha0⟩ : ∃ a0, a0 = dg ((l.take (k + 1)).drop (i + 1)) := ⟨_, rfl⟩
                obtain ⟨a1, ha1⟩ : ∃ a1, a1 = dg ((l.take (k + 1)).drop i) := ⟨_, rfl⟩
                rw [← ha0, ← ha1] at hst
                rw [← ha1] at hle
                rw [← ha0]
                have hvlt := HV.out
                have hlt : a1 < 18446744073709551616 := by omega
                have hs2 : (a0 : Int) * 128 + (z.toNat : Int) % 128 = (a1 : Int) := by omega
                have hs3 : (0 : Int) ≤ (a0 : Int) * 128 ∧ (a0 : Int) * 128 < 18446744073709551616 := by omega
                have hs4 : (0 : Int) ≤ (a1 : Int) ∧ (a1 : Int) < 18446744073709551616 := by omega
                have hi0 : (0 : Int) ≤ (i : Int) ∧ (i : Int) < (n : Int) := by omega
                have HA1 := Lib.hid ha1
                have hw9 : IntKind.u64.wrap (a1 : Int) = (a1 : Int) := IntWalk.u64_in _ (by omega)
                have hw8 : IntKind.u64.wrap ((a0 : Int) * 128) = (a0 : Int) * 128 := IntWalk.u64_in _ (by omega)
                clear ha0 ha1 hst hle hz hvlt hlt
                go_wp2
                go_round
                case rel => exact ⟨i, by omega, rfl, by rw [HA1.out]⟩
                case measure => simp [intOf])
    · obtain rfl : k = n := by omega
      have hU := un_short 10 l (by rw [HL.out]; omega) (fun i hi => HA.out i (by rw [HL.out] at hi; exact hi))
      have HU := Lib.hid hU
      have hkd : decide ((k : Int) < (k : Int)) = false := decide_eq_false (by omega)
      clear hU
      go_wp2
      go_ret3
      exact ⟨by rw [HU.out]; rfl, rfl⟩
end Go.Proofs.Ytclafljkeaekfaa
