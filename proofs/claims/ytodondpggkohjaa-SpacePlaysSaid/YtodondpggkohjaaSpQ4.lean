/- The reference's space: Give, Take. -/
import Derived.Test.YtodondpggkohjaaSpQ3
import Derived.Deep.CutRange
set_option linter.unusedVariables false
set_option linter.unusedSimpArgs false
set_option maxRecDepth 100000
namespace Go.Proofs.Ytodondpggkohjaa
open Go.RowKit
section
variable {D : List Nat} {r N first : Nat} {was now : List Int} {w : World}
theorem rs_Give_bad (b : Int) (h : RsOk D w r N first was now) (hb : b < first ∨ (N : Int) ≤ b) :
    Calls Try.prog 29 #[.pointer (some ⟨r, 0, none⟩), .int .i64 b] w fun e w' => e = .returned (.int .i64 1) ∧ w' = w := by
  obtain ⟨A, n, c, A', n', c', h1, h2, h3⟩ := h
  obtain ⟨c0, c1, c2, c3⟩ := rs_cells h1
  clear h1 h2 h3
  by_cases hb1 : b < first
  · clear hb
    go_enter Try.func29, Try.ntmps29
    go_wp2
    go_ret
    exact ⟨rfl, rfl⟩
  · have hb2 : (N : Int) ≤ b := by omega
    clear hb
    go_enter Try.func29, Try.ntmps29
    go_wp2
    go_ret
    exact ⟨rfl, rfl⟩
theorem rs_Give_none (b : Int) (h : RsOk D w r N first was now) (hb : (first : Int) ≤ b ∧ b < (N : Int)) (hn : b ∉ now) :
    Calls Try.prog 29 #[.pointer (some ⟨r, 0, none⟩), .int .i64 b] w fun e w' => e = .returned (.int .i64 81) ∧ w' = w := by
  obtain ⟨A, n, c, A', n', c', h1, h2, h3⟩ := h
  obtain ⟨c0, c1, c2, c3⟩ := rs_cells h1
  have HIN := Lib.hid (rs_in A' n' c' now b w h3)
  rw [decide_eq_false hn] at HIN
  clear h1 h2 h3 hn
  have hb1 : ¬ b < first := by omega
  have hb2 : ¬ (N : Int) ≤ b := by omega
  go_enter Try.func29, Try.ntmps29
  go_wp2_with fail
  refine HIN.out.mono ?_
  rintro e w1 ⟨rfl, hw1⟩
  subst hw1
  go_wp2
  go_ret
  exact ⟨rfl, rfl⟩
theorem rs_Give_ok (b : Int) (h : RsOk D w r N first was now) (hr : r ∈ D) (hD : ∀ k ∈ D, k < w.heap.size) (hb : (first : Int) ≤ b ∧ b < (N : Int)) (hn : b ∈ now) (hl : now.length ≤ 17592186044415) :
    Calls Try.prog 29 #[.pointer (some ⟨r, 0, none⟩), .int .i64 b] w fun e w' => e = .returned (.int .i64 0) ∧ RsOk D w' r N first was (now.filter fun x => decide (x ≠ b)) ∧ Only [r] w w' := by
  have H := Lib.hid h
  have HD := Lib.hid (And.intro hr hD)
  obtain ⟨A, n, c, A', n', c', h1, h2, h3⟩ := h
  have hc0 := rs_cells h1
  have HH := Lib.hid h1
  have HNW := Lib.hid h3
  have HL := Lib.hid h3.len
  have hnn : n' ≤ 17592186044415 := by rw [← h3.len]; exact hl
  have HIN := Lib.hid (rs_in A' n' c' now b w h3)
  rw [decide_eq_true hn] at HIN
  clear h1 h2 h3 hn hr hD hl
  have hb1 : ¬ b < first := by omega
  have hb2 : ¬ (N : Int) ≤ b := by omega
  go_enter Try.func29, Try.ntmps29
  go_wp2_with fail
  refine HIN.out.mono ?_
  rintro e w1 ⟨rfl, hw1⟩
  subst hw1
  go_wp2_with fail
  clear hc0
  go_loopw [6, 7] (fun v x wx => ∃ k m : Nat, k ≤ n' ∧ x = .int .i64 k ∧ m ≤ k ∧ m = (fil (fun x => decide (x ≠ b)) now k).length ∧ OwnI wx w1.heap.size v m (fil (fun x => decide (x ≠ b)) now k) ∧ Below w1.heap.size w1 wx) (fun _ x _ => n' - (intOf x).toNat)
  case atStart => exact ⟨0, 0, by omega, rfl, by omega, rfl, OwnI.nil _ _, Below.refl _ _⟩
  case round =>
    obtain ⟨k, m, hk, rfl, hmk, hm, hO, hB⟩ := hrel
    have HO := Lib.hid hO
    have HB := Lib.hid hB
    have HM := Lib.hid hm
    have hz := hB.size
    have hd := rs_cells ((hB.block r (lt_of_block HH.out)).trans HH.out)
    clear hO hB hm
    by_cases hkn : k < n'
    · have hR := HNW.out.ext HB.out
      obtain ⟨bb, o, rfl, -, hc⟩ := hR.at_ (by omega)
      have hcell := hc k hkn
      obtain ⟨y, hy⟩ : ∃ y, y = now.getD k 0 := ⟨_, rfl⟩
      rw [← hy] at hcell
      have HST := Lib.hid (fil_step (fun x => decide (x ≠ b)) now k y (by rw [hy]; exact take_snoc now k 0 (by rw [HL.out]; exact hkn)))
      have hki : (0 : Int) ≤ (k : Int) ∧ (k : Int) < (n' : Int) := by omega
      clear hc hy hR
      by_cases hyb : y = b
      · have hy1 : (y != b) = false := by simp [hyb]
        have HN := Lib.hid (show fil (fun x => decide (x ≠ b)) now (k + 1) = fil (fun x => decide (x ≠ b)) now k by rw [HST.out, if_neg (by simpa using hyb)])
        clear hyb
        go_wp2
        go_roundw
        case rel => exact ⟨k + 1, m, by omega, by go_num, by omega, by rw [HN.out]; exact HM.out, by rw [HN.out]; exact HO.out, HB.out⟩
        case measure => simp [intOf]; omega
      · have hy1 : (y != b) = true := by simp [hyb]
        have HN := Lib.hid (show fil (fun x => decide (x ≠ b)) now (k + 1) = fil (fun x => decide (x ≠ b)) now k ++ [y] by rw [HST.out, if_pos (by simpa using hyb)])
        clear hyb
        go_wp2_with (at_builtin; refine wp_appI1 (w0 := w1) w1.heap.size y HO.out HB.out hz (by omega) _ _ rfl rfl rfl rfl ?_; intro v1 w2 hO1 hB1; have HO1 := Lib.hid hO1; have HB1 := Lib.hid hB1; clear hO1 hB1)
        go_roundw
        case rel => exact ⟨k + 1, m + 1, by omega, by go_num, by omega, by rw [HN.out, List.length_append, ← HM.out]; rfl, by rw [HN.out]; exact HO1.out, HB1.out⟩
        case measure => simp [intOf]; omega
    · obtain rfl : k = n' := by omega
      have HT := Lib.hid (show fil (fun x => decide (x ≠ b)) now k = now.filter fun x => decide (x ≠ b) by unfold fil; rw [List.take_of_length_le (by rw [HL.out]; exact Nat.le_refl _)])
      rw [HT.out] at HO
      have HS := Lib.hid (H.out.setNow HD.out.1 HD.out.2 HO.out HB.out (by omega))
      have hf := rs_free ((HB.out.block r (lt_of_block HH.out)).trans HH.out) 3
      obtain ⟨A1, cc, rfl⟩ := HO.out.slice
      go_wp2
      go_ret
      exact ⟨rfl, HS.out⟩
theorem tw_lt {b : Int} : ∀ {l : List Int} {k : Nat}, k < (l.takeWhile fun x => decide (x < b)).length → k < l.length ∧ l.getD k 0 < b
  | [], k, h => by simp at h
  | x :: r, k, h => by
    by_cases hx : x < b
    · rw [List.takeWhile_cons_of_pos (by simpa using hx)] at h
      cases k with
      | zero => exact ⟨by simp, by simpa using hx⟩
      | succ k =>
        have := tw_lt (l := r) (k := k) (by simpa using h)
        exact ⟨by simpa using this.1, by simpa using this.2⟩
    · rw [List.takeWhile_cons_of_neg (by simpa using hx)] at h
      simp at h
theorem tw_end {b : Int} : ∀ {l : List Int}, (l.takeWhile fun x => decide (x < b)).length < l.length → ¬ l.getD (l.takeWhile fun x => decide (x < b)).length 0 < b
  | [], h => by simp at h
  | x :: r, h => by
    by_cases hx : x < b
    · rw [List.takeWhile_cons_of_pos (by simpa using hx)] at h ⊢
      simp only [List.length_cons, Nat.add_lt_add_iff_right] at h
      simpa using tw_end h
    · rw [List.takeWhile_cons_of_neg (by simpa using hx)]
      simpa using hx
theorem tw_take (b : Int) (l : List Int) : l.take (l.takeWhile fun x => decide (x < b)).length = l.takeWhile fun x => decide (x < b) := by
  have h := List.takeWhile_append_dropWhile (p := fun x => decide (x < b)) (l := l)
  conv => lhs; rw [← h]
  rw [List.takeWhile_append_dropWhile]
  have h2 := List.take_left' (l₁ := l.takeWhile fun x => decide (x < b)) (l₂ := l.dropWhile fun x => decide (x < b)) rfl
  rw [h] at h2
  exact h2
theorem rs_Take_none (h : RsOk D w r N first was now) (hN : first ≤ N) (hN2 : N ≤ 4096) (hno : ∀ j, first + j < N → ¬ (((first + j : Nat) : Int) ∉ now ∧ ((first + j : Nat) : Int) ∉ was)) :
    Calls Try.prog 28 #[.pointer (some ⟨r, 0, none⟩)] w fun e w' => e = .returned (.tuple #[.int .i64 (-1), .int .i64 3]) ∧ w' = w := by
  have H := Lib.hid h
  have HNO := Lib.hid hno
  obtain ⟨A, n, c, A', n', c', h1, h2, h3⟩ := h
  obtain ⟨c0, c1, c2, c3⟩ := rs_cells h1
  clear h1 h2 h3 hno
  go_enter Try.func28, Try.ntmps28
  go_wp2_with fail
  go_loopw [4, 5, 6, 7, 8] (fun x _ _ _ _ wx => ∃ k : Nat, first + k ≤ N ∧ x = .int .i64 ((first + k : Nat) : Int) ∧ wx = w) (fun x _ _ _ _ _ => N - (intOf x).toNat)
  case atStart => exact ⟨0, by omega, rfl, rfl⟩
  case round =>
    obtain ⟨k, hk, rfl, rfl⟩ := hrel
    obtain ⟨q, hq⟩ : ∃ q : Nat, q = first + k := ⟨_, rfl⟩
    have HQ := Lib.hid hq
    by_cases hkn : first + k < N
    · have HF := Lib.hid (rs_freeC (q : Int) H.out)
      rw [decide_eq_false (by rw [hq]; exact HNO.out k hkn)] at HF
      have hqi : (0 : Int) ≤ (q : Int) ∧ (q : Int) < (N : Int) := by omega
      rw [← hq]
      clear hq
      go_wp2_with fail
      refine HF.out.mono ?_
      rintro e w1 ⟨rfl, hw1⟩
      subst hw1
      go_wp2
      go_roundw
      case rel => exact ⟨k + 1, by have := HQ.out; omega, by have := HQ.out; go_num, by first | rfl | trivial⟩
      case measure => simp [intOf]; omega
    · obtain rfl : q = N := by omega
      rw [← hq]
      clear hq hkn hk
      go_wp2
      go_ret2
      exact ⟨rfl, rfl⟩
set_option maxHeartbeats 1600000 in
theorem rs_Take_ok (i q0 : Nat) (hq0 : q0 = first + i) (h : RsOk D w r N first was now) (hr : r ∈ D) (hD : ∀ k ∈ D, k < w.heap.size) (hN2 : N ≤ 4096) (hi : first + i < N) (hfr : ((first + i : Nat) : Int) ∉ now ∧ ((first + i : Nat) : Int) ∉ was) (hno : ∀ j, j < i → ¬ (((first + j : Nat) : Int) ∉ now ∧ ((first + j : Nat) : Int) ∉ was)) (hl : now.length ≤ 8796093022207) :
    Calls Try.prog 28 #[.pointer (some ⟨r, 0, none⟩)] w fun e w' => e = .returned (.tuple #[.int .i64 (q0 : Int), .int .i64 0]) ∧ RsOk D w' r N first was ((now.takeWhile fun x => decide (x < (q0 : Int))) ++ (q0 : Int) :: now.drop (now.takeWhile fun x => decide (x < (q0 : Int))).length) ∧ Only [r] w w' := by
  have H := Lib.hid h
  have HD := Lib.hid (And.intro hr hD)
  have HNO := Lib.hid hno
  have HFR := Lib.hid hfr
  have HQ0 := Lib.hid hq0
  clear hq0
  obtain ⟨A, n, c, A', n', c', h1, h2, h3⟩ := h
  have hc0 := rs_cells h1
  have HH := Lib.hid h1
  have HNW := Lib.hid h3
  have HL := Lib.hid h3.len
  have hnn : n' ≤ 8796093022207 := by rw [← h3.len]; exact hl
  clear h1 h2 h3 hno hfr hr hD hl
  go_enter Try.func28, Try.ntmps28
  go_wp2_with fail
  go_loopw [4, 5, 6, 7, 8] (fun x _ _ _ _ wx => ∃ k : Nat, k ≤ i ∧ x = .int .i64 ((first + k : Nat) : Int) ∧ wx = w) (fun x _ _ _ _ _ => N - (intOf x).toNat)
  case atStart => exact ⟨0, by omega, rfl, rfl⟩
  case round =>
    obtain ⟨k, hk, rfl, rfl⟩ := hrel
    obtain ⟨q, hq⟩ : ∃ q : Nat, q = first + k := ⟨_, rfl⟩
    have HQ := Lib.hid hq
    have HF := Lib.hid (rs_freeC (q : Int) H.out)
    have hqi : (0 : Int) ≤ (q : Int) ∧ (q : Int) < (N : Int) := by omega
    rw [← hq]
    by_cases hki : k < i
    · rw [decide_eq_false (by rw [hq]; exact HNO.out k hki)] at HF
      clear hq
      go_wp2_with fail
      refine HF.out.mono ?_
      rintro e w1 ⟨rfl, hw1⟩
      subst hw1
      go_wp2
      go_roundw
      case rel => exact ⟨k + 1, by omega, by have := HQ.out; go_num, by first | rfl | trivial⟩
      case measure => simp [intOf]; omega
    · obtain rfl : k = i := by omega
      obtain rfl : q = q0 := by have := HQ0.out; omega
      rw [decide_eq_true (by rw [hq]; exact HFR.out)] at HF
      clear hq hki hk
      have HTL := Lib.hid (fun j (h : j < (now.takeWhile fun x => decide (x < ((q : Nat) : Int))).length) => tw_lt h)
      have HTE := Lib.hid (fun (h : (now.takeWhile fun x => decide (x < ((q : Nat) : Int))).length < now.length) => tw_end h)
      have HTT := Lib.hid (tw_take (q : Int) now)
      have HTM := Lib.hid (show (now.takeWhile fun x => decide (x < ((q : Nat) : Int))).length ≤ now.length from (List.takeWhile_sublist _).length_le)
      obtain ⟨TW, hTW⟩ : ∃ TW, TW = now.takeWhile fun x => decide (x < ((q : Nat) : Int)) := ⟨_, rfl⟩
      rw [← hTW] at HTL HTE HTT HTM
      obtain ⟨t, ht⟩ : ∃ t, t = TW.length := ⟨_, rfl⟩
      rw [← ht] at HTL HTE HTT HTM
      have htn : t ≤ n' := by rw [← HL.out]; exact HTM.out
      have HTW := Lib.hid hTW
      have HT0 := Lib.hid ht
      clear hTW ht
      go_wp2_with fail
      refine HF.out.mono ?_
      rintro e w1 ⟨rfl, hw1⟩
      subst hw1
      go_wp2_with fail
      clear hc0
      go_loopw [6, 7] (fun v x wx => ∃ k : Nat, k ≤ t ∧ x = .int .i64 k ∧ OwnI wx w1.heap.size v k (now.take k) ∧ Below w1.heap.size w1 wx) (fun _ x _ => t - (intOf x).toNat)
      case atStart => exact ⟨0, by omega, rfl, OwnI.nil _ _, Below.refl _ _⟩
      case round =>
        obtain ⟨k2, hk2, rfl, hO, hB⟩ := hrel
        have HO := Lib.hid hO
        have HB := Lib.hid hB
        have hz := hB.size
        have hd := rs_cells ((hB.block r (lt_of_block HH.out)).trans HH.out)
        clear hO hB
        have HR := Lib.hid (HNW.out.ext HB.out)
        by_cases hkt : k2 < t
        · have hlt := HTL.out k2 hkt
          have hkn : k2 < n' := by omega
          obtain ⟨bb, o, rfl, -, hc⟩ := HR.out.at_ (by omega)
          have hcell := hc k2 hkn
          obtain ⟨y, hy⟩ : ∃ y, y = now.getD k2 0 := ⟨_, rfl⟩
          have hyb : y < (q : Int) := by rw [hy]; exact hlt.2
          rw [← hy] at hcell
          have HST := Lib.hid (show now.take (k2 + 1) = now.take k2 ++ [y] by rw [hy]; exact take_snoc now k2 0 hlt.1)
          have hkz : (0 : Int) ≤ (k2 : Int) ∧ (k2 : Int) < (n' : Int) := by omega
          clear hc hy hlt
          go_wp2_with (at_builtin; refine wp_appI1 (w0 := w1) w1.heap.size y HO.out HB.out hz (by omega) _ _ rfl rfl rfl rfl ?_; intro v1 w2 hO1 hB1; have HO1 := Lib.hid hO1; have HB1 := Lib.hid hB1; clear hO1 hB1)
          go_roundw
          case rel => exact ⟨k2 + 1, by omega, by go_num, by rw [HST.out]; exact HO1.out, HB1.out⟩
          case measure => simp [intOf]; omega
        · obtain rfl : k2 = t := by omega
          rw [HTT.out] at HO
          obtain ⟨Al, cl, rfl⟩ := HO.out.slice
          obtain ⟨Ac, hcut, hrc⟩ := cut_fromI A' n' c' k2 htn
          have HRC := Lib.hid hrc
          clear hrc
          have hz2 := HL.out
          clear hz2
          by_cases hte : k2 < n'
          · have hge := HTE.out (by rw [HL.out]; exact hte)
            obtain ⟨bb, o, rfl, -, hc⟩ := HR.out.at_ (by omega)
            have hcell := hc k2 hte
            obtain ⟨y, hy⟩ : ∃ y, y = now.getD k2 0 := ⟨_, rfl⟩
            rw [← hy] at hcell hge
            have hkz : (0 : Int) ≤ (k2 : Int) ∧ (k2 : Int) < (n' : Int) := by omega
            clear hc hy
            go_upto_region 13 with (at_builtin; refine wp_appI1 (w0 := w1) w1.heap.size (q : Int) HO.out HB.out hz (by omega) _ _ rfl rfl rfl rfl ?_; intro v1 w2 hO1 hB1; have HO1 := Lib.hid hO1; have HB1 := Lib.hid hB1; obtain ⟨Al1, cl1, rfl⟩ := hO1.slice; have hz1 := hB1.size; have hd1 := rs_cells ((hB1.block r (lt_of_block HH.out)).trans HH.out); have HR1 := Lib.hid (HRC.out D w2 now (HNW.out.ext hB1)); clear hO1 hB1)
            go_wp2_with (at_builtin; refine wp_appI (w0 := w1) w1.heap.size HO1.out HR1.out HB1.out hz1 (by omega) _ _ rfl rfl rfl rfl ?_; intro v2 w3 hO2 hB2; have HS := Lib.hid (H.out.setNow HD.out.1 HD.out.2 hO2 hB2 (by omega)); have hf2 := rs_free ((hB2.block r (lt_of_block HH.out)).trans HH.out) 3; have hd2 := rs_cells ((hB2.block r (lt_of_block HH.out)).trans HH.out); obtain ⟨Al2, cl2, rfl⟩ := hO2.slice; clear hO2 hB2)
            have HE := Lib.hid (show (TW ++ [(q : Int)]) ++ now.drop k2 = TW ++ (q : Int) :: now.drop k2 by simp)
            rw [HE.out] at HS
            go_ret2
            exact ⟨rfl, by rw [← HTW.out, ← HT0.out]; exact HS.out.1, HS.out.2⟩
          · have hkz : ¬ (k2 : Int) < (n' : Int) := by omega
            go_upto_region 13 with (at_builtin; refine wp_appI1 (w0 := w1) w1.heap.size (q : Int) HO.out HB.out hz (by omega) _ _ rfl rfl rfl rfl ?_; intro v1 w2 hO1 hB1; have HO1 := Lib.hid hO1; have HB1 := Lib.hid hB1; obtain ⟨Al1, cl1, rfl⟩ := hO1.slice; have hz1 := hB1.size; have hd1 := rs_cells ((hB1.block r (lt_of_block HH.out)).trans HH.out); have HR1 := Lib.hid (HRC.out D w2 now (HNW.out.ext hB1)); clear hO1 hB1)
            go_wp2_with (at_builtin; refine wp_appI (w0 := w1) w1.heap.size HO1.out HR1.out HB1.out hz1 (by omega) _ _ rfl rfl rfl rfl ?_; intro v2 w3 hO2 hB2; have HS := Lib.hid (H.out.setNow HD.out.1 HD.out.2 hO2 hB2 (by omega)); have hf2 := rs_free ((hB2.block r (lt_of_block HH.out)).trans HH.out) 3; have hd2 := rs_cells ((hB2.block r (lt_of_block HH.out)).trans HH.out); obtain ⟨Al2, cl2, rfl⟩ := hO2.slice; clear hO2 hB2)
            have HE := Lib.hid (show (TW ++ [(q : Int)]) ++ now.drop k2 = TW ++ (q : Int) :: now.drop k2 by simp)
            rw [HE.out] at HS
            go_ret2
            exact ⟨rfl, by rw [← HTW.out, ← HT0.out]; exact HS.out.1, HS.out.2⟩
end
end Go.Proofs.Ytodondpggkohjaa
