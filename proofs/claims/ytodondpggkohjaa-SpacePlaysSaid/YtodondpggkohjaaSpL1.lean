/- Walks of the small helpers of the space's laws: in, sameInts, rising. -/
import Derived.Test.YtodondpggkohjaaSp4
import Derived.Test.YtodondpggkohjaaSp3
import Derived.Test.YtodondpggkohjaaSp2
import Derived.BigQuiet
set_option linter.unusedVariables false
set_option linter.unusedSimpArgs false
namespace Go.Proofs.Ytodondpggkohjaa
open Go.RowKit
def inL (l : List Int) (b : Int) : Bool := decide (b ∈ l)
theorem inL_yes {l : List Int} {b : Int} {k : Nat} (hk : k < l.length) (h : l.getD k 0 = b) : inL l b = true := by
  apply decide_eq_true
  rw [← h, List.getD_eq_getElem?_getD, List.getElem?_eq_getElem hk]
  exact List.getElem_mem hk
theorem inL_no {l : List Int} {b : Int} (h : ∀ i, i < l.length → l.getD i 0 ≠ b) : inL l b = false := by
  apply decide_eq_false
  intro hm
  obtain ⟨i, hi, e⟩ := List.getElem_of_mem hm
  exact h i hi (by rw [List.getD_eq_getElem?_getD, List.getElem?_eq_getElem hi]; exact e)
theorem l8_in {D : List Nat} {A : Option Addr} {n c : Nat} {l : List Int} (b : Int) (w : World) (hr : RdI D w A n c l) :
    Calls Try.prog 19 #[.slice A n c, .int .i64 b] w fun e w' => e = .returned (.bool (inL l b)) ∧ w' = w := by
  have hm := hr.max
  have hl := hr.len
  have HR := Lib.hid hr
  clear hr
  go_enter Try.func19, Try.ntmps19
  go_wp2_with fail
  go_loopw [4, 5] (fun _ x wr => ∃ k : Nat, k ≤ n ∧ x = .int .i64 k ∧ (∀ i, i < k → l.getD i 0 ≠ b) ∧ wr = w) (fun _ x _ => n - (intOf x).toNat)
  case atStart => exact ⟨0, by omega, rfl, fun i hi => absurd hi (by omega), rfl⟩
  case round =>
    obtain ⟨k, hk, rfl, hok, rfl⟩ := hrel
    have HOK := Lib.hid hok
    clear hok
    by_cases hkn : k < n
    · obtain ⟨b0, o, rfl, _, hc⟩ := HR.out.at_ (by omega)
      have hcell := hc k hkn
      obtain ⟨t, ht⟩ : ∃ t, t = l.getD k 0 := ⟨_, rfl⟩
      rw [← ht] at hcell
      have HT := Lib.hid ht
      clear ht hc
      by_cases h1 : t = b
      · have HB := Lib.hid (inL_yes (l := l) (b := b) (k := k) (by omega) (by rw [← HT.out]; exact h1))
        have q1 : (t == b) = true := by simpa using h1
        clear h1
        go_wp2
        go_ret
        exact ⟨ret_bool HB.out.symm, rfl⟩
      · have HN := Lib.hid h1
        have q1 : (t == b) = false := by simpa using h1
        clear h1
        go_wp2
        refine ⟨⟨k + 1, by omega, by go_num, fun i hi => ?_, trivial⟩, by simp [intOf]; omega⟩
        by_cases e : i < k
        · exact HOK.out i e
        · obtain rfl : i = k := by omega
          rw [← HT.out]; exact HN.out
    · obtain rfl : k = n := by omega
      have HB := Lib.hid (inL_no (l := l) (b := b) (fun i hi => HOK.out i (by omega)))
      go_wp2
      go_ret
      exact ⟨ret_bool HB.out.symm, rfl⟩
theorem l8_sameInts {D D' : List Nat} {A A' : Option Addr} {n c n' c' : Nat} {l l' : List Int} (w : World) (hr : RdI D w A n c l) (hr' : RdI D' w A' n' c' l') :
    Calls Try.prog 12 #[.slice A n c, .slice A' n' c'] w fun e w' => e = .returned (.bool (decide (l = l'))) ∧ Only [] w w' := by
  have hm := hr.max
  have hl := hr.len
  have hm' := hr'.max
  have hl' := hr'.len
  have HR := Lib.hid hr
  have HR' := Lib.hid hr'
  clear hr hr'
  by_cases hnn : n = n'
  · subst hnn
    go_enter Try.func12, Try.ntmps12
    go_wp2_with fail
    go_loopw [4, 5] (fun _ x wr => ∃ k : Nat, k ≤ n ∧ x = .int .i64 k ∧ (∀ i, i < k → l.getD i 0 = l'.getD i 0) ∧ Only [] w wr) (fun _ x _ => n - (intOf x).toNat)
    case atStart => exact ⟨0, by omega, rfl, fun i hi => absurd hi (by omega), Only.refl _ _⟩
    case round =>
      obtain ⟨k, hk, rfl, hok, hO⟩ := hrel
      have HOK := Lib.hid hok
      clear hok
      by_cases hkn : k < n
      · obtain ⟨b0, o, rfl, _, hc⟩ := HR.out.at_ (by omega)
        obtain ⟨b1, o1, rfl, _, hc1⟩ := HR'.out.at_ (by omega)
        have hcell := cell_ext (hO.below (Nat.le_refl _) (by simp)) (hc k hkn)
        have hcell1 := cell_ext (hO.below (Nat.le_refl _) (by simp)) (hc1 k hkn)
        obtain ⟨t, ht⟩ : ∃ t, t = l.getD k 0 := ⟨_, rfl⟩
        rw [← ht] at hcell
        obtain ⟨t', ht'⟩ : ∃ t, t = l'.getD k 0 := ⟨_, rfl⟩
        rw [← ht'] at hcell1
        have HT := Lib.hid ht
        have HT' := Lib.hid ht'
        clear ht hc ht' hc1
        by_cases h1 : t = t'
        · have HN := Lib.hid h1
          have q1 : (t == t') = true := by simpa using h1
          clear h1
          go_wp2_with fail
          go_quiet (fail)
          all_goals go_wp2
          refine ⟨⟨k + 1, by omega, by go_num, fun i hi => ?_, hO.drewN _⟩, by simp [intOf]; omega⟩
          by_cases e : i < k
          · exact HOK.out i e
          · obtain rfl : i = k := by omega
            rw [← HT.out, ← HT'.out]; exact HN.out
        · have HB := Lib.hid (show decide (l = l') = false from decide_eq_false (fun e => h1 (by rw [HT.out, HT'.out, e])))
          have q1 : (t == t') = false := by simpa using h1
          clear h1
          go_wp2_with fail
          go_quiet (fail)
          all_goals go_wp2
          go_ret
          exact ⟨ret_bool HB.out.symm, by first | exact Only.refl _ _ | exact hO | exact hO.drewN _⟩
      · obtain rfl : k = n := by omega
        have HB := Lib.hid (show decide (l = l') = true from decide_eq_true (by
          apply List.ext_getElem (by omega)
          intro i h1 h2
          have := HOK.out i (by omega)
          simpa [List.getD_eq_getElem?_getD, List.getElem?_eq_getElem h1, List.getElem?_eq_getElem h2] using this))
        go_wp2
        go_ret
        exact ⟨ret_bool HB.out.symm, by first | exact Only.refl _ _ | exact hO | exact hO.drewN _⟩
  · have HB := Lib.hid (show decide (l = l') = false from decide_eq_false (fun e => hnn (by rw [← hl, ← hl', e])))
    go_enter Try.func12, Try.ntmps12
    go_wp2
    go_ret
    exact ⟨ret_bool HB.out.symm, by first | exact Only.refl _ _ | exact hO | exact hO.drewN _⟩
/-- rising strictly from lo on, below hi -/
def risL (l : List Int) (n : Nat) : Bool := decide (∀ i, i < l.length → 2 ≤ l.getD i 0 ∧ l.getD i 0 < 2 + n ∧ (0 < i → l.getD (i - 1) 0 < l.getD i 0))
theorem l8_rising {D : List Nat} {A : Option Addr} {n c : Nat} {l : List Int} (m : Nat) (w : World) (hr : RdI D w A n c l) (hmm : m ≤ 64) (hris : risL l m = true) :
    Calls Try.prog 18 #[.slice A n c, .int .i64 m] w fun e w' => e = .returned (.bool true) ∧ Only [] w w' := by
  have hm := hr.max
  have hl := hr.len
  have HR := Lib.hid hr
  have HS := Lib.hid (of_decide_eq_true hris)
  clear hr hris
  go_enter Try.func18, Try.ntmps18
  go_wp2_with fail
  go_loopw [4, 5] (fun _ x wr => ∃ k : Nat, k ≤ n ∧ x = .int .i64 k ∧ Only [] w wr) (fun _ x _ => n - (intOf x).toNat)
  case atStart => exact ⟨0, by omega, rfl, Only.refl _ _⟩
  case round =>
    obtain ⟨k, hk, rfl, hO⟩ := hrel
    by_cases hkn : k < n
    · obtain ⟨b0, o, rfl, _, hc⟩ := HR.out.at_ (by omega)
      have hcell := cell_ext (hO.below (Nat.le_refl _) (by simp)) (hc k hkn)
      have HS1 := HS.out k (by omega)
      obtain ⟨t, ht⟩ : ∃ t, t = l.getD k 0 := ⟨_, rfl⟩
      rw [← ht] at hcell HS1
      obtain ⟨h1, h2, h3⟩ := HS1
      have HT := Lib.hid ht
      have HC := Lib.hid hc
      clear ht hc
      have d1 : decide (t < 2) = false := decide_eq_false (by omega)
      have d2 : decide (2 + (m : Int) ≤ t) = false := decide_eq_false (by omega)
      have hb0 : (0 : Int) ≤ m ∧ (m : Int) ≤ 64 ∧ (0 : Int) ≤ 2 + (m : Int) := by omega
      rcases Nat.eq_zero_or_pos k with rfl | hk0
      · rw [Nat.add_zero] at hcell
        clear h3 h1 h2
        go_wp2_with fail
        go_quiet (fail)
        all_goals go_wp2
        exact ⟨⟨1, by omega, by go_num, hO.drewN _⟩, by simp [intOf]; omega⟩
      · obtain ⟨p, hp⟩ : ∃ p : Nat, (k : Int) - 1 = p := ⟨k - 1, by omega⟩
        have hcp := cell_ext (hO.below (Nat.le_refl _) (by simp)) (HC.out p (by omega))
        have h3 := h3 (by omega)
        rw [show k - 1 = p by omega] at h3
        obtain ⟨t', ht'⟩ : ∃ t, t = l.getD p 0 := ⟨_, rfl⟩
        rw [← ht'] at hcp h3
        have d3 : decide (0 < (k : Int)) = true := decide_eq_true (by omega)
        have d4 : decide (t ≤ t') = false := decide_eq_false (by omega)
        clear ht' h1 h2 h3
        go_wp2_with fail
        go_quiet (fail)
        all_goals go_wp2
        exact ⟨⟨k + 1, by omega, by go_num, hO.drewN _⟩, by simp [intOf]; omega⟩
    · obtain rfl : k = n := by omega
      go_wp2
      go_ret
      exact ⟨rfl, hO⟩
end Go.Proofs.Ytodondpggkohjaa
