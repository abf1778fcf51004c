/- Walks of the space's Taken and Held. -/
import Derived.Test.YtodondpggkohjaaSp1
import Derived.Test.YtodondpggkohjaaOwnI
set_option linter.unusedVariables false
set_option linter.unusedSimpArgs false
namespace Go.Proofs.Ytodondpggkohjaa
open Go.RowKit
def pT (x : Int) : Bool := decide (x = 1 ∨ x = 2)
def pH (x : Int) : Bool := decide (x = 3)
/-- the blocks, of the first k, whose state is told -/
def sel (p : Int → Bool) (first : Nat) (is : List Int) : Nat → List Int
  | 0 => []
  | k + 1 => if p (is.getD k 0) then sel p first is k ++ [((first + k : Nat) : Int)] else sel p first is k
theorem sel_length (p : Int → Bool) (first : Nat) (is : List Int) : ∀ k, (sel p first is k).length ≤ k
  | 0 => by simp [sel]
  | k + 1 => by
    have := sel_length p first is k
    rw [sel]
    split
    · simp; omega
    · omega
theorem ret_bool {a b : Bool} (h : a = b) : Ending.returned (.bool a) = .returned (.bool b) := by rw [h]
theorem sp_pT (x : Int) (w : World) : Calls Try.prog 25 #[.int .i64 x] w fun e w' => e = .returned (.bool (pT x)) ∧ w' = w := by
  by_cases h1 : x = 1
  · have hp := Lib.hid (show pT x = true from decide_eq_true (.inl h1))
    subst h1
    go_enter Try.func25, Try.ntmps25
    go_wp2
    go_ret
    exact ⟨ret_bool hp.out.symm, rfl⟩
  by_cases h2 : x = 2
  · have hp := Lib.hid (show pT x = true from decide_eq_true (.inr h2))
    subst h2
    go_enter Try.func25, Try.ntmps25
    go_wp2
    go_ret
    exact ⟨ret_bool hp.out.symm, rfl⟩
  · have hp := Lib.hid (show pT x = false from decide_eq_false (by omega))
    have q1 : (x == 1) = false := by simpa using h1
    have q2 : (x == 2) = false := by simpa using h2
    clear h1 h2
    go_enter Try.func25, Try.ntmps25
    go_wp2
    go_ret
    exact ⟨ret_bool hp.out.symm, rfl⟩
theorem sp_pH (x : Int) (w : World) : Calls Try.prog 26 #[.int .i64 x] w fun e w' => e = .returned (.bool (pH x)) ∧ w' = w := by
  by_cases h1 : x = 3
  · have hp := Lib.hid (show pH x = true from decide_eq_true h1)
    subst h1
    go_enter Try.func26, Try.ntmps26
    go_wp2
    go_ret
    exact ⟨ret_bool hp.out.symm, rfl⟩
  · have hp := Lib.hid (show pH x = false from decide_eq_false h1)
    have q1 : (x == 3) = false := by simpa using h1
    clear h1
    go_enter Try.func26, Try.ntmps26
    go_wp2
    go_ret
    exact ⟨ret_bool hp.out.symm, rfl⟩
theorem sp_those_Taken (b g first : Nat) (is : List Int) (w : World) (h : IsSp w b g first is) :
    Calls Try.prog 24 #[.pointer (some ⟨b, 0, none⟩), .func (.func 25) #[] #[]] w fun e w' => ∃ v, e = .returned v ∧ OwnI w' w.heap.size v (sel pT first is is.length).length (sel pT first is is.length) ∧ Below w.heap.size w w' := by
  have H := Lib.hid h
  have c1 := h.c1
  have c0 := h.c0
  have hs := h.small
  obtain ⟨n, hn⟩ : ∃ n, n = is.length := ⟨_, rfl⟩
  rw [← hn] at c1 hs ⊢
  have HN := Lib.hid hn
  clear h hn
  go_enter Try.func24, Try.ntmps24
  go_wp2_with fail
  go_loopw [5, 6, 12] (fun v _ x wr => ∃ k m : Nat, k ≤ n ∧ x = .int .i64 k ∧ m ≤ k ∧ m = (sel pT first is k).length ∧ OwnI wr w.heap.size v m (sel pT first is k) ∧ Below w.heap.size w wr) (fun _ _ x _ => n - (intOf x).toNat)
  case atStart => exact ⟨0, 0, by omega, rfl, by omega, rfl, OwnI.nil _ _, Below.refl _ _⟩
  case round =>
    obtain ⟨k, m, hk, rfl, hmk, hm, hO, hB⟩ := hrel
    have HO := Lib.hid hO
    have HM := Lib.hid hm
    clear hO hm
    have hz := hB.size
    have d0 := cell_ext hB c0
    have d1 := cell_ext hB c1
    by_cases hkn : k < n
    · have cg := cell_ext hB (H.out.cg k (by rw [← HN.out]; exact hkn))
      have hsel : sel pT first is (k + 1) = if pT (is.getD k 0) then sel pT first is k ++ [((first + k : Nat) : Int)] else sel pT first is k := rfl
      generalize is.getD k 0 = x at *
      cases hp : pT x
      · rw [hp] at hsel
        have HS := Lib.hid hsel
        have HP := Lib.hid hp
        clear hsel hp
        go_wp2_with (go_at_call 25; refine (sp_pT _ _).mono ?_; rintro e w' ⟨rfl, rfl⟩; rw [HP.out])
        go_roundw
        case rel => exact ⟨k + 1, m, by omega, by go_num, by omega, by rw [HS.out]; exact HM.out, by rw [HS.out]; exact HO.out, hB⟩
        case measure => simp [intOf]; omega
      · rw [hp] at hsel
        have HS := Lib.hid hsel
        have HP := Lib.hid hp
        clear hsel hp
        have hfk : (first : Int) + k = ((first + k : Nat) : Int) := by omega
        have HF := Lib.hid hfk
        clear hfk
        go_wp2_with (first | (go_at_call 25; refine (sp_pT _ _).mono ?_; rintro e w' ⟨rfl, rfl⟩; rw [HP.out]) | (at_builtin; refine wp_appI1 (w0 := w) w.heap.size _ HO.out hB hz (by omega) _ _ rfl rfl rfl rfl ?_; intro v1 w1 hO1 hB1; have HO1 := Lib.hid hO1; clear hO1))
        go_roundw
        case rel => exact ⟨k + 1, m + 1, by omega, by go_num, by omega, by rw [HS.out]; simp; exact HM.out, by rw [HS.out]; have := HO1.out; rw [HF.out] at this; exact this, hB1⟩
        case measure => simp [intOf]; omega
    · obtain rfl : k = n := by omega
      go_wp2
      go_ret
      exact ⟨_, rfl, by rw [← HM.out]; exact HO.out, hB⟩
theorem sp_Taken (b g first : Nat) (is : List Int) (w : World) (h : IsSp w b g first is) :
    Calls Try.prog 10 #[.pointer (some ⟨b, 0, none⟩)] w fun e w' => ∃ v, e = .returned v ∧ OwnI w' w.heap.size v (sel pT first is is.length).length (sel pT first is is.length) ∧ Below w.heap.size w w' := by
  have H := Lib.hid h
  clear h
  go_enter Try.func10, Try.ntmps10
  go_wp2_with fail
  refine (sp_those_Taken b g first is w H.out).mono ?_
  rintro e w1 ⟨v, rfl, hO, hB⟩
  have HO := Lib.hid hO
  clear hO
  go_wp2
  go_ret
  exact ⟨v, rfl, HO.out, hB⟩
theorem sp_those_Held (b g first : Nat) (is : List Int) (w : World) (h : IsSp w b g first is) :
    Calls Try.prog 24 #[.pointer (some ⟨b, 0, none⟩), .func (.func 26) #[] #[]] w fun e w' => ∃ v, e = .returned v ∧ OwnI w' w.heap.size v (sel pH first is is.length).length (sel pH first is is.length) ∧ Below w.heap.size w w' := by
  have H := Lib.hid h
  have c1 := h.c1
  have c0 := h.c0
  have hs := h.small
  obtain ⟨n, hn⟩ : ∃ n, n = is.length := ⟨_, rfl⟩
  rw [← hn] at c1 hs ⊢
  have HN := Lib.hid hn
  clear h hn
  go_enter Try.func24, Try.ntmps24
  go_wp2_with fail
  go_loopw [5, 6, 12] (fun v _ x wr => ∃ k m : Nat, k ≤ n ∧ x = .int .i64 k ∧ m ≤ k ∧ m = (sel pH first is k).length ∧ OwnI wr w.heap.size v m (sel pH first is k) ∧ Below w.heap.size w wr) (fun _ _ x _ => n - (intOf x).toNat)
  case atStart => exact ⟨0, 0, by omega, rfl, by omega, rfl, OwnI.nil _ _, Below.refl _ _⟩
  case round =>
    obtain ⟨k, m, hk, rfl, hmk, hm, hO, hB⟩ := hrel
    have HO := Lib.hid hO
    have HM := Lib.hid hm
    clear hO hm
    have hz := hB.size
    have d0 := cell_ext hB c0
    have d1 := cell_ext hB c1
    by_cases hkn : k < n
    · have cg := cell_ext hB (H.out.cg k (by rw [← HN.out]; exact hkn))
      have hsel : sel pH first is (k + 1) = if pH (is.getD k 0) then sel pH first is k ++ [((first + k : Nat) : Int)] else sel pH first is k := rfl
      generalize is.getD k 0 = x at *
      cases hp : pH x
      · rw [hp] at hsel
        have HS := Lib.hid hsel
        have HP := Lib.hid hp
        clear hsel hp
        go_wp2_with (go_at_call 26; refine (sp_pH _ _).mono ?_; rintro e w' ⟨rfl, rfl⟩; rw [HP.out])
        go_roundw
        case rel => exact ⟨k + 1, m, by omega, by go_num, by omega, by rw [HS.out]; exact HM.out, by rw [HS.out]; exact HO.out, hB⟩
        case measure => simp [intOf]; omega
      · rw [hp] at hsel
        have HS := Lib.hid hsel
        have HP := Lib.hid hp
        clear hsel hp
        have hfk : (first : Int) + k = ((first + k : Nat) : Int) := by omega
        have HF := Lib.hid hfk
        clear hfk
        go_wp2_with (first | (go_at_call 26; refine (sp_pH _ _).mono ?_; rintro e w' ⟨rfl, rfl⟩; rw [HP.out]) | (at_builtin; refine wp_appI1 (w0 := w) w.heap.size _ HO.out hB hz (by omega) _ _ rfl rfl rfl rfl ?_; intro v1 w1 hO1 hB1; have HO1 := Lib.hid hO1; clear hO1))
        go_roundw
        case rel => exact ⟨k + 1, m + 1, by omega, by go_num, by omega, by rw [HS.out]; simp; exact HM.out, by rw [HS.out]; have := HO1.out; rw [HF.out] at this; exact this, hB1⟩
        case measure => simp [intOf]; omega
    · obtain rfl : k = n := by omega
      go_wp2
      go_ret
      exact ⟨_, rfl, by rw [← HM.out]; exact HO.out, hB⟩
theorem sp_Held (b g first : Nat) (is : List Int) (w : World) (h : IsSp w b g first is) :
    Calls Try.prog 14 #[.pointer (some ⟨b, 0, none⟩)] w fun e w' => ∃ v, e = .returned v ∧ OwnI w' w.heap.size v (sel pH first is is.length).length (sel pH first is is.length) ∧ Below w.heap.size w w' := by
  have H := Lib.hid h
  clear h
  go_enter Try.func14, Try.ntmps14
  go_wp2_with fail
  refine (sp_those_Held b g first is w H.out).mono ?_
  rintro e w1 ⟨v, rfl, hO, hB⟩
  have HO := Lib.hid hO
  clear hO
  go_wp2
  go_ret
  exact ⟨v, rfl, HO.out, hB⟩
end Go.Proofs.Ytodondpggkohjaa
