/- The walk of the space's Give. -/
import Derived.Test.YtodondpggkohjaaSp1
set_option linter.unusedVariables false
set_option linter.unusedSimpArgs false
namespace Go.Proofs.Ytodondpggkohjaa
open Go.RowKit
def gOk (first : Nat) (is : List Int) (blk : Int) : Bool := decide ((first : Int) ≤ blk ∧ blk - first < is.length)
def giveE (first : Nat) (is : List Int) (blk : Int) : Int :=
  if gOk first is blk then (if is.getD (blk - first).toNat 0 = 1 then 0 else if is.getD (blk - first).toNat 0 = 2 then 0 else 81) else 1
def giveS (first : Nat) (is : List Int) (blk : Int) : List Int :=
  if gOk first is blk then (if is.getD (blk - first).toNat 0 = 1 then is.set (blk - first).toNat 0 else if is.getD (blk - first).toNat 0 = 2 then is.set (blk - first).toNat 3 else is) else is
theorem give_bad {first : Nat} {is : List Int} {blk : Int} (h : ¬ ((first : Int) ≤ blk ∧ blk - first < is.length)) : giveE first is blk = 1 ∧ giveS first is blk = is := by
  have : gOk first is blk = false := decide_eq_false h
  simp [giveE, giveS, this]
theorem give_ok {first : Nat} {is : List Int} {blk : Int} {i : Nat} (hi : blk - first = i) (h : i < is.length) :
    giveE first is blk = (if is.getD i 0 = 1 then 0 else if is.getD i 0 = 2 then 0 else 81) ∧ giveS first is blk = (if is.getD i 0 = 1 then is.set i 0 else if is.getD i 0 = 2 then is.set i 3 else is) := by
  have : gOk first is blk = true := decide_eq_true ⟨by omega, by omega⟩
  have h2 : (blk - first).toNat = i := by omega
  simp [giveE, giveS, this, h2]
theorem ret_i64 {a b : Int} (h : a = b) : Ending.returned (.int .i64 a) = .returned (.int .i64 b) := by rw [h]
theorem sp_Give (b g first : Nat) (is : List Int) (blk : Int) (w : World) (h : IsSp w b g first is) (hb : -9223372036854775808 ≤ blk ∧ blk < 9223372036854775808) :
    Calls Try.prog 13 #[.pointer (some ⟨b, 0, none⟩), .int .i64 blk] w fun e w' => e = .returned (.int .i64 (giveE first is blk)) ∧ IsSp w' b g first (giveS first is blk) ∧ Only [b, g] w w' := by
  have H := Lib.hid h
  have c0 := h.c0
  have c1 := h.c1
  have c2 := h.c2
  have f2 := h.f2 2
  have hs := h.small
  have hcm : is.count 0 ≤ 4096 := Nat.le_trans List.count_le_length hs.1
  obtain ⟨n, hn⟩ : ∃ n, n = is.length := ⟨_, rfl⟩
  rw [← hn] at c1 hs
  have HN := Lib.hid hn
  have hbg := h.ne
  have hgb := Ne.symm h.ne
  clear h hn
  by_cases h1 : blk < first
  · have hd : decide (blk < (first : Int)) = true := decide_eq_true h1
    have HG := Lib.hid (give_bad (first := first) (is := is) (blk := blk) (by omega))
    go_enter Try.func13, Try.ntmps13
    go_wp2_with fail
    go_quiet ((fail))
    go_wp2
    go_ret
    exact ⟨ret_i64 HG.out.1.symm, by rw [HG.out.2]; exact H.out.only ((Only.refl [] _).drewN _) (by simp) (by simp), (Only.refl _ _).drewN _⟩
  have hd : decide (blk < (first : Int)) = false := decide_eq_false h1
  by_cases h2 : (n : Int) ≤ blk - first
  · have hd2 : decide ((n : Int) ≤ blk - first) = true := decide_eq_true h2
    have HG := Lib.hid (give_bad (first := first) (is := is) (blk := blk) (by rw [← HN.out]; omega))
    go_enter Try.func13, Try.ntmps13
    go_wp2_with fail
    go_quiet ((fail))
    go_wp2
    go_ret
    exact ⟨ret_i64 HG.out.1.symm, by rw [HG.out.2]; exact H.out.only ((Only.refl [] _).drewN _) (by simp) (by simp), (Only.refl _ _).drewN _⟩
  obtain ⟨i, hi⟩ := Int.eq_ofNat_of_zero_le (show 0 ≤ blk - first by omega)
  have hin : i < n := by omega
  have HG := Lib.hid (give_ok (first := first) (is := is) (blk := blk) hi (by rw [← HN.out]; exact hin))
  have hd2 : decide ((n : Int) ≤ (i : Int)) = false := decide_eq_false (by omega)
  have cg := H.out.cg i (by rw [← HN.out]; exact hin)
  have fg := H.out.fg i
  have HT := Lib.hid (fun x => count_set is i x (by rw [← HN.out]; exact hin))
  obtain ⟨x, hx⟩ : ∃ x, x = is.getD i 0 := ⟨_, rfl⟩
  rw [← hx] at cg
  have HX := Lib.hid hx
  obtain ⟨cn, hcn⟩ : ∃ cn, cn = is.count 0 := ⟨_, rfl⟩
  rw [← hcn] at c2 hcm
  have HC := Lib.hid hcn
  clear hx hcn
  by_cases hx1 : x = 1
  · have HX1 := Lib.hid hx1
    have hq1 : (x == 1) = true := by simpa using hx1
    clear hx1
    go_enter Try.func13, Try.ntmps13
    go_wp2_with fail
    go_quiet ((fail))
    go_wp2
    go_ret
    have hI : IsSp (w.drewN nq) b g first is := H.out.only ((Only.refl [] _).drewN _) (by simp) (by simp)
    refine ⟨ret_i64 (by rw [HG.out.1, ← HX.out, HX1.out]; rfl), ?_, (((Only.refl _ _).drewN _).setCell (by simp) _).setCell (by simp) _⟩
    rw [HG.out.2, ← HX.out, if_pos HX1.out]
    exact hI.store i 0 _ (by have := HT.out 0; rw [← HX.out, HX1.out, ← HC.out] at this; simp at this; omega)
  · have HX1 := Lib.hid hx1
    have hq1 : (x == 1) = false := by simpa using hx1
    clear hx1
    by_cases hx2 : x = 2
    · have HX2 := Lib.hid hx2
      have hq2 : (x == 2) = true := by simpa using hx2
      clear hx2
      go_enter Try.func13, Try.ntmps13
      go_wp2_with fail
      go_quiet ((fail))
      go_wp2
      go_ret
      have hI : IsSp (w.drewN nq) b g first is := H.out.only ((Only.refl [] _).drewN _) (by simp) (by simp)
      refine ⟨ret_i64 (by rw [HG.out.1, ← HX.out, HX2.out]; rfl), ?_, ((Only.refl _ _).drewN _).setCell (by simp) _⟩
      rw [HG.out.2, ← HX.out, if_neg HX1.out, if_pos HX2.out]
      exact hI.store1 i 3 (by have := HT.out 3; rw [← HX.out, HX2.out] at this; simpa using this)
    · have HX2 := Lib.hid hx2
      have hq2 : (x == 2) = false := by simpa using hx2
      clear hx2
      go_enter Try.func13, Try.ntmps13
      go_wp2_with fail
      go_quiet ((fail))
      go_wp2
      go_ret
      have hI : IsSp (w.drewN nq) b g first is := H.out.only ((Only.refl [] _).drewN _) (by simp) (by simp)
      refine ⟨ret_i64 (by rw [HG.out.1, ← HX.out, if_neg HX1.out, if_neg HX2.out]), ?_, (Only.refl _ _).drewN _⟩
      rw [HG.out.2, ← HX.out, if_neg HX1.out, if_neg HX2.out]
      exact hI
end Go.Proofs.Ytodondpggkohjaa
