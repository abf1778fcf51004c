/- SpacePlays: New of both, any arguments. -/
import Derived.Test.YtodondpggkohjaaSpQ7
import Derived.Test.YtodondpggkohjaaOwnI2
set_option linter.unusedVariables false
set_option linter.unusedSimpArgs false
set_option maxRecDepth 100000
namespace Go.Proofs.Ytodondpggkohjaa
open Go.RowKit
def SzOk (x y : Int) (l : List Int) (n : Nat) : Prop := (0 ≤ x ∧ x ≤ 4096 ∧ 0 ≤ y ∧ y ≤ x) ∧ NewOk y.toNat x.toNat l n
theorem not_newOk {first blocks : Nat} {l : List Int} {n : Nat} (h : ¬ NewOk first blocks l n) : ∃ i, (i < n ∧ tok l first blocks i = false) := by
  apply Classical.byContradiction
  intro hc
  apply h
  intro i hi
  cases ht : tok l first blocks i
  · exact absurd ⟨i, hi, ht⟩ hc
  · rfl
theorem sp_NewG (x y : Int) (A : Option Addr) (n c : Nat) (l : List Int) (w : World) (hr : RdI [] w A n c l) :
    Calls Try.prog 11 #[.int .i64 x, .int .i64 y, .slice A n c] w fun e w' => ∃ pa ea, e = .returned (.tuple #[.pointer pa, .int .i64 ea]) ∧ Below w.heap.size w w' ∧ (SzOk x y l n → (pa = some ⟨w.heap.size + 1, 0, none⟩ ∧ ea = 0) ∧ IsSp w' (w.heap.size + 1) w.heap.size y.toNat (nk l y.toNat (x.toNat - y.toNat) n)) ∧ (¬ SzOk x y l n → pa = none ∧ ea = 1) := by
  by_cases hb : 0 ≤ x ∧ x ≤ 4096 ∧ 0 ≤ y ∧ y ≤ x
  · have h := sp_New x.toNat y.toNat (by omega) (by omega) A n c l w hr
    rw [Int.toNat_of_nonneg hb.1, Int.toNat_of_nonneg hb.2.2.1] at h
    refine h.mono ?_
    rintro e w' ⟨h1, h2, h3⟩
    by_cases hs : SzOk x y l n
    · obtain ⟨e1, e2⟩ := h1 hs.2
      exact ⟨_, _, e1, h3, fun _ => ⟨⟨rfl, rfl⟩, e2⟩, fun h => absurd hs h⟩
    · exact ⟨_, _, h2 (not_newOk (fun hn => hs ⟨hb, hn⟩)), h3, fun h => absurd h hs, fun _ => ⟨rfl, rfl⟩⟩
  · refine (sp_New_bad x y (by omega) A n c w).mono ?_
    rintro e w' ⟨rfl, rfl⟩
    exact ⟨_, _, rfl, Below.refl _ _, fun hs => absurd hs.1 hb, fun _ => ⟨rfl, rfl⟩⟩
theorem rs_NewG (D : List Nat) (x y : Int) (A : Option Addr) (n c : Nat) (l : List Int) (w : World) (hr : RdI [] w A n c l) (hn : n ≤ 17592186044415) (hD : ∀ k ∈ D, k < w.heap.size) :
    Calls Try.prog 15 #[.int .i64 x, .int .i64 y, .slice A n c] w fun e w' => ∃ pa ea, e = .returned (.tuple #[.pointer pa, .int .i64 ea]) ∧ Below w.heap.size w w' ∧ (SzOk x y l n → ∃ r, (pa = some ⟨r, 0, none⟩ ∧ ea = 0) ∧ w.heap.size ≤ r ∧ r < w'.heap.size ∧ RsOk (r :: D) w' r x.toNat y.toNat l l) ∧ (¬ SzOk x y l n → pa = none ∧ ea = 1) := by
  by_cases hb : 0 ≤ x ∧ x ≤ 4096 ∧ 0 ≤ y ∧ y ≤ x
  · have h := rs_New D x.toNat y.toNat (by omega) (by omega) A n c l w hr hn hD
    rw [Int.toNat_of_nonneg hb.1, Int.toNat_of_nonneg hb.2.2.1] at h
    refine h.mono ?_
    rintro e w' ⟨h1, h2, h3⟩
    by_cases hs : SzOk x y l n
    · obtain ⟨r, e1, e2⟩ := h1 hs.2
      exact ⟨_, _, e1, h3, fun _ => ⟨r, ⟨rfl, rfl⟩, e2⟩, fun h => absurd hs h⟩
    · exact ⟨_, _, h2 (not_newOk (fun hn => hs ⟨hb, hn⟩)), h3, fun h => absurd h hs, fun _ => ⟨rfl, rfl⟩⟩
  · refine (rs_New_bad x y (by omega) A n c w).mono ?_
    rintro e w' ⟨rfl, rfl⟩
    exact ⟨_, _, rfl, Below.refl _ _, fun hs => absurd hs.1 hb, fun _ => ⟨rfl, rfl⟩⟩
/-- both made: the pair is in the same state -/
theorem pr_made {D : List Nat} {w : World} {b g r n : Nat} {x y : Int} {l : List Int} (hs : SzOk x y l n) (hln : l.length = n) (hI : IsSp w b g y.toNat (nk l y.toNat (x.toNat - y.toNat) n)) (hR : RsOk D w r x.toNat y.toNat l l) (dr : r ∈ D) (db : b ∈ D) (dg : g ∈ D) (lt : ∀ k ∈ D, k < w.heap.size) (rb : r ≠ b) (rg : r ≠ g) :
    Pr D w b g r y.toNat x.toNat (nk l y.toNat (x.toNat - y.toNat) n) := by
  have h1 := hs.1
  have hl := nk_length l y.toNat (x.toNat - y.toNat) n
  have hT := sel_nk pT (by decide) (by decide) y.toNat x.toNat l (by omega) n (by omega) hs.2
  have hW := sel_nk pW (by decide) (by decide) y.toNat x.toNat l (by omega) n (by omega) hs.2
  rw [List.take_of_length_le (by omega)] at hT hW
  exact ⟨hI, by rw [hl]; omega, st4_nk l _ _ n, by rw [hl, hT, hW]; exact hR, dr, db, dg, lt, rb, rg⟩
end Go.Proofs.Ytodondpggkohjaa
