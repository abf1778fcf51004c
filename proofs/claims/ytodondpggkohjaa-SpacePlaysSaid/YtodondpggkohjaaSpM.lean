/- The plain law of the space: what its states come to. -/
import Derived.Test.YtodondpggkohjaaSpL3
set_option linter.unusedVariables false
set_option linter.unusedSimpArgs false
namespace Go.Proofs.Ytodondpggkohjaa
open Go.RowKit
/-- The cells of a script. -/
structure RdO (w : World) (A : Option Addr) (n c : Nat) (l : List OpV) : Prop where
  len : l.length = n
  cap : n ≤ c
  max : n ≤ 140737488355328
  ok : ∀ o ∈ l, o.ok
  at_ : 0 < n → ∃ b o, A = some ⟨b, o, none⟩ ∧ ∀ j, j < n → w.cell? ⟨b, o + j * 3, none⟩ = some (.bool (l.getD j default).two) ∧ w.cell? ⟨b, o + j * 3 + 1, none⟩ = some (.int .i64 (l.getD j default).kind) ∧ w.cell? ⟨b, o + j * 3 + 2, none⟩ = some (.int .i64 (l.getD j default).blk)
def StOk (is : List Int) : Prop := ∀ x ∈ is, x = 0 ∨ x = 1 ∨ x = 2 ∨ x = 3
theorem StOk.at_ {is : List Int} (h : StOk is) (j : Nat) (hj : j < is.length) : is.getD j 0 = 0 ∨ is.getD j 0 = 1 ∨ is.getD j 0 = 2 ∨ is.getD j 0 = 3 := by
  rw [List.getD_eq_getElem?_getD, List.getElem?_eq_getElem hj]
  exact h _ (List.getElem_mem hj)
theorem StOk.set {is : List Int} (h : StOk is) (j : Nat) (x : Int) (hx : x = 0 ∨ x = 1 ∨ x = 2 ∨ x = 3) : StOk (is.set j x) := by
  intro y hy
  rcases List.mem_or_eq_of_mem_set hy with hy | hy
  · exact h y hy
  · rw [hy]; exact hx
theorem StOk.take {is : List Int} (h : StOk is) : StOk (takeS is) := h.set _ 1 (by omega)
theorem StOk.give {is : List Int} (h : StOk is) (first : Nat) (blk : Int) : StOk (giveS first is blk) := by
  unfold giveS
  repeat' split
  all_goals first | exact h | exact h.set _ _ (by omega)
theorem StOk.map {is : List Int} (h : StOk is) (was now : Int) (hn : now = 0 ∨ now = 1 ∨ now = 2 ∨ now = 3) : StOk (is.map fun x => if x = was then now else x) := by
  intro y hy
  obtain ⟨x, hx, rfl⟩ := List.mem_map.1 hy
  split
  · exact hn
  · exact h x hx
theorem StOk.commit {is : List Int} (h : StOk is) : StOk (commitS is) := (h.map 1 2 (by omega)).map 3 0 (by omega)
theorem StOk.back {is : List Int} (h : StOk is) : StOk (backS is) := (h.map 1 0 (by omega)).map 3 2 (by omega)
theorem StOk.play {is : List Int} (h : StOk is) (first : Nat) (o : OpV) : StOk (playS first is o) := by
  unfold playS
  repeat' split
  · exact h.take
  · exact h.give _ _
  · exact h.commit
  · exact h.back
  · exact h
theorem takeS_length (is : List Int) : (takeS is).length = is.length := by simp [takeS]
theorem giveS_length (first : Nat) (is : List Int) (blk : Int) : (giveS first is blk).length = is.length := by
  unfold giveS
  repeat' split
  all_goals simp
theorem commitS_length (is : List Int) : (commitS is).length = is.length := by simp [commitS]
theorem backS_length (is : List Int) : (backS is).length = is.length := by simp [backS]
theorem playS_length (first : Nat) (is : List Int) (o : OpV) : (playS first is o).length = is.length := by
  unfold playS
  repeat' split
  · exact takeS_length _
  · exact giveS_length _ _ _
  · exact commitS_length _
  · exact backS_length _
  · rfl
theorem sel_mem (p : Int → Bool) (first : Nat) (is : List Int) (x : Int) : ∀ k, x ∈ sel p first is k ↔ ∃ i, i < k ∧ x = ((first + i : Nat) : Int) ∧ p (is.getD i 0) = true
  | 0 => by simp [sel]
  | k + 1 => by
    have ih := sel_mem p first is x k
    rw [sel]
    cases hp : p (is.getD k 0)
    · simp only [Bool.false_eq_true, if_false, ih]
      constructor
      · rintro ⟨i, h1, h2, h3⟩; exact ⟨i, by omega, h2, h3⟩
      · rintro ⟨i, h1, h2, h3⟩
        refine ⟨i, ?_, h2, h3⟩
        rcases Nat.lt_or_ge i k with h | h
        · exact h
        · obtain rfl : i = k := by omega
          rw [hp] at h3; cases h3
    · simp only [if_true, List.mem_append, ih, List.mem_singleton]
      constructor
      · rintro (⟨i, h1, h2, h3⟩ | h)
        · exact ⟨i, by omega, h2, h3⟩
        · exact ⟨k, by omega, h, hp⟩
      · rintro ⟨i, h1, h2, h3⟩
        rcases Nat.lt_or_ge i k with h | h
        · exact .inl ⟨i, h, h2, h3⟩
        · obtain rfl : i = k := by omega
          exact .inr h2
theorem inL_sel (p : Int → Bool) (first : Nat) (is : List Int) (k j : Nat) (hj : j < k) : inL (sel p first is k) ((first + j : Nat) : Int) = p (is.getD j 0) := by
  cases hp : p (is.getD j 0)
  · apply decide_eq_false
    intro h
    obtain ⟨i, _, h2, h3⟩ := (sel_mem p first is _ k).1 h
    obtain rfl : i = j := by omega
    rw [hp] at h3; cases h3
  · exact decide_eq_true ((sel_mem p first is _ k).2 ⟨j, hj, rfl, hp⟩)
/-- free, taken and held are the whole -/
theorem sel_sum {is : List Int} (h : StOk is) (first : Nat) : ∀ k, k ≤ is.length → (is.take k).count 0 + (sel pT first is k).length + (sel pH first is k).length = k
  | 0, _ => by simp [sel]
  | k + 1, hk => by
    have ih := sel_sum h first k (by omega)
    have hs := h.at_ k (by omega)
    have ht : is.take (k + 1) = is.take k ++ [is.getD k 0] := by
      rw [List.getD_eq_getElem?_getD, List.getElem?_eq_getElem (show k < is.length by omega), Option.getD_some, List.take_append_getElem (show k < is.length by omega)]
    rw [ht, List.count_append, sel, sel]
    rcases hs with hs | hs | hs | hs
    · rw [hs, show pT 0 = false by decide, show pH 0 = false by decide]; simp; omega
    · rw [hs, show pT 1 = true by decide, show pH 1 = false by decide]; simp; omega
    · rw [hs, show pT 2 = true by decide, show pH 2 = false by decide]; simp; omega
    · rw [hs, show pT 3 = false by decide, show pH 3 = true by decide]; simp; omega
theorem sel_whole {is : List Int} (h : StOk is) (first : Nat) : is.count 0 + (sel pT first is is.length).length + (sel pH first is is.length).length = is.length := by
  have := sel_sum h first is.length (Nat.le_refl _)
  rwa [List.take_length] at this
theorem risL_sel (p : Int → Bool) (is : List Int) (m : Nat) (hm : is.length = m) : risL (sel p 2 is is.length) m = true := by
  apply decide_eq_true
  intro i hi
  have := sel_get p 2 is is.length i hi
  exact ⟨this.1, by omega, this.2.2⟩
theorem held_not_taken (first : Nat) (is : List Int) (j : Nat) (hj : j < (sel pH first is is.length).length) : inL (sel pT first is is.length) ((sel pH first is is.length).getD j 0) = false := by
  have hm : (sel pH first is is.length).getD j 0 ∈ sel pH first is is.length := by
    rw [List.getD_eq_getElem?_getD, List.getElem?_eq_getElem hj]; exact List.getElem_mem hj
  obtain ⟨i, hi, e, hp⟩ := (sel_mem pH first is _ _).1 hm
  rw [e, inL_sel _ _ _ _ _ hi]
  have := of_decide_eq_true hp
  apply decide_eq_false
  omega
theorem taken_or_held {is : List Int} (h : StOk is) (first j : Nat) (hj : j < is.length) : is.getD j 0 = 0 ↔ inL (sel pT first is is.length) ((first + j : Nat) : Int) = false ∧ inL (sel pH first is is.length) ((first + j : Nat) : Int) = false := by
  rw [inL_sel _ _ _ _ _ hj, inL_sel _ _ _ _ _ hj]
  have := h.at_ j hj
  unfold pT pH
  rw [decide_eq_false_iff_not, decide_eq_false_iff_not]
  omega
theorem idx_of {is : List Int} {j : Nat} (hj : j < is.length) (h0 : is.getD j 0 = 0) (hlow : ∀ i, i < j → is.getD i 0 ≠ 0) : is.idxOf 0 = j := by
  have h1 := idx_low is
  rcases Nat.lt_trichotomy (is.idxOf 0) j with h | h | h
  · exact absurd (idx_zero (by omega)) (hlow _ h)
  · exact h
  · exact absurd h0 (h1 j h)
theorem idx_none {is : List Int} (hlow : ∀ i, i < is.length → is.getD i 0 ≠ 0) : is.idxOf 0 = is.length := by
  have := idx_le is
  rcases Nat.lt_or_ge (is.idxOf 0) is.length with h | h
  · exact absurd (idx_zero h) (hlow _ h)
  · omega
theorem taken_taken {is : List Int} (first : Nat) (h : is.idxOf 0 < is.length) : inL (sel pT first (takeS is) (takeS is).length) ((first + is.idxOf 0 : Nat) : Int) = true := by
  rw [inL_sel _ _ _ _ _ (by rw [takeS_length]; exact h), takeS, List.getD_eq_getElem?_getD, List.getElem?_set_self h]
  decide
end Go.Proofs.Ytodondpggkohjaa
