/- The plain law of the space, second part: what was taken at a Commit stays, and Back brings it back. -/
import Derived.Test.YtodondpggkohjaaSpM
set_option linter.unusedVariables false
set_option linter.unusedSimpArgs false
namespace Go.Proofs.Ytodondpggkohjaa
open Go.RowKit
/-- only free and old ones -/
def StC (is : List Int) : Prop := ∀ x ∈ is, x = 0 ∨ x = 2
theorem StC.ok {is : List Int} (h : StC is) : StOk is := fun x hx => by have := h x hx; omega
theorem StC.at_ {is : List Int} (h : StC is) (j : Nat) (hj : j < is.length) : is.getD j 0 = 0 ∨ is.getD j 0 = 2 := by
  rw [List.getD_eq_getElem?_getD, List.getElem?_eq_getElem hj]
  exact h _ (List.getElem_mem hj)
theorem StC.commit {is : List Int} (h : StOk is) : StC (commitS is) := by
  intro y hy
  obtain ⟨x, hx, rfl⟩ := List.mem_map.1 hy
  obtain ⟨z, hz, rfl⟩ := List.mem_map.1 hx
  have := h z hz
  split <;> split <;> omega
theorem StC.held {is : List Int} (h : StC is) (first : Nat) : sel pH first is is.length = [] := by
  cases hs : sel pH first is is.length with
  | nil => rfl
  | cons a l =>
    exfalso
    obtain ⟨i, hi, _, hp⟩ := (sel_mem pH first is a is.length).1 (by rw [hs]; simp)
    have := h.at_ i hi
    have := of_decide_eq_true hp
    omega
/-- from the committed states is0 on, no Commit and no Back -/
structure Since (is0 is : List Int) : Prop where
  c : StC is0
  len : is.length = is0.length
  at_ : ∀ i, i < is0.length → (is0.getD i 0 = 2 → is.getD i 0 = 2 ∨ is.getD i 0 = 3) ∧ (is0.getD i 0 = 0 → is.getD i 0 = 0 ∨ is.getD i 0 = 1)
theorem Since.start {is0 : List Int} (h : StC is0) : Since is0 is0 := ⟨h, rfl, fun i hi => ⟨fun h => .inl h, fun h => .inl h⟩⟩
theorem getD_set (is : List Int) (i j : Nat) (x : Int) (hj : j < is.length) : (is.set j x).getD i 0 = if i = j then x else is.getD i 0 := by
  rw [List.getD_eq_getElem?_getD, List.getElem?_set]
  by_cases e : j = i
  · subst e; simp [hj]
  · rw [if_neg e, if_neg (Ne.symm e), List.getD_eq_getElem?_getD]
theorem Since.set {is0 is : List Int} (h : Since is0 is) (j : Nat) (x : Int) (hj : j < is.length) (hx : (is.getD j 0 = 2 ∨ is.getD j 0 = 3 → x = 2 ∨ x = 3) ∧ (is.getD j 0 = 0 ∨ is.getD j 0 = 1 → x = 0 ∨ x = 1)) : Since is0 (is.set j x) := by
  refine ⟨h.c, by rw [List.length_set]; exact h.len, fun i hi => ?_⟩
  rw [getD_set _ _ _ _ hj]
  have := h.at_ i hi
  split
  · rename_i e
    subst e
    exact ⟨fun q => hx.1 (this.1 q), fun q => hx.2 (this.2 q)⟩
  · exact this
theorem Since.ok {is0 is : List Int} (h : Since is0 is) : StOk is := by
  intro x hx
  obtain ⟨i, hi, e⟩ := List.getElem_of_mem hx
  have e' : is.getD i 0 = x := by rw [List.getD_eq_getElem?_getD, List.getElem?_eq_getElem hi]; exact e
  have hi0 : i < is0.length := by rw [← h.len]; exact hi
  have h0 := h.c.at_ i hi0
  have h1 := h.at_ i hi0
  omega
theorem Since.take {is0 is : List Int} (h : Since is0 is) : Since is0 (takeS is) := by
  by_cases hl : is.idxOf 0 < is.length
  · refine h.set _ 1 hl ?_
    have := idx_zero hl
    omega
  · rw [takeS, List.set_eq_of_length_le (by omega)]
    exact h
theorem Since.give {is0 is : List Int} (h : Since is0 is) (first : Nat) (blk : Int) : Since is0 (giveS first is blk) := by
  unfold giveS
  split
  · rename_i hg
    have hg := of_decide_eq_true hg
    have hj : (blk - first).toNat < is.length := by omega
    split
    · exact h.set _ _ hj (by omega)
    · split
      · exact h.set _ _ hj (by omega)
      · exact h
  · exact h
theorem Since.back {is0 is : List Int} (h : Since is0 is) : backS is = is0 := by
  apply List.ext_getElem
  · rw [backS_length, h.len]
  · intro i h1 h2
    have h3 := h.at_ i h2
    have h0 := h.c.at_ i h2
    have hi : i < is.length := by rw [h.len]; exact h2
    have e0 : is0.getD i 0 = is0[i] := by rw [List.getD_eq_getElem?_getD, List.getElem?_eq_getElem h2]; rfl
    have e1 : is.getD i 0 = is[i] := by rw [List.getD_eq_getElem?_getD, List.getElem?_eq_getElem hi]; rfl
    rw [e0, e1] at h3
    rw [e0] at h0
    simp only [backS, List.getElem_map]
    split <;> split <;> omega
theorem Since.fresh {is0 is : List Int} (h : Since is0 is) (first : Nat) (he : takeE is = 0) : inL (sel pT first is0 is0.length) (takeB first is) = false := by
  unfold takeE at he
  unfold takeB
  split at he
  · rename_i hl
    rw [if_pos hl, inL_sel _ _ _ _ _ (by rw [← h.len]; exact hl)]
    have h1 := idx_zero hl
    have hi : is.idxOf 0 < is0.length := by rw [← h.len]; exact hl
    have h3 := h.at_ _ hi
    have h0 := h.c.at_ _ hi
    apply decide_eq_false
    omega
  · omega
theorem takeE_val (is : List Int) : takeE is = 0 ∨ takeE is = 3 := by unfold takeE; split <;> simp
end Go.Proofs.Ytodondpggkohjaa
