/- What layings do to a block: the plain part of DevStays, DevLeaves. -/
import Derived.Test.YtjbffahmjhbpjaaDvh
set_option linter.unusedVariables false
set_option linter.unusedSimpArgs false
set_option maxRecDepth 100000
namespace Go.Proofs.Ytjbffahmjhbpjaa
open Go.RowKit
theorem blkM_splice_out (M X : List UInt8) (off k : Nat) (h : off + X.length ≤ M.length) (ho : off + X.length ≤ k * 512 ∨ k * 512 + 512 ≤ off) : blkM (splice M off X) k = blkM M k := by
  apply List.ext_getElem?
  intro i
  by_cases hi : i < 512
  · rw [blkM_get _ _ _ hi, blkM_get _ _ _ hi, splice_get _ _ _ _ h, if_neg (by omega)]
  · have h1 : ∀ M : List UInt8, (blkM M k)[i]? = none := fun M => List.getElem?_eq_none (by unfold blkM; rw [List.length_take]; omega)
    rw [h1, h1]
theorem layP_other {M : List UInt8} {x : Pd} {m N k : Nat} (hM : M.length = N * 512) (h1 : x.num < N) (h2 : x.data.length = 512) (hne : x.num ≠ k) : blkM (layP M x m) k = blkM M k := by
  have h3 : (x.data.take m).length ≤ 512 := by rw [List.length_take]; omega
  refine blkM_splice_out M (x.data.take m) (x.num * 512) k (by omega) ?_
  rcases (by omega : x.num < k ∨ k < x.num) with h | h
  · left; omega
  · right; omega
theorem layP_same {M : List UInt8} {x : Pd} {m N : Nat} (hM : M.length = N * 512) (h1 : x.num < N) (h2 : x.data.length = 512) : blkM (layP M x m) x.num = x.data.take m ++ (blkM M x.num).drop m := by
  have h3 : (x.data.take m).length = min m 512 := by rw [List.length_take, h2]
  have hb : ∀ M : List UInt8, M.length = N * 512 → (blkM M x.num).length = 512 := fun M h => blkM_len M x.num (by rw [h]; have : (x.num + 1) * 512 ≤ N * 512 := Nat.mul_le_mul_right _ h1; omega)
  apply List.ext_getElem?
  intro i
  by_cases hi : i < 512
  · rw [blkM_get _ _ _ hi, layP, splice_get _ _ _ _ (by omega)]
    by_cases him : i < m
    · rw [if_pos (by omega), List.getElem?_append_left (by omega)]
      congr 1; omega
    · rw [if_neg (by omega), List.getElem?_append_right (by omega), List.getElem?_drop, h3, blkM_get _ _ _ (by omega)]
      congr 1; omega
  · rw [List.getElem?_eq_none (by rw [hb _ (layP_len hM h1 h2)]; omega), List.getElem?_eq_none (by rw [List.length_append, List.length_drop, hb M hM]; omega)]
theorem layA_len {f : Nat → Nat} {N : Nat} : ∀ (i : Nat) (C : List Pd) (M : List UInt8), PdOk N C → M.length = N * 512 → (layA f i C M).length = N * 512
  | i, [], M, _, h => h
  | i, x :: r, M, hc, h => by
    rw [layA]
    exact layA_len (i + 1) r _ (fun y hy => hc y (by simp [hy])) (layP_len h (hc x (by simp)).1 (hc x (by simp)).2)
theorem layA_other {f : Nat → Nat} {N k : Nat} : ∀ (i : Nat) (C : List Pd) (M : List UInt8), PdOk N C → M.length = N * 512 → (∀ x ∈ C, x.num ≠ k) → blkM (layA f i C M) k = blkM M k
  | i, [], M, _, _, _ => rfl
  | i, x :: r, M, hc, h, hne => by
    have hx := hc x (by simp)
    rw [layA, layA_other (i + 1) r _ (fun y hy => hc y (by simp [hy])) (layP_len h hx.1 hx.2) (fun y hy => hne y (by simp [hy])), layP_other h hx.1 hx.2 (hne x (by simp))]
theorem layA_full {N k : Nat} : ∀ (i : Nat) (C : List Pd) (M : List UInt8), PdOk N C → M.length = N * 512 → blkM (layA (fun _ => 512) i C M) k = rdC C k (blkM M k)
  | i, [], M, _, _ => rfl
  | i, x :: r, M, hc, h => by
    have hx := hc x (by simp)
    rw [layA, layA_full (i + 1) r _ (fun y hy => hc y (by simp [hy])) (layP_len h hx.1 hx.2), rdC]
    by_cases he : x.num = k
    · subst he
      rw [if_pos rfl, layP_same h hx.1 hx.2, List.take_of_length_le (by omega), List.drop_eq_nil_of_le (by unfold blkM; rw [List.length_take]; omega), List.append_nil]
    · rw [if_neg he, layP_other h hx.1 hx.2 he]
/-- a step that neither writes nor edits block k -/
def offK (x : OpD) (k : Nat) : Prop := ¬ ((x.kind = 3 ∨ x.kind = 9) ∧ x.blk = (k : Int))
theorem plD_keep {D : DS} {k : Nat} (x : OpD) (hM : D.M.length = D.n * 512) (hC : PdOk D.n D.C) (hk : k < D.n) (hne : ∀ y ∈ D.C, y.num ≠ k) (hs : offK x k) : (∀ y ∈ (plD D x).2.C, y.num ≠ k) ∧ blkM (plD D x).2.M k = blkM D.M k := by
  have ha := actD_keeps D
  have hA : (∀ y ∈ (actD D).2.C, y.num ≠ k) ∧ blkM (actD D).2.M k = blkM D.M k := by rw [ha.1, ha.2.1]; exact ⟨hne, rfl⟩
  unfold plD
  split
  · rename_i h3
    unfold wrD; split
    · exact ⟨hne, rfl⟩
    · split
      · exact ⟨hne, rfl⟩
      · split
        · refine ⟨fun y hy => ?_, hA.2⟩
          rcases List.mem_append.1 hy with hy | hy
          · exact hA.1 y hy
          · rw [List.mem_singleton.1 hy]
            intro e
            have e2 : x.blk.toNat = k := e
            exact hs ⟨.inl h3, by omega⟩
        · exact hA
  · split
    · unfold flD; split
      · refine ⟨by simp, ?_⟩
        show blkM (layA (fun _ => 512) 0 (actD D).2.C (actD D).2.M) k = _
        rw [ha.1, ha.2.1]
        exact layA_other 0 D.C D.M hC hM hne
      · exact hA
    · split
      · rename_i h9
        unfold edD; split
        · exact ⟨hne, rfl⟩
        · split
          · exact ⟨hne, rfl⟩
          · rename_i h1 h2
            refine ⟨hne, ?_⟩
            have h10 : x.blk ≠ (k : Int) := fun e => hs ⟨.inr h9, e⟩
            have h11 : 0 ≤ x.blk ∧ x.blk < (D.n : Int) := by omega
            have h12 : (x.blk.toNat + 1) * 512 ≤ D.n * 512 := Nat.mul_le_mul_right _ (by omega)
            have h13 : x.num.toNat + x.B.length ≤ 512 := by omega
            refine blkM_splice_out D.M x.B _ k (by omega) ?_
            rcases (by omega : x.blk.toNat < k ∨ k < x.blk.toNat) with h | h
            · left; omega
            · right; omega
      · split
        · unfold armD; split
          · exact ⟨hne, rfl⟩
          · split <;> exact ⟨hne, rfl⟩
        · split
          · refine ⟨by simp [crD], ?_⟩
            exact layA_other 0 D.C D.M hC hM hne
          · exact ⟨hne, rfl⟩
theorem fl_stays {D : DS} {k : Nat} (hM : D.M.length = D.n * 512) (hC : PdOk D.n D.C) (hf : (flD D).1 = 0) : (∀ y ∈ (flD D).2.C, y.num ≠ k) ∧ blkM (flD D).2.M k = rdB D k := by
  have ha := actD_keeps D
  revert hf
  unfold flD; split
  · intro _
    refine ⟨by simp, ?_⟩
    show blkM (layA (fun _ => 512) 0 (actD D).2.C (actD D).2.M) k = _
    rw [ha.1, ha.2.1]
    exact layA_full 0 D.C D.M hC hM
  · intro h; exact absurd h (by show ¬ ((6 : Int) = 0); decide)
theorem fl_down (D : DS) (hf : (flD D).1 ≠ 0) : (flD D).2.down = true := by
  revert hf
  unfold flD; split
  · intro h; exact absurd rfl h
  · rename_i h
    intro _
    revert h
    unfold actD; split
    · intro _; rfl
    · split
      · intro _; assumption
      · split <;> (intro h; exact absurd rfl h)
theorem flD_le {D : DS} {m : Nat} (h : D.le m) : (flD D).2.le (m + 1) := plD_le (D := D) ⟨false, 4, 0, 0, 0, 0, [], []⟩ ⟨by unfold i64B; simp, by unfold i64B; simp, by unfold i64B; simp, by unfold i64B; simp, by simp, by simp⟩ h
theorem flD_n (D : DS) : (flD D).2.n = D.n := plD_n D ⟨false, 4, 0, 0, 0, 0, [], []⟩
theorem crD_le {D : DS} {m : Nat} (l : List Ft) (h : D.le m) : (crD D l).le m := ⟨by show 0 < _; omega, Nat.zero_le _, h.wr, h.fl, h.rd⟩
end Go.Proofs.Ytjbffahmjhbpjaa
