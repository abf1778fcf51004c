/- Pages: blocks, keys, lists of blocks. -/
import Derived.Test.YtlandlgjhnnaiaaPgW
set_option linter.unusedVariables false
set_option linter.unusedSimpArgs false
set_option maxRecDepth 100000
namespace Go.Proofs.Ytlandlgjhnnaiaa
open Go.RowKit
theorem pg_isBlock (b : Int) (w : World) : Calls Try.prog 59 #[.int .i64 b] w fun e w' => e = .returned (.bool (blkOk b)) ∧ w' = w := by
  unfold blkOk
  by_cases h1 : 1 ≤ b
  · by_cases h2 : b < 4096
    · go_enter Try.func59, Try.ntmps59
      go_wp2
      go_ret
      exact ⟨by simp [h1, h2], rfl⟩
    · go_enter Try.func59, Try.ntmps59
      go_wp2
      go_ret
      exact ⟨by simp [h1, h2], rfl⟩
  · go_enter Try.func59, Try.ntmps59
    go_wp2
    go_ret
    exact ⟨by rw [decide_eq_false (show ¬ 1 ≤ b by omega), Bool.false_and]; rfl, rfl⟩
theorem rn_block (b : Int) (w : World) : Calls Try.prog 57 #[.int .i64 b] w fun e w' => e = .returned (.bool (blkOk b)) ∧ w' = w := by
  unfold blkOk
  by_cases h1 : 1 ≤ b
  · by_cases h2 : b < 4096
    · go_enter Try.func57, Try.ntmps57
      go_wp2
      go_ret
      exact ⟨by simp [h1, h2], rfl⟩
    · go_enter Try.func57, Try.ntmps57
      go_wp2
      go_ret
      exact ⟨by simp [h1, h2], rfl⟩
  · go_enter Try.func57, Try.ntmps57
    go_wp2
    go_ret
    exact ⟨by rw [decide_eq_false (show ¬ 1 ≤ b by omega), Bool.false_and]; rfl, rfl⟩
theorem pg_isKey (k : ByteArray) (w : World) : Calls Try.prog 58 #[.string k] w fun e w' => e = .returned (.bool (keyOk k)) ∧ w' = w := by
  unfold keyOk
  obtain ⟨n, hn⟩ : ∃ n, n = k.size := ⟨_, rfl⟩
  by_cases h1 : 1 ≤ n
  · by_cases h2 : n ≤ 120
    · go_enter Try.func58, Try.ntmps58
      go_wp2
      go_ret
      exact ⟨by rw [← hn]; simp [h1, h2]; try omega, rfl⟩
    · go_enter Try.func58, Try.ntmps58
      go_wp2
      go_ret
      exact ⟨by rw [← hn]; simp [h1, h2]; try omega, rfl⟩
  · go_enter Try.func58, Try.ntmps58
    go_wp2
    go_ret
    exact ⟨by rw [← hn]; simp [h1]; try omega, rfl⟩
/-! ### a list of blocks -/
def seenC (S : List Int) : List Value := (List.range 4096).map fun (j : Nat) => .bool (S.contains (j : Int))
theorem seenC_len (S : List Int) : (seenC S).length = 4096 := by simp [seenC]
theorem seenC_get (S : List Int) (j : Nat) (h : j < 4096) : (seenC S)[j]? = some (.bool (S.contains (j : Int))) := by
  unfold seenC; rw [List.getElem?_map, List.getElem?_eq_getElem (by simpa using h)]; simp
theorem seenC_set (S : List Int) (j : Nat) (h : j < 4096) : (seenC S).toArray.setIfInBounds j (.bool true) = (seenC ((j : Int) :: S)).toArray := by
  apply Array.ext'
  rw [Array.toList_setIfInBounds]
  apply List.ext_getElem?
  intro i
  rw [List.getElem?_set, seenC_len]
  by_cases e : j = i
  · subst e
    rw [if_pos rfl, if_pos h, seenC_get _ _ h]
    simp
  · rw [if_neg e]
    by_cases hi : i < 4096
    · rw [seenC_get _ _ hi, seenC_get _ _ hi, List.contains_cons]
      have : ((i : Int) == (j : Int)) = false := by simp; omega
      rw [this, Bool.false_or]
    · rw [List.getElem?_eq_none (by rw [seenC_len]; omega), List.getElem?_eq_none (by rw [seenC_len]; omega)]
theorem seenC_nil : (seenC []).toArray = Array.replicate 4096 (.bool false) := by
  apply Array.ext_getElem?
  intro i
  rw [List.getElem?_toArray, Array.getElem?_replicate]
  by_cases hi : i < 4096
  · rw [seenC_get _ _ hi, if_pos hi]; rfl
  · rw [List.getElem?_eq_none (by rw [seenC_len]; omega), if_neg hi]
theorem seenC_one (S : List Int) : ∀ u ∈ seenC S, u.oneCell' = true := by
  intro u hu; simp only [seenC, List.mem_map] at hu; obtain ⟨c, _, rfl⟩ := hu; rfl
theorem built_seen : Try.prog.built 83 [] = some (Array.replicate 4096 (.bool false)) := by kernel_rfl
theorem build_seen (W : World) : (Instr.build 83 #[]).run Try.prog W = .ok (.agg (seenC []).toArray) W := run_build W _ _ _ (by rw [seenC_nil]; exact built_seen)
theorem zero_seen (W : World) : (zeroValue 83).run Try.prog W = .ok (.agg (seenC []).toArray) W := by
  obtain ⟨i0, hi, hzz⟩ := Option.map_eq_some_iff.1 info_seen
  simp only [Prod.mk.injEq] at hzz
  obtain ⟨hz0, hz1, hz2⟩ := hzz
  rw [seenC_nil]
  simp [zeroValue, typeInfo, hi, hz0]
theorem al_seen (W : World) : (Instr.alloc 83 true (.tuple #[])).run Try.prog W = .ok (.pointer (some ⟨W.heap.size, 0, none⟩)) (W.alloc (.cells (seenC []).toArray 83)) := by
  have hz := zero_seen W
  have hn : (newVar 83 (.agg (seenC []).toArray)).run Try.prog W = .ok ⟨W.heap.size, 0, none⟩ (W.alloc (.cells (seenC []).toArray 83)) := rfl
  simp only [Instr.alloc, Sem.run_bind, hz, hn, Result.andThen_ok, Sem.run_pure]
theorem put_seen (W : World) : ∃ W2, (Instr.storeAt 83 (.pointer (some ⟨W.heap.size, 0, none⟩)) (.agg (seenC []).toArray)).run Try.prog (W.alloc (.cells (seenC []).toArray 83)) = .ok () W2 ∧
    Below W.heap.size W W2 ∧ W2.heap[W.heap.size]? = some (.cells (seenC []).toArray 83 (0, 0)) := by
  have hl := seenC_len []
  have hth : (W.alloc (.cells (seenC []).toArray 83)).there W.heap.size 0 (seenC []).toArray.size := there_of_row (heap_alloc_new W _)
  have hsz : (Try.prog.info? 83).map (·.size) = some (seenC []).toArray.size := by
    rw [List.size_toArray, hl]
    obtain ⟨i0, hi, hzz⟩ := Option.map_eq_some_iff.1 info_seen
    simp only [Prod.mk.injEq] at hzz
    rw [hi]; simp [hzz.2.1]
  refine ⟨_, run_storeAt_mid _ W.heap.size 0 83 _ hth hsz (all_oneCell_toArray (seenC_one [])), ?_, ?_⟩
  · exact below_setCells (Nat.le_refl _) _ _ ((Below.refl _ W).alloc (Nat.le_refl _) _)
  · rw [heap_setCells_at _ _ _ _ _ _ (heap_alloc_new W _)]
    rw [splc_all _ _ (by simp)]
end Go.Proofs.Ytlandlgjhnnaiaa
