/- The walk of sum's halves: the table of half bytes. -/
import Derived.Test.YtlandlgjhnnaiaaSumW2
set_option linter.unusedVariables false
set_option linter.unusedSimpArgs false
namespace Go.Proofs.Ytlandlgjhnnaiaa
open Go.RowKit SumMath
/-- the table of half bytes, as far as it is filled -/
def tabV (k : Nat) : Array Value := ((List.range 16).map fun i => Value.int .u32 (if i < k then ((Tn 4 (BitVec.ofNat 32 i)).toNat : Int) else 0)).toArray
theorem tabV_size (k : Nat) : (tabV k).size = 16 := by simp [tabV]
theorem tabV_get (k j : Nat) (hj : j < 16) : (tabV k)[j]? = some (.int .u32 (if j < k then ((Tn 4 (BitVec.ofNat 32 j)).toNat : Int) else 0)) := by
  simp [tabV, hj]
theorem tabV_set (k : Nat) (hk : k < 16) : (tabV k).setIfInBounds k (.int .u32 ((Tn 4 (BitVec.ofNat 32 k)).toNat : Int)) = tabV (k + 1) := by
  apply Array.ext_getElem?
  intro j
  by_cases hj : j < 16
  · rw [Array.getElem?_setIfInBounds, tabV_get _ j hj, tabV_get _ j hj]
    by_cases e : k = j
    · subst e; simp [tabV_size, hk]
    · rw [if_neg e]
      have : (j < k) ↔ (j < k + 1) := by omega
      simp only [this]
  · rw [Array.getElem?_eq_none (by simp [tabV_size]; omega), Array.getElem?_eq_none (by simp [tabV_size]; omega)]
theorem tabV_one (k : Nat) : (tabV k).all (·.oneCell') = true := by
  simp [tabV]
  intro x _
  rfl
theorem tab0_lit : tabV 0 = #[.int .u32 0, .int .u32 0, .int .u32 0, .int .u32 0, .int .u32 0, .int .u32 0, .int .u32 0, .int .u32 0, .int .u32 0, .int .u32 0, .int .u32 0, .int .u32 0, .int .u32 0, .int .u32 0, .int .u32 0, .int .u32 0] := by rfl
structure HRel (w wr : World) (k : Nat) : Prop where
  below : Below w.heap.size w wr
  size : w.heap.size + 1 < wr.heap.size
  tab : wr.heap[w.heap.size + 1]? = some (.cells (tabV k) 84 (0, 0))
  res : wr.heap[w.heap.size]? = some (.cells (tabV 0) 84 (0, 0))
theorem HRel.start (w : World) : HRel w ((w.alloc (.cells (tabV 0) 84)).alloc (.cells (tabV 0) 84)) 0 :=
  ⟨(((Below.refl _ w).alloc (Nat.le_refl _) _).alloc (by simp) _), by simp, heap_alloc2_new _ _ _, heap_alloc2_old _ _ _⟩
theorem HRel.step {w wr : World} {k : Nat} (h : HRel w wr k) (hk : k < 16) (v : Value) (hv : v = .int .u32 ((Tn 4 (BitVec.ofNat 32 k)).toNat : Int)) : HRel w (wr.setCell ⟨w.heap.size + 1, k, none⟩ v) (k + 1) := by
  subst hv
  refine ⟨h.below.setCell (by simp) _, by simpa using h.size, ?_, ?_⟩
  · rw [heap_setCell_same _ _ _ _ _ _ h.tab, tabV_set k hk]
  · rw [heap_setCell_other _ _ _ _ (by simp)]; exact h.res
theorem sum_halves (w : World) :
    Calls Try.prog 68 #[] w fun e w' => e = .returned (.agg (tabV 16)) ∧ Below w.heap.size w w' := by
  go_enter Try.func68, Try.ntmps68
  go_wp2_with fail
  go_loopw [2, 3, 4, 9] (fun _ _ i _ wr => ∃ k : Nat, k ≤ 16 ∧ i = .int .i64 k ∧ HRel w wr k) (fun _ _ i _ _ => 16 - (intOf i).toNat)
  case atStart => exact ⟨0, by omega, rfl, HRel.start w⟩
  case round =>
    obtain ⟨k, hk, rfl, hR⟩ := hrel
    have HR := Lib.hid hR
    by_cases hlt : k < 16
    · have hcell := cell_of_row wr (w.heap.size + 1) k _ _ _ hR.tab
      rw [tabV_get k k hlt] at hcell
      have hfr := frozen_of_row wr (w.heap.size + 1) k _ _ hR.tab
      clear hR
      have hd : decide ((k : Int) < 16) = true := by simp; omega
      have hkk : (k : Int) = ((BitVec.ofNat 32 k).toNat : Int) := by rw [BitVec.toNat_ofNat, Nat.mod_eq_of_lt (by omega)]
      have HK := Lib.hid hkk; clear hkk
      go_wp2_with fail
      go_loop [3, 9] (fun v i => ∃ j : Nat, j ≤ 4 ∧ v = .int .u32 (Tn j (BitVec.ofNat 32 k)).toNat ∧ i = .int .i64 j) (fun _ i => 4 - (intOf i).toNat)
      case atStart => exact ⟨0, by omega, iv (by rw [HK.out]; rfl), rfl⟩
      case round =>
        obtain ⟨j, hj, rfl, rfl⟩ := hrel
        by_cases hj4 : j < 4
        · go_wp2_with (go_at_call 70; refine (sum_turned _ _).mono ?_; rintro e w' ⟨rfl, rfl⟩)
          refine ⟨⟨j + 1, by omega, iv (by rw [Tn_succ']), by go_num⟩, by simp [intOf]; omega⟩
        · obtain rfl : j = 4 := by omega
          go_wp2_with fail
          go_roundw
          case rel => exact ⟨k + 1, by omega, by go_num, HR.out.step hlt _ rfl⟩
          case measure => simp [intOf]; omega
    · obtain rfl : k = 16 := by omega
      have ht : wr.there w.heap.size 0 (tabV 16).size := by
        have := there_of_row hR.res
        rwa [tabV_size] at this ⊢
      have hres : (wr.setCells w.heap.size 0 (tabV 16).toList).heap[w.heap.size]? = some (.cells (tabV 16) 84 (0, 0)) := by
        rw [heap_setCells_at _ _ _ _ _ _ hR.res, splc_all _ _ (by rw [Array.length_toList, tabV_size, tabV_size])]
      go_wp2_with (first | (refine wpList_load_row rfl _ _ rfl (w.heap.size + 1) rfl _ _ _ _ hR.tab Try.underlying84 rfl (by rw [tabV_size]; kernel_rfl) ?_) | (refine wpList_store_mid rfl _ _ _ rfl w.heap.size 0 (tabV 16) rfl rfl ht (by rw [tabV_size]; kernel_rfl) (tabV_one 16) ?_))
      exact bodyPost_ret (v := .agg (tabV 16)) (results_cell_row rfl _ _ w.heap.size _ _ _ _ rfl hres Try.underlying84 rfl (by rw [tabV_size]; kernel_rfl)) rfl ⟨rfl, below_setCells (Nat.le_refl _) _ _ hR.below⟩
end Go.Proofs.Ytlandlgjhnnaiaa
