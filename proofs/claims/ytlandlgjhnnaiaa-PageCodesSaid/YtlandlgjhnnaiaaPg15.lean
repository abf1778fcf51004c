/- A block that is read: next, number, blank. -/
import Derived.Test.YtlandlgjhnnaiaaPg14
set_option linter.unusedVariables false
set_option linter.unusedSimpArgs false
set_option maxRecDepth 100000
namespace Go.Proofs.Ytlandlgjhnnaiaa
open Go.RowKit SumMath
theorem strS_bstr (l : List UInt8) : bstr l = strS l := rfl
theorem BkAt.from {w : World} {g b : Nat} {M : List UInt8} (h : BkAt w g M b) (a k : Nat) (hk : a + k ≤ 512) : Rd w (fromA g a) k (512 - a) (seg M a k) := by
  have hl := h.len
  refine ⟨by simp [seg]; omega, by omega, by omega, fun hp => ?_⟩
  refine ⟨g, a, by unfold fromA; rw [if_neg (by omega)], fun j hj => ?_⟩
  rw [h.cell (a + j) (by omega)]
  congr 3
  simp [seg, List.getD_eq_getElem?_getD, hj]
theorem sl_mid (g a k : Nat) (h : a + k ≤ 512) (W : World) : (Instr.sliceAt 58 (.pointer (some ⟨g, 0, none⟩)) (some (.int .i64 (a : Int))) (some (.int .i64 ((a : Int) + (k : Int)))) none).run Try.prog W = .ok (.slice (fromA g a) k (512 - a)) W := by
  have hal : Try.prog.arrayLen 58 = 512 := by kernel_rfl
  have hel : Try.prog.elem 58 = 5 := by kernel_rfl
  have h9 := run_sliceAt_array_lh (P := Try.prog) W 58 ⟨g, 0, none⟩ (by kernel_rfl) .i64 .i64 (a : Int) ((a : Int) + (k : Int)) (by omega) (by omega) (by rw [hal]; omega)
  obtain ⟨i0, hi, hzz⟩ := Option.map_eq_some_iff.1 info_u8
  simp only [Prod.mk.injEq] at hzz
  have ht : ((a : Int) + (k : Int)).toNat = a + k := by omega
  rw [h9, hal, hel]
  by_cases h1 : a = 512
  · subst h1; simp [sizeOf, typeInfo, hi, hzz.2.1, slicedAt, fromA, Result.andThen, ht]
    omega
  · have h2 : ¬ 512 = a := fun e => h1 e.symm
    simp [sizeOf, typeInfo, hi, hzz.2.1, slicedAt, fromA, Result.andThen, h1, h2, Addr.add_mid, ht]
theorem pg_next (g a k : Nat) (M : List UInt8) (w : World) (h : BkAt w g M a) (ha : a ≤ 513) (hk : k ≤ 100000) :
    Calls Try.prog 50 #[.pointer (some ⟨g, 0, none⟩), .int .i64 (k : Int)] w fun e w' => e = .returned (.string (strS (nxt M a k).1)) ∧ BkAt w' g M (nxt M a k).2 ∧ Only [g] w w' := by
  have hc := h.cat
  have hf := h.frz 512
  unfold nxt
  by_cases h1 : k + a ≤ 512
  · rw [if_pos h1]
    dsimp only
    have HB := Lib.hid (h.setAt (a + k))
    obtain ⟨W, hW⟩ : ∃ W, W = w.setCell ⟨g, 512, none⟩ (.int .i64 ((a : Int) + (k : Int))) := ⟨_, rfl⟩
    have HBW := Lib.hid (show BkAt W g M (a + k) by rw [hW]; have := HB.out; push_cast at this; exact this)
    have HO := Lib.hid (show Only [g] w W by rw [hW]; exact (Only.refl _ _).setCell (by simp) _)
    have hcW : W.cell? ⟨g, 512, none⟩ = some (.int .i64 ((a : Int) + (k : Int))) := by have := HBW.out.cat; push_cast at this; exact this
    have hsl := sl_mid g a k (by omega)
    have hcv : ∀ j, (convert 31 9 (.slice (fromA g a) k (512 - a))).run Try.prog (W.drewN j) = .ok (.string (strS (seg M a k))) (W.drewN j) := fun j => ((HBW.out.from a k (by omega)).drew j).str
    have hcv0 : (convert 31 9 (.slice (fromA g a) k (512 - a))).run Try.prog W = .ok (.string (strS (seg M a k))) W := (HBW.out.from a k (by omega)).str
    have hc1 : (0 : Int) ≤ (a : Int) ∧ (0 : Int) ≤ (k : Int) ∧ (k : Int) + (a : Int) ≤ 512 := by omega
    have hgt : ¬ ((512 : Int) - (a : Int) < (k : Int)) := by omega
    have hwr : IntKind.i64.wrap ((a : Int) + (k : Int)) = (a : Int) + (k : Int) := by have := wrap_i64_nat (a + k) (by omega); push_cast at this; exact this
    have hwm : IntKind.i64.wrap ((a : Int) + (k : Int) - (k : Int)) = (a : Int) := by rw [show (a : Int) + (k : Int) - (k : Int) = ((a : Nat) : Int) by omega]; exact wrap_i64_nat a (by omega)
    clear h h1 HB
    go_enter Try.func50, Try.ntmps50
    go_upto_region 5 with fail
    rw [← hW]
    clear hW hc hf
    go_quiet ((fail))
    go_wp2
    go_ret
    exact ⟨rfl, ⟨HBW.out.row, HBW.out.len⟩, HO.out.drewN _⟩
  · rw [if_neg h1]
    have hgt : (512 : Int) - (a : Int) < (k : Int) := by omega
    have hc1 : (0 : Int) ≤ (a : Int) ∧ (a : Int) ≤ 513 ∧ (0 : Int) ≤ (k : Int) ∧ (k : Int) ≤ 100000 := by omega
    have HB := Lib.hid (h.setAt 513)
    clear h h1
    go_enter Try.func50, Try.ntmps50
    go_wp2
    go_ret
    exact ⟨rfl, HB.out, (Only.refl _ _).setCell (by simp) _⟩
end Go.Proofs.Ytlandlgjhnnaiaa
