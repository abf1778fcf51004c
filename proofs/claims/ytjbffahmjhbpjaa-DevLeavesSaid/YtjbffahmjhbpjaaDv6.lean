/- The device's copied, Raw: a block's bytes as new memory. -/
import Derived.Test.YtjbffahmjhbpjaaDv5
import Derived.OwnWalk
set_option linter.unusedVariables false
set_option linter.unusedSimpArgs false
set_option maxRecDepth 100000
namespace Go.Proofs.Ytjbffahmjhbpjaa
open Go.RowKit
theorem mk512 (W : World) : (Instr.makeSlice 29 (.int .i64 512) (.int .i64 512)).run Try.prog W = .ok (.slice (some ⟨W.heap.size, 0, none⟩) 512 512) (W.alloc (.cells (zc 512) 5)) := mk_u8 512 512 (by omega) (by omega) W
theorem Own.row {W : World} {base g n : Nat} {l : List UInt8} (hb : base ≤ g) (hl : l.length = n) (hm : n ≤ 140737490452480) (h : W.heap[g]? = some (.cells (bv l).toArray 5 (0, 0))) : Own W base (.slice (some ⟨g, 0, none⟩) n n) n l :=
  ⟨by rw [bv_length, hl, Nat.mul_one], .inr ⟨g, n, _, rfl, hb, h, Nat.le_refl _, by simp only [maxLen]; omega, by rw [List.size_toArray, bv_length, hl, Nat.mul_one], by rw [Nat.mul_one, List.take_of_length_le (by simp [bv_length, hl])]⟩⟩
/-- new memory that holds L -/
def NewB (w : World) (u : Value) (L : List UInt8) (w' : World) : Prop := ∃ k, u = .slice (some ⟨k, 0, none⟩) 512 512 ∧ Own w' w.heap.size u 512 L ∧ Below w.heap.size w w'
theorem dv_copied (w : World) (g off : Nat) (D : List UInt8) (hl : D.length = 512) (hc : w.rangeAt g off (bv D)) :
    Calls Try.prog 36 #[.pointer (some ⟨g, off, none⟩)] w fun e w' => ∃ u, e = .returned u ∧ NewB w u D w' := by
  have hmk := mk512
  have hbl := bv_length D
  have HL := Lib.hid hl
  have hgl : g < w.heap.size := by
    have h0 := hc 0 _ (bv_get D 0 (by omega))
    exact World.block_lt_of_cell? w _ h0
  have HC := Lib.hid (show ∀ j v, (bv D)[j]? = some v → (w.alloc (.cells (zc 512) 5)).cell? ((⟨g, off, none⟩ : Addr).add j) = some v from fun j v hv => by
    rw [Addr.add_mid]
    exact (World.cell?_of_block (w := w) (a := ⟨g, off + j, none⟩) (Below.heap_alloc w _ g hgl)).trans (hc j v hv))
  have hcp := run_copy_row (P := Try.prog) (w.alloc (.cells (zc 512) 5)) 29 29 3 5 w.heap.size 0 512 512 ⟨g, off, none⟩ 512 512 (zc 512) 5 (bv D) Try.underlying29 sz_u8 (heap_alloc_new w _) (by rw [bv_length, hl]; decide) HC.out (by rw [bv_length, hl]; simp [zc, size_madeCells]) (bv_one _)
  have he : ((zc 512).toList.take 0 ++ bv D ++ (zc 512).toList.drop (0 + (bv D).length)).toArray = (bv D).toArray := by
    rw [bv_length, hl, List.take_zero, List.nil_append, List.drop_eq_nil_of_le (by simp [zc, size_madeCells]), List.append_nil]
  rw [he] at hcp
  have HSR := Lib.hid (setRow_heap (w.alloc (.cells (zc 512) 5)) w.heap.size _ (bv D).toArray 5 (0, 0) (heap_alloc_new w _))
  clear hc hl he
  go_enter Try.func36, Try.ntmps36
  go_wp2
  go_ret
  refine ⟨_, rfl, w.heap.size, rfl, ?_, below_setRow ((Below.refl _ w).alloc (Nat.le_refl _) _) (Nat.le_refl _) _⟩
  exact Own.row (Nat.le_refl _) HL.out (by omega) HSR.out
/-- a block of the medium -/
def blkM (M : List UInt8) (k : Nat) : List UInt8 := (M.drop (k * 512)).take 512
theorem IsV.med {w : World} {b g : Nat} {vc : Value} {D : DS} (h : IsV w b g vc D) (k : Nat) (hk : k < D.n) : w.rangeAt g (k * 512) (bv (blkM D.M k)) ∧ (blkM D.M k).length = 512 := by
  have hl := h.dev.len
  have h5 : (blkM D.M k).length = 512 := by unfold blkM; rw [List.length_take, List.length_drop, hl]; omega
  refine ⟨fun j v hv => ?_, h5⟩
  have hj : j < 512 := by
    rcases Nat.lt_or_ge j 512 with h | h
    · exact h
    · rw [List.getElem?_eq_none (by rw [bv_length, h5]; exact h)] at hv; cases hv
  rw [cell_of_row w g (k * 512 + j) _ _ _ h.dev.med]
  rw [List.getElem?_toArray, bv_get _ _ (by rw [hl]; omega), ← hv, bv_get _ _ (by rw [h5]; exact hj)]
  congr 3
  unfold blkM
  simp [List.getD_eq_getElem?_getD, hj]
def rawD (D : DS) (num : Int) : List UInt8 := blkM D.M num.toNat
theorem dv_Raw_bad (w : World) (b g : Nat) (vc : Value) (D : DS) (num : Int) (h : IsV w b g vc D) (hn : ¬ (0 ≤ num ∧ num < (D.n : Int))) :
    Calls Try.prog 22 #[.pointer (some ⟨b, 0, none⟩), .int .i64 num] w fun e w' => e = .returned (.tuple #[.slice none 0 0, .int .i64 60]) ∧ w' = w := by
  have HH := Lib.hid (dv_has w b g vc D num h)
  rw [decide_eq_false hn] at HH
  clear h hn
  go_enter Try.func22, Try.ntmps22
  go_wp2_with fail
  refine HH.out.mono ?_
  rintro e w1 ⟨rfl, rfl⟩
  go_wp2
  go_ret2
  exact ⟨rfl, rfl⟩
theorem dv_Raw (w : World) (b g : Nat) (vc : Value) (D : DS) (k : Nat) (h : IsV w b g vc D) (hk : k < D.n) :
    Calls Try.prog 22 #[.pointer (some ⟨b, 0, none⟩), .int .i64 k] w fun e w' => ∃ u, e = .returned (.tuple #[u, .int .i64 0]) ∧ NewB w u (blkM D.M k) w' := by
  have HH := Lib.hid (dv_has w b g vc D k h)
  rw [decide_eq_true (show 0 ≤ (k : Int) ∧ (k : Int) < (D.n : Int) by omega)] at HH
  have hmd := h.med k hk
  have HC := Lib.hid (dv_copied w g (k * 512) (blkM D.M k) hmd.2 hmd.1)
  have c0 := h.dev.c0
  have hkk : (0 : Int) ≤ (k : Int) ∧ (k : Int) < (D.n : Int) := by omega
  clear h hmd hk
  go_enter Try.func22, Try.ntmps22
  go_wp2_with fail
  refine HH.out.mono ?_
  rintro e w1 ⟨rfl, rfl⟩
  go_wp2_with fail
  refine HC.out.mono ?_
  rintro e w2 ⟨u, rfl, hN⟩
  have HN := Lib.hid hN
  obtain ⟨q, rfl, _, _⟩ := hN
  go_wp2
  go_ret2
  exact ⟨_, rfl, HN.out⟩
end Go.Proofs.Ytjbffahmjhbpjaa
