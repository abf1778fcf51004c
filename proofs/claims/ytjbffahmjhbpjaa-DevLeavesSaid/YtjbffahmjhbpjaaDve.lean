/- The laws' own helpers over the device: block; append of fates. -/
import Derived.Test.YtjbffahmjhbpjaaOpD
import Derived.Test.YtjbffahmjhbpjaaDvm1
import Derived.Test.YtjbffahmjhbpjaaDvp1
import Derived.IntWalk
set_option linter.unusedVariables false
set_option linter.unusedSimpArgs false
set_option maxRecDepth 100000
namespace Go.Proofs.Ytjbffahmjhbpjaa
open Go.RowKit
def opC (x : OpD) (vB vF : Value) : Array Value := #[.bool x.two, .int .i64 x.kind, .int .i64 x.blk, .int .i64 x.num, .int .i64 x.len, .int .u8 (x.fill.toNat : Int), vB, vF]
def opN (x : OpD) : Nat := (x.len % 1024).toNat
def blkL (N : Nat) (f : UInt8) : List UInt8 := if 100 < N then (((List.replicate N f).set 0 (f + 1)).set 100 (f + 2)).set (N - 1) (f + 3) else List.replicate N f
theorem blkL_len (N : Nat) (f : UInt8) : (blkL N f).length = N := by
  unfold blkL
  split <;> simp
theorem Own.cellAt {W : World} {base n g cap : Nat} {l : List UInt8} (h : Own W base (.slice (some ⟨g, 0, none⟩) n cap) n l) (j : Nat) (hj : j < n) : ∃ y, W.cell? ⟨g, j, none⟩ = some (.int .u8 y) := ⟨_, h.cell j hj⟩
theorem u8_mod (c : UInt8) (m : Nat) (hm : m < 256) : ((c.toNat : Int) + (m : Int)) % 256 = ((c + UInt8.ofNat m).toNat : Int) := by
  rw [UInt8.toNat_add, UInt8.toNat_ofNat', Nat.mod_eq_of_lt (show m < 2 ^ 8 by omega)]
  omega
set_option maxHeartbeats 2000000 in
theorem l6_block (w : World) (x : OpD) (vB vF : Value) :
    Calls Try.prog 39 #[.agg (opC x vB vF)] w fun e w' => ∃ u, e = .returned u ∧ Own w' w.heap.size u (opN x) (blkL (opN x) x.fill) ∧ Below w.heap.size w w' := by
  obtain ⟨N, hN⟩ : ∃ N, N = opN x := ⟨_, rfl⟩
  have hNb : N < 1024 := by rw [hN]; unfold opN; omega
  have hand : bits .and .i64 x.len 1023 = (N : Int) := by
    have h := i64_andm 10 (by omega) x.len
    rw [show ((2 ^ 10 - 1 : Nat) : Int) = 1023 from rfl] at h
    rw [h, hN, show ((2 ^ 10 : Nat) : Int) = 1024 from rfl]
    unfold opN; omega
  rw [← hN]
  obtain ⟨c, hc⟩ : ∃ c, c = x.fill := ⟨_, rfl⟩
  rw [← hc]
  obtain ⟨c1, hc1⟩ : ∃ y, y = c + 1 := ⟨_, rfl⟩
  have hm1 : ((c.toNat : Int) + 1) % 256 = (c1.toNat : Int) := by rw [hc1]; exact u8_mod c 1 (by omega)
  have hp1 : IntKind.u8.wrap ((c.toNat : Int) + 1) = (c1.toNat : Int) := by rw [hc1]; exact u8_plus c 1 (by omega)
  obtain ⟨c2, hc2⟩ : ∃ y, y = c + 2 := ⟨_, rfl⟩
  have hm2 : ((c.toNat : Int) + 2) % 256 = (c2.toNat : Int) := by rw [hc2]; exact u8_mod c 2 (by omega)
  have hp2 : IntKind.u8.wrap ((c.toNat : Int) + 2) = (c2.toNat : Int) := by rw [hc2]; exact u8_plus c 2 (by omega)
  obtain ⟨c3, hc3⟩ : ∃ y, y = c + 3 := ⟨_, rfl⟩
  have hm3 : ((c.toNat : Int) + 3) % 256 = (c3.toNat : Int) := by rw [hc3]; exact u8_mod c 3 (by omega)
  have hp3 : IntKind.u8.wrap ((c.toNat : Int) + 3) = (c3.toNat : Int) := by rw [hc3]; exact u8_plus c 3 (by omega)
  have HC := Lib.hid (And.intro hc1 (And.intro hc2 hc3))
  clear hc1 hc2 hc3
  have hop : opC x vB vF = #[.bool x.two, .int .i64 x.kind, .int .i64 x.blk, .int .i64 x.num, .int .i64 x.len, .int .u8 (c.toNat : Int), vB, vF] := by rw [hc]; rfl
  rw [hop]
  have hmk := mk_u8 N N (Nat.le_refl _) (by omega)
  have hNi : (0 : Int) ≤ (N : Int) ∧ (N : Int) < 1024 := by omega
  have HN := Lib.hid hN
  clear hop hc hN
  obtain ⟨q, hq⟩ : ∃ q, q = w.heap.size := ⟨_, rfl⟩
  obtain ⟨W0, hW0⟩ : ∃ W0, W0 = w.alloc (.cells #[.bool x.two, .int .i64 x.kind, .int .i64 x.blk, .int .i64 x.num, .int .i64 x.len, .int .u8 (c.toNat : Int), vB, vF] 48) := ⟨_, rfl⟩
  go_enter Try.func39, Try.ntmps39
  go_wp2_with fail
  have H0 := Lib.hid (show Own (W0.alloc (.cells (zc N) 5)) (q + 1) (.slice (some ⟨q + 1, 0, none⟩) N N) N (List.replicate N 0) from by
    have hs : W0.heap.size = q + 1 := by rw [hW0, hq]; simp
    have h9 := Own.row (W := W0.alloc (.cells (zc N) 5)) (base := q + 1) (g := W0.heap.size) (n := N) (l := List.replicate N 0) (by omega) (by simp) (by omega) (by rw [← zc_bv]; exact heap_alloc_new W0 _)
    rw [hs] at h9
    exact h9)
  have HB0 := Lib.hid (show Below q w (W0.alloc (.cells (zc N) 5)) from by rw [hW0, hq]; exact ((Below.refl _ w).alloc (Nat.le_refl _) _).alloc (by simp) _)
  have HX0 := Lib.hid (show (W0.alloc (.cells (zc N) 5)).heap[q]? = some (.cells #[.bool x.two, .int .i64 x.kind, .int .i64 x.blk, .int .i64 x.num, .int .i64 x.len, .int .u8 (c.toNat : Int), vB, vF] 48 (0, 0)) from by rw [hW0, hq]; exact heap_alloc2_old _ _ _)
  rw [hW0] at H0 HB0 HX0
  rw [← hq]
  have HQ := Lib.hid hq
  clear hmk hand hW0 hq
  go_loopw [5] (fun i wx => ∃ k : Nat, k ≤ N ∧ i = .int .i64 k ∧ Own wx (q + 1) (.slice (some ⟨q + 1, 0, none⟩) N N) N (List.replicate k c ++ List.replicate (N - k) 0) ∧ Below q w wx ∧ wx.heap[q]? = some (.cells #[.bool x.two, .int .i64 x.kind, .int .i64 x.blk, .int .i64 x.num, .int .i64 x.len, .int .u8 (c.toNat : Int), vB, vF] 48 (0, 0))) (fun i _ => N - (intOf i).toNat)
  case atStart => exact ⟨0, by omega, rfl, by simpa using H0.out, HB0.out, HX0.out⟩
  case round =>
    obtain ⟨k, hk, rfl, hO, hB, hX⟩ := hrel
    have HO := Lib.hid hO
    have HB := Lib.hid hB
    have HX := Lib.hid hX
    have hb5 : wr.cell? ⟨q, 5, none⟩ = some (.int .u8 (c.toNat : Int)) := by rw [cell_of_row _ _ _ _ _ _ hX]; rfl
    by_cases hkn : k < N
    · have hcell := hO.cell k hkn
      have hfree := hO.free k
      have HST := Lib.hid (show List.replicate (k + 1) c ++ List.replicate (N - (k + 1)) 0 = (List.replicate k c ++ List.replicate (N - k) 0).set k c by
        rw [List.set_append_right _ _ (by simp), List.length_replicate, Nat.sub_self, show N - k = (N - (k + 1)) + 1 by omega, List.replicate_succ (n := N - (k + 1)), List.set_cons_zero, List.replicate_succ', List.append_assoc]
        rfl)
      have HX2 := Lib.hid (show (wr.setCell ⟨q + 1, k, none⟩ (.int .u8 (c.toNat : Int))).heap[q]? = _ from (heap_setCell_other wr ⟨q + 1, k, none⟩ q _ (by show q ≠ q + 1; omega)).trans hX)
      generalize (List.replicate k c ++ List.replicate (N - k) 0).getD k 0 = y at hcell
      have hki : (0 : Int) ≤ (k : Int) ∧ (k : Int) < (N : Int) := by omega
      clear hO hB hX hkn
      go_wp2
      go_roundw
      case rel => exact ⟨k + 1, by omega, by go_num, by rw [HST.out]; exact HO.out.store k c, HB.out.setCell (by show q ≤ q + 1; omega) _, HX2.out⟩
      case measure => simp [intOf]; omega
    · obtain rfl : k = N := by omega
      rw [Nat.sub_self, List.replicate_zero, List.append_nil] at HO
      by_cases h100 : 100 < k
      · have HL := Lib.hid (show blkL k c = (((List.replicate k c).set 0 c1).set 100 c2).set (k - 1) c3 by unfold blkL; rw [if_pos h100, HC.out.1, HC.out.2.1, HC.out.2.2])
        obtain ⟨y0, g0⟩ := HO.out.cellAt 0 (by omega)
        have f0 := HO.out.free 0
        have HO1 := Lib.hid (HO.out.store 0 c1)
        obtain ⟨y1, g1⟩ := HO1.out.cellAt 100 (by omega)
        have f1 := HO1.out.free 100
        have hx1 : (wr.setCell ⟨q + 1, 0, none⟩ (.int .u8 (c1.toNat : Int))).cell? ⟨q, 5, none⟩ = some (.int .u8 (c.toNat : Int)) := (World.cell?_of_block (w := wr) (a := ⟨q, 5, none⟩) (heap_setCell_other wr ⟨q + 1, 0, none⟩ q _ (by show q ≠ q + 1; omega))).trans hb5
        have HO2 := Lib.hid (HO1.out.store 100 c2)
        obtain ⟨y2, g2⟩ := HO2.out.cellAt (k - 1) (by omega)
        have f2 := HO2.out.free (k - 1)
        have hx2 : ((wr.setCell ⟨q + 1, 0, none⟩ (.int .u8 (c1.toNat : Int))).setCell ⟨q + 1, 100, none⟩ (.int .u8 (c2.toNat : Int))).cell? ⟨q, 5, none⟩ = some (.int .u8 (c.toNat : Int)) := (World.cell?_of_block (w := wr.setCell ⟨q + 1, 0, none⟩ (.int .u8 (c1.toNat : Int))) (a := ⟨q, 5, none⟩) (heap_setCell_other _ ⟨q + 1, 100, none⟩ q _ (by show q ≠ q + 1; omega))).trans hx1
        have HO3 := Lib.hid (HO2.out.store (k - 1) c3)
        have hk1 : IntKind.i64.wrap ((k : Int) - 1) = ((k - 1 : Nat) : Int) := by rw [IntWalk.i64_in _ (by omega)]; omega
        have hk2 : (100 : Int) < (k : Int) ∧ (0 : Int) ≤ ((k - 1 : Nat) : Int) ∧ ((k - 1 : Nat) : Int) < (k : Int) ∧ k - 1 < k := by omega
        clear hO hB hX h100 hkn hk
        go_wp2
        go_ret
        refine ⟨_, rfl, ?_, ?_⟩
        · rw [HL.out]; exact HO3.out.mono (by have := HQ.out; omega)
        · rw [← HQ.out]; exact ((HB.out.setCell (by show q ≤ q + 1; omega) _).setCell (by show q ≤ q + 1; omega) _).setCell (by show q ≤ q + 1; omega) _
      · have HL := Lib.hid (show blkL k c = List.replicate k c by unfold blkL; rw [if_neg h100])
        have h100i : ¬ (100 : Int) < (k : Int) := by omega
        clear hO hB hX h100 hkn hk
        go_wp2
        go_ret
        exact ⟨_, rfl, by rw [HL.out]; exact HO.out.mono (by have := HQ.out; omega), by rw [← HQ.out]; exact HB.out⟩
end Go.Proofs.Ytjbffahmjhbpjaa
