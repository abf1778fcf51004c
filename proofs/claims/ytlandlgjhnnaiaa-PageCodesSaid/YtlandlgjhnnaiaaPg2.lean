/- Pages: a list of blocks, no two alike. -/
import Derived.Test.YtlandlgjhnnaiaaPg1
import Derived.Test.YtlandlgjhnnaiaaStp
import Derived.Deep.CutRange
set_option linter.unusedVariables false
set_option linter.unusedSimpArgs false
set_option maxRecDepth 100000
namespace Go.Proofs.Ytlandlgjhnnaiaa
open Go.RowKit
theorem unlikeGo_step (S l : List Int) (k : Nat) (h : k < l.length) : unlikeGo S (l.drop k) = (blkOk (l.getD k 0) && !S.contains (l.getD k 0) && unlikeGo (l.getD k 0 :: S) (l.drop (k + 1))) := by
  have : l.drop k = l.getD k 0 :: l.drop (k + 1) := by
    rw [List.getD_eq_getElem?_getD, List.getElem?_eq_getElem h]; simp
  conv => lhs; rw [this, unlikeGo]
theorem seenC_cell {w : World} {g : Nat} {S : List Int} {x : Int} (h : w.heap[g]? = some (.cells (seenC S).toArray 83 (0, 0))) (h0 : 0 ≤ x) (h1 : x < 4096) : w.cell? ⟨g, x.toNat, none⟩ = some (.bool (S.contains x)) := by
  rw [cell_of_row _ _ _ _ _ _ h, List.getElem?_toArray, seenC_get _ _ (by omega)]
  congr 3; omega
theorem pg_unlike (A : Option Addr) (n c : Nat) (l : List Int) (w : World) (hr : RdI [] w A n c l) :
    Calls Try.prog 56 #[.slice A n c] w fun e w' => e = .returned (.bool (unlikeGo [] l)) ∧ Below w.heap.size w w' := by
  have HR := Lib.hid hr
  have HL := Lib.hid hr.len
  have hmx := hr.max
  obtain ⟨t, ht⟩ : ∃ t, t = unlikeGo [] l := ⟨_, rfl⟩
  have HT := Lib.hid ht
  rw [← ht]
  clear hr ht
  obtain ⟨W2, hst, hB2, hrow⟩ := put_seen w
  obtain ⟨g, hg⟩ : ∃ g, g = w.heap.size := ⟨_, rfl⟩
  have HG := Lib.hid hg
  have hal := al_seen w
  have hbd := build_seen w
  have hzc : Try.zeroCells83 = (seenC []).toArray := by rw [seenC_nil]; kernel_rfl
  obtain ⟨X, hX⟩ : ∃ X, X = (seenC []).toArray := ⟨_, rfl⟩
  rw [← hX] at hst hal hbd hzc
  have HRW := Lib.hid hrow
  have HB2 := Lib.hid hB2
  clear hrow hB2 hX
  go_enter Try.func56, Try.ntmps56
  go_upto_region 1 with fail
  refine wp_region_lit ?_
  refine wpl_val rfl (.agg X) w ?_ ?_
  · go_simp
  refine wpl_alloc rfl _ _ _ rfl hal ?_
  refine wpl_store rfl _ _ _ _ (.agg X) W2 rfl rfl rfl hst ?_
  rw [← hg]
  clear hst hal hbd hzc hg
  go_wp2_with fail
  go_loopw [5, 9] (fun _ x wr => ∃ k : Nat, k ≤ n ∧ x = .int .i64 k ∧ t = unlikeGo (l.take k).reverse (l.drop k) ∧ wr.heap[g]? = some (.cells (seenC (l.take k).reverse).toArray 83 (0, 0)) ∧ Below w.heap.size w wr) (fun _ x _ => n - (intOf x).toNat)
  case atStart => exact ⟨0, by omega, rfl, HT.out, by rw [HG.out]; exact HRW.out, HB2.out⟩
  case round =>
    obtain ⟨k, hk, rfl, hE, hrw, hB⟩ := hrel
    have HE := Lib.hid hE
    have HB := Lib.hid hB
    have HRw := Lib.hid hrw
    clear hE hB hrw
    by_cases hkn : k < n
    · obtain ⟨bb, oo, rfl, -, hc⟩ := HR.out.at_ (by omega)
      have hck := cell_ext HB.out (hc k hkn)
      clear hc
      have hst := HE.out
      rw [unlikeGo_step _ _ _ (by rw [HL.out]; exact hkn)] at hst
      have HSN := Lib.hid (show (l.getD k 0 :: (l.take k).reverse) = (l.take (k + 1)).reverse by rw [take_snoc l k 0 (by rw [HL.out]; exact hkn)]; simp)
      rw [HSN.out] at hst
      obtain ⟨x, hx⟩ : ∃ x, x = l.getD k 0 := ⟨_, rfl⟩
      rw [← hx] at hck hst HSN
      obtain ⟨S, hS⟩ : ∃ S, S = (l.take k).reverse := ⟨_, rfl⟩
      rw [← hS] at hst HSN HRw
      have HST := Lib.hid hst
      have hk0 : (0 : Int) ≤ (k : Int) ∧ (k : Int) < (n : Int) := by omega
      have HIB := Lib.hid (pg_isBlock x)
      clear hst hx hS
      by_cases hb : blkOk x = true
      · rw [hb] at HIB HST
        have hx1 : 1 ≤ x ∧ x < 4096 := by simpa [blkOk] using hb
        have hcell := seenC_cell HRw.out (show 0 ≤ x by omega) hx1.2
        have hfrz : wr.frozen? ⟨g, x.toNat, none⟩ = false := frozen_of_row wr _ _ _ _ HRw.out
        have HSET := Lib.hid (show (wr.setCell ⟨g, x.toNat, none⟩ (.bool true)).heap[g]? = some (.cells (seenC (x :: S)).toArray 83 (0, 0)) by
          rw [heap_setCell_same _ _ _ _ _ _ HRw.out, seenC_set _ _ (by omega)]
          congr 4; simp; omega)
        have HX0 := Lib.hid hx1
        obtain ⟨sn, hsn⟩ : ∃ sn, sn = S.contains x := ⟨_, rfl⟩
        rw [← hsn] at hcell HST
        clear hb hsn
        go_wp2_with fail
        refine (HIB.out _).mono ?_
        rintro e w3 ⟨rfl, rfl⟩
        cases sn
        · go_wp2
          go_roundw
          case rel => exact ⟨k + 1, by omega, by go_num, by have := HST.out; simpa using this, by rw [← HSN.out]; exact HSET.out, HB.out.setCell (by rw [← HG.out]; exact Nat.le_refl _) _⟩
          case measure => simp [intOf]; omega
        · go_wp2
          go_ret
          have := HST.out
          exact ⟨by simp at this; rw [this]; rfl, HB.out⟩
      · rw [Bool.not_eq_true] at hb
        rw [hb] at HIB HST
        clear hb
        go_wp2_with fail
        refine (HIB.out _).mono ?_
        rintro e w3 ⟨rfl, rfl⟩
        go_wp2
        go_ret
        have := HST.out
        exact ⟨by simp at this; rw [this]; rfl, HB.out⟩
    · obtain rfl : n = k := by omega
      have HD := Lib.hid (show l.drop n = [] from List.drop_of_length_le (by rw [HL.out]; omega))
      go_wp2
      go_ret
      have := HE.out
      rw [HD.out] at this
      exact ⟨by rw [this]; rfl, HB.out⟩
end Go.Proofs.Ytlandlgjhnnaiaa
