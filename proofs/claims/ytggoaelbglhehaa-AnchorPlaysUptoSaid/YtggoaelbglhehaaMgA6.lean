/- A superblock as bytes: Encode of the program. -/
import Derived.Test.YtggoaelbglhehaaMgA5
import Derived.Lib.BufferWrite
import Derived.Laws.OwnMore
import Derived.RegionTactic
import Derived.BigRegion
import Derived.Deep.RegionHeld3
import Derived.Laws.Cover1
/- A superblock as bytes: Encode of the program. -/
set_option linter.unusedVariables false
set_option linter.unusedSimpArgs false
set_option maxRecDepth 100000
namespace Go.Proofs.Ytggoaelbglhehaa
open Go.RowKit SumMath
theorem Rd.dropC {w : World} {g n m : Nat} {l : List UInt8} (h : Rd w (some ⟨g, 0, none⟩) n n l) (hm : m < n) : Rd w (some ⟨g, m, none⟩) (n - m) (n - m) (l.drop m) := by
  refine ⟨by rw [List.length_drop, h.len], Nat.le_refl _, by have := h.max; omega, fun hp => ⟨g, m, rfl, fun j hj => ?_⟩⟩
  obtain ⟨b, o, e, hc⟩ := h.at_ (by omega)
  injection e with e
  injection e with e1 e2
  subst e1 e2
  have h1 := hc (m + j) (by omega)
  rw [Nat.zero_add] at h1
  rw [h1]
  congr 3
  simp [List.getD_eq_getElem?_getD]
theorem Own.rdC {w : World} {base g n c : Nat} {l : List UInt8} (h : Own w base (.slice (some ⟨g, 0, none⟩) n c) n l) (hm : n ≤ 140737490452480) : Rd w (some ⟨g, 0, none⟩) n c l := by
  obtain ⟨A, c', e, hr⟩ := h.rd hm
  injection e with e1 e2 e3
  subst e1 e3
  exact hr
theorem mag_row : List.take 0 (zc 512).toList ++ Lib.byteCells [66, 83, 65, 82] ++ List.drop 4 (zc 512).toList = bv magL := by
  have h1 : (zc 512).toList = bv (List.replicate 512 0) := by unfold zc bv; rw [toList_madeCells_one, List.map_replicate]; rfl
  rw [h1, magL, ← splice_bv]
  unfold splice
  rw [List.take_zero, List.append_assoc]
  rfl
theorem laid_next (s : Sp) (i : Nat) (hi : i < 11) : laidF magL ((flds s).take (i + 1)) = splice (laidF magL ((flds s).take i)) ((flds s).getD i (0, 0, 0)).1 (leB ((flds s).getD i (0, 0, 0)).2.1 ((flds s).getD i (0, 0, 0)).2.2) := by
  rw [take_snoc (flds s) i (0, 0, 0) (by simpa [flds] using hi), laidF_append]; rfl
theorem laid_len (s : Sp) (i : Nat) : (laidF magL ((flds s).take i)).length = 512 := by
  rw [laidF_len _ _ (fun f hf => by rw [magL_len]; exact flds_in s f (List.mem_of_mem_take hf)), magL_len]
theorem flds_n (s : Sp) (i : Nat) (hi : i < 11) : ((flds s).getD i (0, 0, 0)).1 + ((flds s).getD i (0, 0, 0)).2.1 ≤ 512 ∧ ((flds s).getD i (0, 0, 0)).2.1 ≤ 8 := by
  have hm : (flds s).getD i (0, 0, 0) ∈ flds s := by
    rw [List.getD_eq_getElem?_getD, List.getElem?_eq_getElem (by simpa [flds] using hi)]
    exact List.getElem_mem _
  refine ⟨flds_in s _ hm, ?_⟩
  generalize (flds s).getD i (0, 0, 0) = f at hm
  simp only [flds, List.mem_cons, List.not_mem_nil, or_false] at hm
  rcases hm with rfl | rfl | rfl | rfl | rfl | rfl | rfl | rfl | rfl | rfl | rfl <;> (dsimp only; omega)
theorem leB_val (k : Nat) (v : Int) (i : Nat) (hi : i < k) : (v / 2 ^ (8 * i)) % 256 = (((leB k v).getD i 0).toNat : Int) := by
  rw [leB_get k v i hi, UInt8.toNat_ofNat', p256]
  rw [show ((2 ^ (8 * i) : Nat) : Int) = (2 : Int) ^ (8 * i) from Int.natCast_pow 2 _]
  omega
theorem an_Encode_bad (s : Sp) (hs : s.ok) (hv : ¬ Vld s s.blocks) (w : World) : Calls Try.prog 9 #[.agg (spC s)] w fun e w' => e = .returned (.tuple #[.slice none 0 0, .int .i64 1]) ∧ Below w.heap.size w w' := by
  have HV := Lib.hid (an_Valid s s.blocks hs)
  rw [decide_eq_false hv] at HV
  clear hv hs
  obtain ⟨sg, se, sb, sl, ss, sa, sr, sc, sv⟩ := s
  unfold spC at HV ⊢
  dsimp only at HV ⊢
  go_enter Try.func9, Try.ntmps9
  go_wp2_with fail
  refine (HV.out _).mono ?_
  rintro e w1 ⟨rfl, hB⟩
  have HB := Lib.hid (((Below.refl _ w).alloc (Nat.le_refl _) (.cells #[.int .i64 sg, .int .i64 se, .int .i64 sb, .int .i64 sl, .int .i64 ss, .int .i64 sa, .int .i64 sr, .int .i64 sc, .int .i64 sv] 25)).trans (hB.mono (by rw [World.size_alloc]; omega)))
  clear hB
  go_wp2
  go_ret2
  exact ⟨rfl, HB.out⟩
set_option maxHeartbeats 2000000 in
theorem an_Encode (s : Sp) (hs : s.ok) (hv : Vld s s.blocks) (w : World) : Calls Try.prog 9 #[.agg (spC s)] w fun e w' => ∃ g, e = .returned (.tuple #[.slice (some ⟨g, 0, none⟩) 512 512, .int .i64 0]) ∧ Own w' w.heap.size (.slice (some ⟨g, 0, none⟩) 512 512) 512 (encL s) ∧ Below w.heap.size w w' := by
  have HV := Lib.hid (an_Valid s s.blocks hs)
  rw [decide_eq_true hv] at HV
  have HF := Lib.hid (an_fields s)
  have HLN := Lib.hid (laid_next s)
  have HLL := Lib.hid (laid_len s)
  have HFN := Lib.hid (flds_n s)
  have HFC := Lib.hid (fun W g h => @fld_cells W g s h)
  obtain ⟨FS, hFS⟩ : ∃ FS, FS = flds s := ⟨_, rfl⟩
  have HE := Lib.hid (show encL s = splice (laidF magL FS) 500 (leB 4 ((sumS (laidF magL FS)).toNat : Nat)) by rw [hFS]; rfl)
  have HFL := Lib.hid (show FS.length = 11 by rw [hFS]; rfl)
  rw [← hFS] at HLN HLL HFN HFC
  have hmk := mk512
  clear hv hs hFS
  obtain ⟨FA, hFA⟩ : ∃ FA, FA = fldA s := ⟨_, rfl⟩
  rw [← hFA] at HF HFC
  obtain ⟨EN, hEN⟩ : ∃ EN, EN = encL s := ⟨_, rfl⟩
  rw [← hEN] at HE ⊢
  clear hFA hEN
  obtain ⟨sg, se, sb, sl, ss, sa, sr, sc, sv⟩ := s
  unfold spC at HV HF ⊢
  dsimp only at HV HF ⊢
  go_enter Try.func9, Try.ntmps9
  go_wp2_with fail
  refine (HV.out _).mono ?_
  rintro e w1 ⟨rfl, hB⟩
  obtain ⟨q, hq⟩ : ∃ q, q = w.heap.size := ⟨_, rfl⟩
  have hs1 := hB.size
  rw [World.size_alloc] at hs1
  have hq1 : w1.heap[q]? = some (.cells #[.int .i64 sg, .int .i64 se, .int .i64 sb, .int .i64 sl, .int .i64 ss, .int .i64 sa, .int .i64 sr, .int .i64 sc, .int .i64 sv] 25) := by
    rw [hq, hB.block w.heap.size (by rw [World.size_alloc]; omega)]; exact heap_alloc_new w _
  have HB1 := Lib.hid (((Below.refl _ w).alloc (Nat.le_refl _) (.cells #[.int .i64 sg, .int .i64 se, .int .i64 sb, .int .i64 sl, .int .i64 ss, .int .i64 sa, .int .i64 sr, .int .i64 sc, .int .i64 sv] 25)).trans (hB.mono (by rw [World.size_alloc]; omega)))
  obtain ⟨g, hg⟩ : ∃ g, g = w1.heap.size := ⟨_, rfl⟩
  obtain ⟨w2, hw2⟩ : ∃ w2, w2 = (w1.alloc (.cells (zc 512) 5)).setRow g (bv magL).toArray := ⟨_, rfl⟩
  have hcp : (Builtin.copy_ #[26, 9] 3 #[.slice (some ⟨w1.heap.size, 0, none⟩) 512 512, .string { data := #[66, 83, 65, 82] }]).run Try.prog (w1.alloc (.cells (zc 512) 5)) = .ok (.int .i64 4) w2 := by
    have h9 := Lib.run_copy_row_string (P := Try.prog) (w1.alloc (.cells (zc 512) 5)) 26 9 3 5 w1.heap.size 0 512 512 { data := #[66, 83, 65, 82] } (zc 512) 5 Try.underlying26 sz_u8 (heap_alloc_new w1 _) (by decide) (by simp [zc, size_madeCells]; decide)
    rw [h9, hw2, hg, ← mag_row]
    rfl
  have hrow : w2.heap[g]? = some (.cells (bv magL).toArray 5 (0, 0)) := by
    rw [hw2, hg]
    exact setRow_heap (w1.alloc (.cells (zc 512) 5)) w1.heap.size _ (bv magL).toArray 5 (0, 0) (heap_alloc_new w1 _)
  have HB2 := Lib.hid (show Below w1.heap.size w1 w2 from by
    rw [hw2, hg]; exact below_setRow ((Below.refl _ w1).alloc (Nat.le_refl _) _) (Nat.le_refl _) _)
  have hq2 : w2.heap[q]? = some (.cells #[.int .i64 sg, .int .i64 se, .int .i64 sb, .int .i64 sl, .int .i64 ss, .int .i64 sa, .int .i64 sr, .int .i64 sc, .int .i64 sv] 25) := (HB2.out.block q (by omega)).trans hq1
  have hO2 : Own w2 w.heap.size (.slice (some ⟨g, 0, none⟩) 512 512) 512 magL := Own.row (by omega) magL_len (by omega) hrow
  have hz2 : g < w2.heap.size := lt_of_block hrow
  have hcell : w2.cell? ⟨q, 0, none⟩ = some (.int .i64 sg) ∧ w2.cell? ⟨q, 1, none⟩ = some (.int .i64 se) ∧ w2.cell? ⟨q, 2, none⟩ = some (.int .i64 sb) ∧ w2.cell? ⟨q, 3, none⟩ = some (.int .i64 sl) ∧ w2.cell? ⟨q, 4, none⟩ = some (.int .i64 ss) ∧ w2.cell? ⟨q, 5, none⟩ = some (.int .i64 sa) ∧ w2.cell? ⟨q, 6, none⟩ = some (.int .i64 sr) ∧ w2.cell? ⟨q, 7, none⟩ = some (.int .i64 sc) ∧ w2.cell? ⟨q, 8, none⟩ = some (.int .i64 sv) :=
    ⟨cell_of_row w2 q 0 _ _ _ hq2, cell_of_row w2 q 1 _ _ _ hq2, cell_of_row w2 q 2 _ _ _ hq2, cell_of_row w2 q 3 _ _ _ hq2, cell_of_row w2 q 4 _ _ _ hq2, cell_of_row w2 q 5 _ _ _ hq2, cell_of_row w2 q 6 _ _ _ hq2, cell_of_row w2 q 7 _ _ _ hq2, cell_of_row w2 q 8 _ _ _ hq2⟩
  have HO2 := Lib.hid hO2
  have HG2 := Lib.hid (show w.heap.size ≤ g ∧ g < w2.heap.size from ⟨by omega, hz2⟩)
  have HB02 := Lib.hid (HB1.out.trans (HB2.out.mono HB1.out.size))
  have hcu : w1.cell? ⟨q, 0, none⟩ = some (.int .i64 sg) ∧ w1.cell? ⟨q, 1, none⟩ = some (.int .i64 se) ∧ w1.cell? ⟨q, 2, none⟩ = some (.int .i64 sb) := ⟨cell_of_row w1 q 0 _ _ _ hq1, cell_of_row w1 q 1 _ _ _ hq1, cell_of_row w1 q 2 _ _ _ hq1⟩
  rw [← hq]
  clear hB hq1 hq2 hrow hw2 hO2 hz2 hq hs1
  go_wp2_with fail
  rw [← hg]
  clear hg hcp hcu hmk
  refine (HF.out w2).mono ?_
  rintro e w5 ⟨gF, rfl, hgF, hB5, hrF⟩
  have HB5 := Lib.hid hB5
  have HRF := Lib.hid hrF
  have HGF := Lib.hid (show gF ≠ g by have := HG2.out; omega)
  have HGL := Lib.hid (lt_of_block hrF)
  have HO5 := Lib.hid (HO2.out.ext hB5)
  have HG5 := Lib.hid (show g < w5.heap.size by have := hB5.size; have := HG2.out; omega)
  clear hgF hB5 hrF hcell
  go_wp2_with fail
  go_loopw [6, 7, 21, 27] (fun _ _ x _ wx => ∃ i : Nat, i ≤ 11 ∧ x = .int .i64 i ∧ Own wx w.heap.size (.slice (some ⟨g, 0, none⟩) 512 512) 512 (laidF magL (FS.take i)) ∧ Only [g] w5 wx) (fun _ _ x _ _ => 11 - (intOf x).toNat)
  case atStart => exact ⟨0, by omega, rfl, HO5.out, Only.refl _ _⟩
  case round =>
    obtain ⟨i, hi, rfl, hOi, hWi⟩ := hrel
    have HOi := Lib.hid hOi
    have HWi := Lib.hid hWi
    by_cases hi11 : i < 11
    · have hrw : wr.heap[gF]? = some (.cells FA 76) := (hWi.blk gF HGL.out (by simp; exact HGF.out)).trans HRF.out
      obtain ⟨f0, f1, f2⟩ := HFC.out wr gF hrw i hi11
      obtain ⟨b1, b2⟩ := HFN.out i hi11
      have HNX := Lib.hid (HLN.out i hi11)
      obtain ⟨at_, hat⟩ : ∃ at_, at_ = (FS.getD i (0, 0, 0)).1 := ⟨_, rfl⟩
      obtain ⟨k, hk⟩ : ∃ k, k = (FS.getD i (0, 0, 0)).2.1 := ⟨_, rfl⟩
      obtain ⟨v, hv⟩ : ∃ v, v = (FS.getD i (0, 0, 0)).2.2 := ⟨_, rfl⟩
      rw [← hat, ← hk, ← hv] at HNX
      rw [← hat] at f0 b1
      rw [← hk] at f1 b1 b2
      rw [← hv] at f2
      have hii : (0 : Int) ≤ (i : Int) ∧ (i : Int) < 11 := by omega
      obtain ⟨M, hM⟩ : ∃ M, M = laidF magL (FS.take i) := ⟨_, rfl⟩
      rw [← hM] at HOi HNX
      have HML := Lib.hid (show M.length = 512 by rw [hM]; exact HLL.out i)
      obtain ⟨X, hX⟩ : ∃ X, X = leB k v := ⟨_, rfl⟩
      rw [← hX] at HNX
      have HXL := Lib.hid (show X.length = k by rw [hX, leB_len])
      have HXV := Lib.hid (show ∀ j, j < k → (v / 2 ^ (8 * j)) % 256 = ((X.getD j 0).toNat : Int) from fun j hj => by rw [hX]; exact leB_val k v j hj)
      have HS5 := Lib.hid hWi.size
      clear hOi hWi hrw hat hk hv hM hX
      have hkk : (0 : Int) ≤ (k : Int) ∧ (k : Int) ≤ 8 ∧ (0 : Int) ≤ (at_ : Int) ∧ (at_ : Int) + (k : Int) ≤ 512 := by omega
      go_wp2_with fail
      obtain ⟨bq, hbq⟩ : ∃ bq, bq = wr.heap.size := ⟨_, rfl⟩
      obtain ⟨w6, hw6⟩ : ∃ w6, w6 = wr.alloc (.cells #[.int .i64 (at_ : Int), .int .i64 (k : Int), .int .i64 v] 76) := ⟨_, rfl⟩
      have HR6 := Lib.hid (show w6.heap[bq]? = some (.cells #[.int .i64 (at_ : Int), .int .i64 (k : Int), .int .i64 v] 76 (0, 0)) by rw [hw6, hbq]; exact heap_alloc_new wr _)
      have HNE := Lib.hid (show bq ≠ g by have := HS5.out; have := HG5.out; omega)
      have HO6 := Lib.hid (show Own w6 w.heap.size (.slice (some ⟨g, 0, none⟩) 512 512) 512 M by rw [hw6]; exact HOi.out.alloc _)
      have HW6 := Lib.hid (show Only [g] w5 w6 by rw [hw6]; exact HWi.out.alloc _)
      rw [← hw6, ← hbq]
      clear hw6 hbq f0 f1 f2
      go_loopw [7, 27] (fun _ x wx => ∃ j : Nat, j ≤ k ∧ x = .int .i64 j ∧ Own wx w.heap.size (.slice (some ⟨g, 0, none⟩) 512 512) 512 (splice M at_ (X.take j)) ∧ Only [g] w6 wx) (fun _ x _ => k - (intOf x).toNat)
      case atStart => exact ⟨0, by omega, rfl, by rw [List.take_zero, spl_nil]; exact HO6.out, Only.refl _ _⟩
      case round =>
        obtain ⟨j, hj, rfl, hOj, hWj⟩ := hrel
        have HOj := Lib.hid hOj
        have HWj := Lib.hid hWj
        have hbx : wr.heap[bq]? = some (.cells #[.int .i64 (at_ : Int), .int .i64 (k : Int), .int .i64 v] 76 (0, 0)) := (hWj.blk bq (lt_of_block HR6.out) (by simp; exact HNE.out)).trans HR6.out
        have hb0 : wr.cell? ⟨bq, 0, none⟩ = some (.int .i64 (at_ : Int)) := cell_of_row wr bq 0 _ _ _ hbx
        have hb1 : wr.cell? ⟨bq, 1, none⟩ = some (.int .i64 (k : Int)) := cell_of_row wr bq 1 _ _ _ hbx
        have hb2 : wr.cell? ⟨bq, 2, none⟩ = some (.int .i64 v) := cell_of_row wr bq 2 _ _ _ hbx
        by_cases hjk : j < k
        · have hcell := hOj.cell (at_ + j) (by omega)
          have hfree := hOj.free (at_ + j)
          obtain ⟨y, hy⟩ : ∃ y, y = (splice M at_ (X.take j)).getD (at_ + j) 0 := ⟨_, rfl⟩
          rw [← hy] at hcell
          have hjj : (0 : Int) ≤ (j : Int) ∧ (j : Int) < (k : Int) := by omega
          have hxv := HXV.out j hjk
          obtain ⟨x, hx⟩ : ∃ x, x = X.getD j 0 := ⟨_, rfl⟩
          rw [← hx] at hxv
          have hst := hOj.store (at_ + j) x
          rw [hx, spl_step M X at_ j 0 (by rw [HXL.out, HML.out]; omega) (by rw [HXL.out]; omega), ← hx] at hst
          have HST := Lib.hid hst
          have hw8 : IntKind.i64.wrap (8 * (j : Int)) = 8 * (j : Int) := wrap_i64_nat (8 * j) (by omega)
          have hwa : IntKind.i64.wrap ((at_ : Int) + (j : Int)) = (at_ : Int) + (j : Int) := wrap_i64_nat (at_ + j) (by omega)
          clear hOj hWj hy hx hst hbx
          go_wp2_with fail
          go_region
          go_wp2
          exact ⟨⟨j + 1, by omega, by go_num, HST.out.drew, (HWj.out.setCell (by simp) _).drew⟩, by simp [intOf]; omega⟩
        · obtain rfl : j = k := by omega
          have HT := Lib.hid (show X.take j = X from List.take_of_length_le (by rw [HXL.out]; exact Nat.le_refl _))
          rw [HT.out, ← HNX.out] at HOj
          clear hOj hWj hbx
          go_wp2
          exact ⟨⟨i + 1, by omega, by go_num, HOj.out, HW6.out.trans HWj.out⟩, by simp [intOf]; omega⟩
    · obtain rfl : i = 11 := by omega
      have HT := Lib.hid (show FS.take 11 = FS from List.take_of_length_le (by rw [HFL.out]; exact Nat.le_refl _))
      rw [HT.out] at HOi
      obtain ⟨M, hM⟩ : ∃ M, M = laidF magL FS := ⟨_, rfl⟩
      have HML := Lib.hid (show M.length = 512 by have h9 := HLL.out 11; rw [HT.out, ← hM] at h9; exact h9)
      rw [← hM] at HOi HE
      have HRD := Lib.hid (HOi.out.rdC (by omega))
      have HB6 := Lib.hid (HB02.out.trans (HB5.out.mono HB02.out.size))
      have HB7 := Lib.hid (HB6.out.trans (hWi.below HB6.out.size (by simp; exact HG2.out.1)))
      have HSM := Lib.hid (sum_Sum (some ⟨g, 0, none⟩) 500 512 (M.take 500) wr.drew ((HRD.out.take 500 (by omega)).drew 1))
      obtain ⟨c1, hc1⟩ : ∃ c1, c1 = crc 0#32 (M.take 500) := ⟨_, rfl⟩
      rw [← hc1] at HSM
      have HSU := Lib.hid (fun (W : World) (hb : Below wr.heap.size wr W) => sum_Update c1 (some ⟨g, 504, none⟩) 8 8 (M.drop 504) W ((HRD.out.dropC (by omega)).ext hb))
      obtain ⟨c2, hc2⟩ : ∃ c2, c2 = crc c1 (M.drop 504) := ⟨_, rfl⟩
      rw [← hc2] at HSU
      have HCC := Lib.hid (show c2 = sumS M by rw [hc2, hc1]; rfl)
      clear hOi hWi hM hc1 hc2
      go_wp2_with fail
      go_region_held3 (fun w' => True)
        (trivial)
        (first | (go_at_call 40; refine (HSU.out _ HB8.out).mono ?_; rintro e w9 ⟨rfl, hB9⟩; have HB9 := Lib.hid (HB8.out.trans (hB9.mono HB8.out.size)); clear hB9)
               | (go_at_call 41; refine HSM.out.mono ?_; rintro e w8 ⟨rfl, hB8⟩; have HB8 := Lib.hid (show Below wr.heap.size wr w8 from ((Below.refl _ wr).drew).trans hB8); clear hB8))
      rename_i hHeld
      clear hHeld
      have HO9 := Lib.hid (HOi.out.ext HB9.out)
      have HB10 := Lib.hid (HB7.out.trans (HB9.out.mono HB7.out.size))
      obtain ⟨X, hX⟩ : ∃ X, X = leB 4 ((sumS M).toNat : Nat) := ⟨_, rfl⟩
      have HXL := Lib.hid (show X.length = 4 by rw [hX, leB_len])
      have HXV := Lib.hid (show ∀ j, j < 4 → ((c2.toNat : Int) / 2 ^ (8 * j)) % 256 = ((X.getD j 0).toNat : Int) from fun j hj => by rw [hX, HCC.out]; exact leB_val 4 _ j hj)
      rw [← hX] at HE
      have hc2l := c2.isLt
      clear hX
      go_wp2_with fail
      go_loopw [9, 50] (fun _ x wx => ∃ j : Nat, j ≤ 4 ∧ x = .int .i64 j ∧ Own wx w.heap.size (.slice (some ⟨g, 0, none⟩) 512 512) 512 (splice M 500 (X.take j)) ∧ Below w.heap.size w wx) (fun _ x _ => 4 - (intOf x).toNat)
      case atStart => exact ⟨0, by omega, rfl, by rw [List.take_zero, spl_nil]; exact HO9.out, HB10.out⟩
      case round =>
        obtain ⟨j, hj, rfl, hOj, hBj⟩ := hrel
        have HOj := Lib.hid hOj
        have HBj := Lib.hid hBj
        by_cases hjk : j < 4
        · have hcell := hOj.cell (500 + j) (by omega)
          have hfree := hOj.free (500 + j)
          obtain ⟨y, hy⟩ : ∃ y, y = (splice M 500 (X.take j)).getD (500 + j) 0 := ⟨_, rfl⟩
          rw [← hy] at hcell
          have hjj : (0 : Int) ≤ (j : Int) ∧ (j : Int) < 4 := by omega
          have hxv := HXV.out j hjk
          obtain ⟨x, hx⟩ : ∃ x, x = X.getD j 0 := ⟨_, rfl⟩
          rw [← hx] at hxv
          have hst := hOj.store (500 + j) x
          rw [hx, spl_step M X 500 j 0 (by rw [HXL.out, HML.out]; omega) (by rw [HXL.out]; omega), ← hx] at hst
          have HST := Lib.hid hst
          clear hOj hBj hy hx hst
          go_wp2
          exact ⟨⟨j + 1, by omega, by go_num, HST.out, HBj.out.setCell HG2.out.1 _⟩, by simp [intOf]; omega⟩
        · obtain rfl : j = 4 := by omega
          have HT4 := Lib.hid (show X.take 4 = X from List.take_of_length_le (by rw [HXL.out]; exact Nat.le_refl _))
          rw [HT4.out, ← HE.out] at HOj
          clear hOj hBj
          go_wp2
          go_ret2
          exact ⟨g, rfl, HOj.out, HBj.out⟩
end Go.Proofs.Ytggoaelbglhehaa
/- A superblock as bytes: Encode of the reference. -/
set_option linter.unusedVariables false
set_option linter.unusedSimpArgs false
set_option maxRecDepth 100000
namespace Go.Proofs.Ytggoaelbglhehaa
open Go.RowKit SumMath
theorem rn_SumOf (g : Nat) (M : List UInt8) (w : World) (hr : Rd w (some ⟨g, 0, none⟩) 512 512 M) : Calls Try.prog 43 #[.slice (some ⟨g, 0, none⟩) 512 512] w fun e w' => e = .returned (.int .u32 (sumS M).toNat) ∧ w' = w := by
  have HSM := Lib.hid (ref_Sum (some ⟨g, 0, none⟩) 500 512 (M.take 500) w (hr.take 500 (by omega)))
  obtain ⟨c1, hc1⟩ : ∃ c1, c1 = crc 0#32 (M.take 500) := ⟨_, rfl⟩
  rw [← hc1] at HSM
  have HSU := Lib.hid (ref_Update c1 (some ⟨g, 504, none⟩) 8 8 (M.drop 504) w (hr.dropC (by omega)))
  obtain ⟨c2, hc2⟩ : ∃ c2, c2 = crc c1 (M.drop 504) := ⟨_, rfl⟩
  rw [← hc2] at HSU
  have HCC := Lib.hid (show c2 = sumS M by rw [hc2, hc1]; rfl)
  rw [← HCC.out]
  clear hr hc1 hc2
  go_enter Try.func43, Try.ntmps43
  go_wp2_with fail
  refine HSM.out.mono ?_
  rintro e w1 ⟨rfl, rfl⟩
  go_wp2_with fail
  refine HSU.out.mono ?_
  rintro e w1 ⟨rfl, rfl⟩
  go_wp2
  go_ret
  exact ⟨rfl, rfl⟩
theorem rn_Encode_bad (s : Sp) (hs : s.ok) (hv : ¬ Vld s s.blocks) (w : World) : Calls Try.prog 10 #[.agg (spC s)] w fun e w' => e = .returned (.tuple #[.slice none 0 0, .int .i64 1]) ∧ Below w.heap.size w w' := by
  have HV := Lib.hid (rn_Valid s s.blocks hs)
  rw [decide_eq_false hv] at HV
  clear hv hs
  obtain ⟨sg, se, sb, sl, ss, sa, sr, sc, sv⟩ := s
  unfold spC at HV ⊢
  dsimp only at HV ⊢
  go_enter Try.func10, Try.ntmps10
  go_wp2_with fail
  refine (HV.out _).mono ?_
  rintro e w1 ⟨rfl, hB⟩
  have HB := Lib.hid (((Below.refl _ w).alloc (Nat.le_refl _) (.cells #[.int .i64 sg, .int .i64 se, .int .i64 sb, .int .i64 sl, .int .i64 ss, .int .i64 sa, .int .i64 sr, .int .i64 sc, .int .i64 sv] 25)).trans (hB.mono (by rw [World.size_alloc]; omega)))
  clear hB
  go_wp2
  go_ret2
  exact ⟨rfl, HB.out⟩
theorem mag_sets : ((((List.replicate 512 (0 : UInt8)).set 0 66).set 1 83).set 2 65).set 3 82 = magL := rfl
set_option maxHeartbeats 4000000 in
theorem rn_Encode (s : Sp) (hs : s.ok) (hv : Vld s s.blocks) (w : World) : Calls Try.prog 10 #[.agg (spC s)] w fun e w' => ∃ g, e = .returned (.tuple #[.slice (some ⟨g, 0, none⟩) 512 512, .int .i64 0]) ∧ Own w' w.heap.size (.slice (some ⟨g, 0, none⟩) 512 512) 512 (encL s) ∧ Below w.heap.size w w' := by
  have HV := Lib.hid (rn_Valid s s.blocks hs)
  rw [decide_eq_true hv] at HV
  clear hv hs
  obtain ⟨sg, se, sb, sl, ss, sa, sr, sc, sv⟩ := s
  unfold spC at HV ⊢
  dsimp only at HV ⊢
  go_enter Try.func10, Try.ntmps10
  go_wp2_with fail
  refine (HV.out _).mono ?_
  rintro e w1 ⟨rfl, hB⟩
  obtain ⟨q, hq⟩ : ∃ q, q = w.heap.size := ⟨_, rfl⟩
  have hs1 := hB.size
  rw [World.size_alloc] at hs1
  have hq1 : w1.heap[q]? = some (.cells #[.int .i64 sg, .int .i64 se, .int .i64 sb, .int .i64 sl, .int .i64 ss, .int .i64 sa, .int .i64 sr, .int .i64 sc, .int .i64 sv] 25) := by
    rw [hq, hB.block w.heap.size (by rw [World.size_alloc]; omega)]; exact heap_alloc_new w _
  have HB1 := Lib.hid (((Below.refl _ w).alloc (Nat.le_refl _) (.cells #[.int .i64 sg, .int .i64 se, .int .i64 sb, .int .i64 sl, .int .i64 ss, .int .i64 sa, .int .i64 sr, .int .i64 sc, .int .i64 sv] 25)).trans (hB.mono (by rw [World.size_alloc]; omega)))
  have HCL := Lib.hid (show ∀ W : World, Below w1.heap.size w1 W → W.cell? ⟨q, 0, none⟩ = some (.int .i64 sg) ∧ W.cell? ⟨q, 1, none⟩ = some (.int .i64 se) ∧ W.cell? ⟨q, 2, none⟩ = some (.int .i64 sb) ∧ W.cell? ⟨q, 3, none⟩ = some (.int .i64 sl) ∧ W.cell? ⟨q, 4, none⟩ = some (.int .i64 ss) ∧ W.cell? ⟨q, 5, none⟩ = some (.int .i64 sa) ∧ W.cell? ⟨q, 6, none⟩ = some (.int .i64 sr) ∧ W.cell? ⟨q, 7, none⟩ = some (.int .i64 sc) ∧ W.cell? ⟨q, 8, none⟩ = some (.int .i64 sv) from fun W hW => by
    have h9 := (hW.block q (by omega)).trans hq1
    exact ⟨cell_of_row W q 0 _ _ _ h9, cell_of_row W q 1 _ _ _ h9, cell_of_row W q 2 _ _ _ h9, cell_of_row W q 3 _ _ _ h9, cell_of_row W q 4 _ _ _ h9, cell_of_row W q 5 _ _ _ h9, cell_of_row W q 6 _ _ _ h9, cell_of_row W q 7 _ _ _ h9, cell_of_row W q 8 _ _ _ h9⟩)
  obtain ⟨g, hg⟩ : ∃ g, g = w1.heap.size := ⟨_, rfl⟩
  obtain ⟨w2, hw2⟩ : ∃ w2, w2 = w1.alloc (.cells (zc 512) 5) := ⟨_, rfl⟩
  have hmk : (Instr.makeSlice 26 (.int .i64 512) (.int .i64 512)).run Try.prog w1 = .ok (.slice (some ⟨g, 0, none⟩) 512 512) w2 := by rw [hw2, hg]; exact mk512 w1
  have hO2 : Own w2 w1.heap.size (.slice (some ⟨g, 0, none⟩) 512 512) 512 (List.replicate 512 0) := Own.row (by omega) (by simp) (by omega) (by rw [← zc_bv, hw2, hg]; exact heap_alloc_new w1 _)
  have hB2 : Below w1.heap.size w1 w2 := by rw [hw2]; exact (Below.refl _ w1).alloc (Nat.le_refl _) _
  have c0 := hO2.cell 0 (by omega)
  have c1 := hO2.cell 1 (by omega)
  have c2 := hO2.cell 2 (by omega)
  have c3 := hO2.cell 3 (by omega)
  have f0 := hO2.free 0
  have f1 := hO2.free 1
  have f2 := hO2.free 2
  have f3 := hO2.free 3
  have hO6 := (((hO2.store 0 66).store 1 83).store 2 65).store 3 82
  have hB6 := (((hB2.setCell (p := ⟨g, 0, none⟩) (by show _ ≤ g; omega) (.int .u8 ((66 : UInt8).toNat : Int))).setCell (p := ⟨g, 1, none⟩) (by show _ ≤ g; omega) (.int .u8 ((83 : UInt8).toNat : Int))).setCell (p := ⟨g, 2, none⟩) (by show _ ≤ g; omega) (.int .u8 ((65 : UInt8).toNat : Int))).setCell (p := ⟨g, 3, none⟩) (by show _ ≤ g; omega) (.int .u8 ((82 : UInt8).toNat : Int))
  rw [mag_sets] at hO6
  have HO6 := Lib.hid hO6
  have HB6 := Lib.hid hB6
  have HG := Lib.hid (show w1.heap.size ≤ g by omega)
  have hcl := HCL.out _ hB6
  rw [← hq]
  clear hB hq1 hw2 hO2 hq hs1 hg hO6 hB2 hB6
  go_wp2_with fail
  refine (rn_put w1 _ g 512 4 4 1 magL HO6.out HB6.out HG.out (by omega) (by omega)).mono ?_
  rintro e w7 ⟨rfl, hO, hB⟩
  have HO7 := Lib.hid hO
  have HB7 := Lib.hid hB
  clear hcl c0 c1 c2 c3 f0 f1 f2 f3 hmk
  have hcl := HCL.out _ hB
  clear hO hB
  go_wp2_with fail
  refine (rn_put w1 _ g 512 8 8 sg _ HO7.out HB7.out HG.out (by omega) (by omega)).mono ?_
  rintro e w8 ⟨rfl, hO, hB⟩
  have HO8 := Lib.hid hO
  have HB8 := Lib.hid hB
  clear hcl
  have hcl := HCL.out _ hB
  clear hO hB
  go_wp2_with fail
  refine (rn_put w1 _ g 512 8 16 se _ HO8.out HB8.out HG.out (by omega) (by omega)).mono ?_
  rintro e w9 ⟨rfl, hO, hB⟩
  have HO9 := Lib.hid hO
  have HB9 := Lib.hid hB
  clear hcl
  have hcl := HCL.out _ hB
  clear hO hB
  go_wp2_with fail
  refine (rn_put w1 _ g 512 4 24 sb _ HO9.out HB9.out HG.out (by omega) (by omega)).mono ?_
  rintro e w10 ⟨rfl, hO, hB⟩
  have HO10 := Lib.hid hO
  have HB10 := Lib.hid hB
  clear hcl
  have hcl := HCL.out _ hB
  clear hO hB
  go_wp2_with fail
  refine (rn_put w1 _ g 512 4 28 sl _ HO10.out HB10.out HG.out (by omega) (by omega)).mono ?_
  rintro e w11 ⟨rfl, hO, hB⟩
  have HO11 := Lib.hid hO
  have HB11 := Lib.hid hB
  clear hcl
  have hcl := HCL.out _ hB
  clear hO hB
  go_wp2_with fail
  refine (rn_put w1 _ g 512 8 32 ss _ HO11.out HB11.out HG.out (by omega) (by omega)).mono ?_
  rintro e w12 ⟨rfl, hO, hB⟩
  have HO12 := Lib.hid hO
  have HB12 := Lib.hid hB
  clear hcl
  have hcl := HCL.out _ hB
  clear hO hB
  go_wp2_with fail
  refine (rn_put w1 _ g 512 4 40 sa _ HO12.out HB12.out HG.out (by omega) (by omega)).mono ?_
  rintro e w13 ⟨rfl, hO, hB⟩
  have HO13 := Lib.hid hO
  have HB13 := Lib.hid hB
  clear hcl
  have hcl := HCL.out _ hB
  clear hO hB
  go_wp2_with fail
  refine (rn_put w1 _ g 512 4 44 sr _ HO13.out HB13.out HG.out (by omega) (by omega)).mono ?_
  rintro e w14 ⟨rfl, hO, hB⟩
  have HO14 := Lib.hid hO
  have HB14 := Lib.hid hB
  clear hcl
  have hcl := HCL.out _ hB
  clear hO hB
  go_wp2_with fail
  refine (rn_put w1 _ g 512 8 48 sc _ HO14.out HB14.out HG.out (by omega) (by omega)).mono ?_
  rintro e w15 ⟨rfl, hO, hB⟩
  have HO15 := Lib.hid hO
  have HB15 := Lib.hid hB
  clear hcl
  have hcl := HCL.out _ hB
  clear hO hB
  go_wp2_with fail
  refine (rn_put w1 _ g 512 8 56 sv _ HO15.out HB15.out HG.out (by omega) (by omega)).mono ?_
  rintro e w16 ⟨rfl, hO, hB⟩
  have HO16 := Lib.hid hO
  have HB16 := Lib.hid hB
  clear hcl
  have hcl := HCL.out _ hB
  clear hO hB
  go_wp2_with fail
  refine (rn_put w1 _ g 512 8 504 sg _ HO16.out HB16.out HG.out (by omega) (by omega)).mono ?_
  rintro e w17 ⟨rfl, hO, hB⟩
  have HO17 := Lib.hid hO
  have HB17 := Lib.hid hB
  clear hcl
  have hcl := HCL.out _ hB
  clear hO hB
  obtain ⟨M, hM⟩ : ∃ M, M = headL ⟨sg, se, sb, sl, ss, sa, sr, sc, sv⟩ := ⟨_, rfl⟩
  have HOM := Lib.hid (show Own w17 w1.heap.size (.slice (some ⟨g, 0, none⟩) 512 512) 512 M by rw [hM]; exact HO17.out)
  have HE := Lib.hid (show encL ⟨sg, se, sb, sl, ss, sa, sr, sc, sv⟩ = splice M 500 (leB 4 ((sumS M).toNat : Nat)) by rw [hM]; rfl)
  have HSO := Lib.hid (rn_SumOf g M w17 (HOM.out.rdC (by omega)))
  have hsl := (sumS M).isLt
  obtain ⟨x, hx⟩ : ∃ x : Nat, x = (sumS M).toNat := ⟨_, rfl⟩
  rw [← hx] at HSO HE hsl
  clear hM hx
  go_wp2_with fail
  refine HSO.out.mono ?_
  rintro e w30 ⟨rfl, rfl⟩
  have hxl : (x : Int) < 4294967296 ∧ (0 : Int) ≤ (x : Int) := by omega
  go_wp2_with fail
  refine (rn_put w1 _ g 512 4 500 (x : Int) M HOM.out HB17.out HG.out (by omega) (by omega)).mono ?_
  rintro e w31 ⟨rfl, hO, hB⟩
  have HEND := Lib.hid (show Own w31 w.heap.size (.slice (some ⟨g, 0, none⟩) 512 512) 512 (encL ⟨sg, se, sb, sl, ss, sa, sr, sc, sv⟩) ∧ Below w.heap.size w w31 from ⟨by rw [HE.out]; exact hO.mono HB1.out.size, HB1.out.trans (hB.mono HB1.out.size)⟩)
  clear hO hB hcl
  go_wp2
  go_ret2
  exact ⟨g, rfl, HEND.out.1, HEND.out.2⟩
end Go.Proofs.Ytggoaelbglhehaa
/- The device's Edit, Counts. -/
set_option linter.unusedVariables false
set_option linter.unusedSimpArgs false
set_option maxRecDepth 100000
namespace Go.Proofs.Ytggoaelbglhehaa
open Go.RowKit
theorem only_setRow (w : World) (g : Nat) (cs : Array Value) : Only [g] w (w.setRow g cs) := ⟨rfl, rfl, rfl, by simp [World.setRow], fun k hk hs => setRow_other w g k _ (fun e => hs (by simp [e]))⟩
theorem IsV.setMed {w w' : World} {b g : Nat} {vc : Value} {D : DS} {M' : List UInt8} (h : IsV w b g vc D) (ho : Only [g] w w') (hm : w'.heap[g]? = some (.cells (bv M').toArray 89 (0, 0))) (hl : M'.length = D.M.length) :
    IsV w' b g vc { D with M := M' } ∧ Fr (dvS b g vc) (dvS b g vc) w w' :=
  ⟨⟨h.dev.medium ho hm hl, h.ca.keep ho (fun k hk => by simp; exact (h.nb k hk).2), h.nb⟩, ho.mono (by simp [dvS]), fun k hk => .inl hk⟩
def edD (D : DS) (num at_ : Int) (L : List UInt8) : Int × DS :=
  if ¬ (0 ≤ num ∧ num < D.n) then (60, D) else if at_ < 0 ∨ 512 < at_ ∨ 512 - at_ < L.length then (1, D) else (0, { D with M := splice D.M (num.toNat * 512 + at_.toNat) L })
theorem dv_Edit (w : World) (b g : Nat) (vc : Value) (D : DS) (num at_ : Int) (A : Option Addr) (m c : Nat) (L : List UInt8) (h : IsV w b g vc D) (hr : Rd w A m c L) (hat : -9223372036854775808 ≤ at_ ∧ at_ < 9223372036854775808) :
    Calls Try.prog 20 #[.pointer (some ⟨b, 0, none⟩), .int .i64 num, .int .i64 at_, .slice A m c] w fun e w' => e = .returned (.int .i64 (edD D num at_ L).1) ∧ IsV w' b g vc (edD D num at_ L).2 ∧ Fr (dvS b g vc) (dvS b g vc) w w' := by
  have HH := Lib.hid (dv_has w b g vc D num h)
  have HV := Lib.hid h
  have HR := Lib.hid hr
  have hlen := hr.len
  have hmx := hr.max
  have c0 := h.dev.c0
  clear h hr
  by_cases h1 : 0 ≤ num ∧ num < (D.n : Int)
  · rw [decide_eq_true h1] at HH
    obtain ⟨k, rfl⟩ : ∃ k : Nat, num = k := ⟨num.toNat, by omega⟩
    rcases (by omega : at_ < 0 ∨ (¬ at_ < 0 ∧ 512 < at_) ∨ (0 ≤ at_ ∧ at_ ≤ 512 ∧ 512 - at_ < (m : Int)) ∨ (0 ≤ at_ ∧ at_ ≤ 512 ∧ (m : Int) ≤ 512 - at_)) with h2 | ⟨h2, h3⟩ | ⟨h2, h3, h4⟩ | ⟨h2, h3, h4⟩
    · have HW := Lib.hid (show edD D k at_ L = (1, D) by unfold edD; rw [if_neg (by simpa using h1), if_pos (by omega)])
      rw [HW.out]
      clear hlen
      go_enter Try.func20, Try.ntmps20
      go_wp2_with fail
      refine HH.out.mono ?_
      rintro e w1 ⟨rfl, rfl⟩
      go_wp2
      go_ret
      exact ⟨rfl, HV.out, Fr.refl _ _⟩
    · have HW := Lib.hid (show edD D k at_ L = (1, D) by unfold edD; rw [if_neg (by simpa using h1), if_pos (by omega)])
      rw [HW.out]
      clear hlen
      go_enter Try.func20, Try.ntmps20
      go_wp2_with fail
      refine HH.out.mono ?_
      rintro e w1 ⟨rfl, rfl⟩
      go_wp2
      go_ret
      exact ⟨rfl, HV.out, Fr.refl _ _⟩
    · have HW := Lib.hid (show edD D k at_ L = (1, D) by unfold edD; rw [if_neg (by simpa using h1), if_pos (by omega)])
      rw [HW.out]
      clear hlen
      go_enter Try.func20, Try.ntmps20
      go_wp2_with fail
      refine HH.out.mono ?_
      rintro e w1 ⟨rfl, rfl⟩
      go_wp2
      go_ret
      exact ⟨rfl, HV.out, Fr.refl _ _⟩
    · obtain ⟨a, rfl⟩ : ∃ a : Nat, at_ = a := ⟨at_.toNat, by omega⟩
      have HW := Lib.hid (show edD D k a L = (0, { D with M := splice D.M (k * 512 + a) L }) by unfold edD; rw [if_neg (by simpa using h1), if_neg (by omega), Int.toNat_natCast, Int.toNat_natCast])
      rw [HW.out]
      have hml := HV.out.dev.len
      have ha : a ≤ 512 := by omega
      have hkn : k < D.n := by omega
      by_cases hm0 : m = 0
      · subst hm0
        obtain rfl : L = [] := List.eq_nil_of_length_eq_zero hlen
        have hsp : splice D.M (k * 512 + a) [] = D.M := by simp [splice]
        rw [hsp]
        have hcp := fun (dp sp : Option Addr) (dl dc sc : Nat) => run_copy_none (P := Try.prog) w 26 26 3 5 dp sp dl dc 0 sc Try.underlying26 sz_u8 (by simp)
        clear hlen hml hsp
        by_cases ha5 : a = 512
        · subst ha5
          go_enter Try.func20, Try.ntmps20
          go_wp2_with fail
          refine HH.out.mono ?_
          rintro e w1 ⟨rfl, rfl⟩
          go_wp2
          go_ret
          exact ⟨rfl, HV.out, Fr.refl _ _⟩
        · go_enter Try.func20, Try.ntmps20
          go_wp2_with fail
          refine HH.out.mono ?_
          rintro e w1 ⟨rfl, rfl⟩
          go_wp2
          go_ret
          exact ⟨rfl, HV.out, Fr.refl _ _⟩
      · have ha5 : a < 512 := by omega
        obtain ⟨bb, oo, rfl, hc⟩ := HR.out.at_ (by omega)
        have hfit : k * 512 + a + L.length ≤ D.M.length := by omega
        have hcp := run_copy_row (P := Try.prog) w 26 26 3 5 g (k * 512 + a) (512 - a) (512 - a) ⟨bb, oo, none⟩ m c (bv D.M).toArray 89 (bv L) Try.underlying26 sz_u8 HV.out.dev.med (by rw [bv_length, hlen]; exact (Nat.min_eq_left (by omega)).symm) (fun j v hv => by
          have hj : j < m := by
            rcases Nat.lt_or_ge j m with h | h
            · exact h
            · rw [List.getElem?_eq_none (by rw [bv_length, hlen]; exact h)] at hv; cases hv
          rw [bv_get L j (by omega)] at hv
          rw [Addr.add_mid, ← hv]; exact hc j hj) (by rw [List.size_toArray, bv_length, bv_length]; exact hfit) (bv_one _)
        have he : ((bv D.M).toArray.toList.take (k * 512 + a) ++ bv L ++ (bv D.M).toArray.toList.drop (k * 512 + a + (bv L).length)).toArray = (bv (splice D.M (k * 512 + a) L)).toArray := by
          rw [← splice_bv]
          simp [splice]
        rw [he] at hcp
        have HSM := Lib.hid (HV.out.setMed (only_setRow w g (bv (splice D.M (k * 512 + a) L)).toArray) (setRow_heap w g _ _ _ _ HV.out.dev.med) (by simp [splice]; omega))
        have hne : ¬ 512 = a := by omega
        clear hlen hml hc he hfit
        go_enter Try.func20, Try.ntmps20
        go_wp2_with fail
        refine HH.out.mono ?_
        rintro e w1 ⟨rfl, rfl⟩
        go_wp2
        go_ret
        exact ⟨rfl, HSM.out.1, HSM.out.2⟩
  · rw [decide_eq_false h1] at HH
    have HW := Lib.hid (show edD D num at_ L = (60, D) by unfold edD; rw [if_pos h1])
    rw [HW.out]
    clear hlen h1
    go_enter Try.func20, Try.ntmps20
    go_wp2_with fail
    refine HH.out.mono ?_
    rintro e w1 ⟨rfl, rfl⟩
    go_wp2
    go_ret
    exact ⟨rfl, HV.out, Fr.refl _ _⟩
end Go.Proofs.Ytggoaelbglhehaa
/- The device's Medium, Down, Counts. -/
set_option linter.unusedVariables false
set_option linter.unusedSimpArgs false
set_option maxRecDepth 100000
namespace Go.Proofs.Ytggoaelbglhehaa
open Go.RowKit
theorem Rd.ofRange {w : World} {g off n c : Nat} {D : List UInt8} (hl : D.length = n) (hc : n ≤ c) (hm : n ≤ 140737490452480) (h : w.rangeAt g off (bv D)) : Rd w (some ⟨g, off, none⟩) n c D :=
  ⟨hl, hc, hm, fun _ => ⟨g, off, rfl, fun j hj => h j _ (bv_get D j (by omega))⟩⟩
theorem med_step (M : List UInt8) (k : Nat) : M.take ((k + 1) * 512) = M.take (k * 512) ++ blkM M k := by
  unfold blkM
  rw [show (k + 1) * 512 = k * 512 + 512 by omega, List.take_add]
theorem dv_Medium (w : World) (b g : Nat) (vc : Value) (D : DS) (h : IsV w b g vc D) :
    Calls Try.prog 34 #[.pointer (some ⟨b, 0, none⟩)] w fun e w' => ∃ u, e = .returned u ∧ Own w' w.heap.size u (D.n * 512) D.M ∧ Below w.heap.size w w' := by
  have HV := Lib.hid h
  have c0 := h.dev.c0
  have hsm := h.dev.small
  have HLM := Lib.hid h.dev.len
  obtain ⟨n, hn⟩ : ∃ n, n = D.n := ⟨_, rfl⟩
  rw [← hn] at c0 hsm ⊢
  have hmk : ∀ W, (Instr.makeSlice 26 (.int .i64 0) (.int .i64 ((n : Int) * 512))).run Try.prog W = .ok (.slice (some ⟨W.heap.size, 0, none⟩) 0 (n * 512)) (W.alloc (.cells (zc (n * 512)) 5)) := fun W => by
    have h9 := mk_u8_0 (n * 512) (by omega) W
    rw [show ((n * 512 : Nat) : Int) = (n : Int) * 512 by omega] at h9
    exact h9
  have HN := Lib.hid hn
  have c0a := (h.ext ((Below.refl _ w).alloc (Nat.le_refl _) (.cells (zc (n * 512)) 5))).dev.c0
  rw [← hn] at c0a
  clear h hn
  go_enter Try.func34, Try.ntmps34
  go_wp2_with fail
  clear hmk c0a
  go_loopw [3, 4, 17] (fun v _ x wx => ∃ k : Nat, k ≤ n ∧ x = .int .i64 k ∧ Own wx w.heap.size v (k * 512) (D.M.take (k * 512)) ∧ Below w.heap.size w wx) (fun _ _ x _ => n - (intOf x).toNat)
  case atStart => exact ⟨0, by omega, rfl, by simpa using Own.made0 w w.heap.size (n * 512) (Nat.le_refl _) (by omega), (Below.refl _ w).alloc (Nat.le_refl _) _⟩
  case round =>
    obtain ⟨k, hk, rfl, hO, hB⟩ := hrel
    have HO := Lib.hid hO
    have HB := Lib.hid hB
    have hz := hB.size
    have hV := HV.out.ext hB
    have d0 := hV.dev.c0
    rw [← HN.out] at d0
    by_cases hkn : k < n
    · have hmd := hV.med k (by rw [← HN.out]; exact hkn)
      have HRB := Lib.hid (Rd.ofRange (n := 512) (c := 512) hmd.2 (Nat.le_refl _) (by omega) hmd.1)
      have HST := Lib.hid (med_step D.M k)
      have hkk : (0 : Int) ≤ (k : Int) ∧ (k : Int) < (n : Int) := by omega
      clear hO hB hV hmd
      go_wp2_with (at_builtin; refine wp_app (w0 := w) w.heap.size HO.out HRB.out HB.out hz (by omega) _ _ rfl rfl rfl rfl ?_; intro v1 w1 hO1 hB1 hG1 hA1; have HO1 := Lib.hid hO1; have HB1 := Lib.hid hB1; clear hO1 hB1 hG1 hA1)
      go_roundw
      case rel => exact ⟨k + 1, by omega, by go_num, by rw [HST.out, show (k + 1) * 512 = k * 512 + 512 by omega]; exact HO1.out, HB1.out⟩
      case measure => simp [intOf]; omega
    · obtain rfl : n = k := by omega
      have HT := Lib.hid (show D.M.take (n * 512) = D.M from List.take_of_length_le (by rw [HLM.out, HN.out]; exact Nat.le_refl _))
      clear hO hB hV
      go_wp2
      go_ret
      exact ⟨_, rfl, by rw [← HT.out]; exact HO.out, HB.out⟩
end Go.Proofs.Ytggoaelbglhehaa
/- The device's Read, through the cache. -/
set_option linter.unusedVariables false
set_option linter.unusedSimpArgs false
set_option maxRecDepth 100000
namespace Go.Proofs.Ytggoaelbglhehaa
open Go.RowKit
/-- a block's bytes with the writes of a list over them -/
def rdC : List Pd → Nat → List UInt8 → List UInt8
  | [], _, d => d
  | x :: r, k, d => rdC r k (if x.num = k then x.data else d)
theorem rdC_snoc (k : Nat) (x : Pd) : ∀ (l : List Pd) (d : List UInt8), rdC (l ++ [x]) k d = if x.num = k then x.data else rdC l k d
  | [], d => rfl
  | y :: r, d => by rw [List.cons_append, rdC, rdC_snoc k x r, rdC]
theorem rdC_len {n : Nat} (k : Nat) : ∀ (l : List Pd) (d : List UInt8), PdOk n l → d.length = 512 → (rdC l k d).length = 512
  | [], d, _, h => h
  | y :: r, d, ho, h => by
    rw [rdC]
    refine rdC_len k r _ (fun x hx => ho x (by simp [hx])) ?_
    split
    · exact (ho y (by simp)).2
    · exact h
theorem takeP_snoc (l : List Pd) (k : Nat) (h : k < l.length) : l.take (k + 1) = l.take k ++ [l.getD k default] := by
  rw [List.take_succ_eq_append_getElem h, List.getD_eq_getElem?_getD, List.getElem?_eq_getElem h]; rfl
theorem OwnP.form {w : World} {base n q : Nat} {v : Value} {C : List Pd} (h : OwnP w base n v q C) (hp : 0 < q) : ∃ g c, v = .slice (some ⟨g, 0, none⟩) q c := by
  rcases h.2.2 with ⟨_, h0⟩ | ⟨g, cap, cur, rfl, _⟩
  · omega
  · exact ⟨g, cap, rfl⟩
theorem OwnP.len {w : World} {base n q : Nat} {v : Value} {C : List Pd} (h : OwnP w base n v q C) : C.length = q := by
  have h1 := h.2.1
  rw [pcs_length h.1] at h1; omega
theorem OwnP.at_ {w : World} {base n q g c : Nat} {C : List Pd} (h : OwnP w base n (.slice (some ⟨g, 0, none⟩) q c) q C) (j : Nat) (hj : j < q) :
    w.cell? ⟨g, j * 513, none⟩ = some (.int .i64 (((C.getD j default).num : Nat) : Int)) ∧ w.rangeAt g (j * 513 + 1) (bv (C.getD j default).data) := by
  have hl := h.len
  have key : ∀ i u, i < 513 → (pc (C.getD j default))[i]? = some u → w.cell? ⟨g, j * 513 + i, none⟩ = some u := fun i u hi hu => by
    have := World.ownsRow.cells h.2 (g := g) rfl (j * 513 + i) u (by rw [pcs_get C j i h.1 (by omega) hi, hu])
    rwa [Addr.add_mid, Nat.zero_add] at this
  have hd := (h.1.get j (by omega)).2
  refine ⟨key 0 _ (by omega) rfl, fun i u hu => ?_⟩
  have hi : i < 512 := by
    rcases Nat.lt_or_ge i 512 with h | h
    · exact h
    · rw [List.getElem?_eq_none (by rw [bv_length, hd]; exact h)] at hu; cases hu
  rw [Nat.add_assoc, Nat.add_comm 1 i]
  exact key (i + 1) u (by omega) (by simpa [pc] using hu)
def rdB (D : DS) (k : Nat) : List UInt8 := rdC D.C k (blkM D.M k)
theorem dv_Read (w : World) (b g : Nat) (vc : Value) (D : DS) (k : Nat) (h : IsV w b g vc D) (hk : k < D.n) (hd : D.down = false) (hrd : D.rd < 9223372036854775807) (hq : D.C.length ≤ 100000000000) :
    Calls Try.prog 49 #[.pointer (some ⟨b, 0, none⟩), .int .i64 k] w fun e w' => ∃ u, e = .returned (.tuple #[u, .int .i64 0]) ∧ (∃ j, u = .slice (some ⟨j, 0, none⟩) 512 512) ∧ Own w' w.heap.size u 512 (rdB D k) ∧ IsV w' b g vc { D with rd := D.rd + 1 } ∧ Fr (dvS b g vc) (dvS b g vc) w w' := by
  have HH := Lib.hid (dv_has w b g vc D k h)
  rw [decide_eq_true (show 0 ≤ (k : Int) ∧ (k : Int) < (D.n : Int) by omega)] at HH
  have c4 : w.cell? ⟨b, 4, none⟩ = some (.bool D.down) := h.dev.cell 4
  rw [hd] at c4
  have c5 : w.cell? ⟨b, 5, none⟩ = some (.int .i64 (D.rd : Int)) := h.dev.cell 5
  have f5 := frozen_of_row w b 5 _ _ h.dev.st
  have hw5 : (0 : Int) ≤ (D.rd : Int) ∧ (D.rd : Int) < 9223372036854775807 := by omega
  have HS := Lib.hid (h.store 5 (.int .i64 ((D.rd : Int) + 1)) { D with rd := D.rd + 1 } rfl rfl rfl (by simp))
  obtain ⟨W, hW⟩ : ∃ W, W = w.setCell ⟨b, 5, none⟩ (.int .i64 ((D.rd : Int) + 1)) := ⟨_, rfl⟩
  rw [← hW] at HS
  have hcw : W.cell? ⟨b, 1, none⟩ = some vc := HS.out.1.dev.cell 1
  clear h hd
  go_enter Try.func49, Try.ntmps49
  go_wp2_with fail
  refine HH.out.mono ?_
  rintro e w1 ⟨rfl, rfl⟩
  rw [hW] at hcw
  obtain ⟨Ac, cc, rfl⟩ := HS.out.1.ca.slice
  go_wp2_with fail
  rw [← hW]
  rw [← hW] at hcw
  have hmd := HS.out.1.med k hk
  have hlc := HS.out.1.ca.len
  have c0 := HS.out.1.dev.c0
  have hsm := HS.out.1.dev.small
  have HF := Lib.hid HS.out.2
  have HV := Lib.hid HS.out.1
  have HCP := Lib.hid (dv_copied W g (k * 512) (blkM D.M k) hmd.2 hmd.1)
  have hkk : (0 : Int) ≤ (k : Int) ∧ (k : Int) < (D.n : Int) := by omega
  have hzw : w1.heap.size ≤ W.heap.size := HF.out.only.size
  have HFin := Lib.hid (fun (u : Value) (R : List UInt8) (w2 : World) (hN : NewB W u R w2) => (show (∃ j, u = .slice (some ⟨j, 0, none⟩) 512 512) ∧ Own w2 w1.heap.size u 512 R ∧ IsV w2 b g (.slice Ac D.C.length cc) { D with rd := D.rd + 1 } ∧ Fr (dvS b g (.slice Ac D.C.length cc)) (dvS b g (.slice Ac D.C.length cc)) w1 w2 from by
    obtain ⟨j, e1, e2, e3⟩ := hN
    exact ⟨⟨j, e1⟩, e2.mono hzw, HV.out.ext e3, HF.out.trans (Fr.below _ e3)⟩))
  have HQ := Lib.hid hq
  clear c4 c5 f5 hW HH HS hmd hlc
  go_loop [6] (fun x => ∃ m : Nat, m ≤ D.C.length ∧ x = .int .i64 ((m : Int) - 1) ∧ rdB D k = rdC (D.C.take m) k (blkM D.M k)) (fun x => (intOf x + 1).toNat)
  case atStart => exact ⟨D.C.length, Nat.le_refl _, rfl, by rw [List.take_length]; rfl⟩
  case round =>
    obtain ⟨m, hm, rfl, hE⟩ := hrel
    have HE := Lib.hid hE
    clear hE
    rcases Nat.eq_zero_or_pos m with rfl | hp
    · go_wp2_with fail
      refine HCP.out.mono ?_
      rintro e w2 ⟨u, rfl, hN⟩
      have HN := Lib.hid (HFin.out u _ w2 hN)
      obtain ⟨j, rfl, _, _⟩ := hN
      go_wp2
      go_ret2
      refine ⟨_, rfl, HN.out.1, ?_, HN.out.2.2⟩
      rw [HE.out]
      exact HN.out.2.1
    · obtain ⟨j, rfl⟩ : ∃ j, m = j + 1 := ⟨m - 1, by omega⟩
      have hx : ((j + 1 : Nat) : Int) - 1 = (j : Int) := by omega
      rw [hx]
      obtain ⟨gc, cc2, hvc⟩ := HV.out.ca.form (by show 0 < D.C.length; omega)
      injection hvc with hv1 hv2 hv3
      subst hv1 hv3
      have hat := HV.out.ca.at_ j (by show j < D.C.length; omega)
      have hpd := HV.out.ca.1.get j (by show j < D.C.length; omega)
      have HCJ := Lib.hid (dv_copied W gc (j * 513 + 1) _ hpd.2 hat.2)
      have hn1 := hat.1
      have hts := takeP_snoc D.C j (by omega)
      obtain ⟨x, hxx⟩ : ∃ x, x = D.C.getD j default := ⟨_, rfl⟩
      have hn2 : W.cell? ⟨gc, j * 513, none⟩ = some (.int .i64 ((x.num : Nat) : Int)) := by rw [hxx]; exact hn1
      rw [← hxx] at hts
      have HST := Lib.hid (show rdB D k = if x.num = k then x.data else rdC (D.C.take j) k (blkM D.M k) by rw [HE.out, hts, rdC_snoc])
      have HXX := Lib.hid hxx
      have hjj : (0 : Int) ≤ (j : Int) ∧ (j : Int) < ((D.C.length : Nat) : Int) ∧ ((D.C.length : Nat) : Int) ≤ 100000000000 := by omega
      clear hat hpd hn1 hts hxx hx hp
      by_cases hnk : x.num = k
      · have e1 : (((x.num : Nat) : Int) == (k : Int)) = true := by simp [hnk]
        have HR := Lib.hid (show rdB D k = (D.C.getD j default).data by rw [HST.out, if_pos hnk, HXX.out])
        clear hnk
        go_wp2_with fail
        refine HCJ.out.mono ?_
        rintro e w2 ⟨u, rfl, hN⟩
        have HN := Lib.hid (HFin.out u _ w2 hN)
        obtain ⟨j2, rfl, _, _⟩ := hN
        go_wp2
        go_ret2
        refine ⟨_, rfl, HN.out.1, ?_, HN.out.2.2⟩
        rw [HR.out]
        exact HN.out.2.1
      · have e1 : (((x.num : Nat) : Int) == (k : Int)) = false := by simp; omega
        have HR := Lib.hid (show rdB D k = rdC (D.C.take j) k (blkM D.M k) by rw [HST.out, if_neg hnk])
        clear hnk
        go_wp2
        go_round
        case rel => exact ⟨j, by omega, rfl, HR.out⟩
        case measure => simp [intOf]
end Go.Proofs.Ytggoaelbglhehaa
/- The device's settle under Flush. -/
set_option linter.unusedVariables false
set_option linter.unusedSimpArgs false
set_option maxRecDepth 100000
namespace Go.Proofs.Ytggoaelbglhehaa
open Go.RowKit
/-- the first n bytes of a write are laid on the medium -/
def layP (M : List UInt8) (x : Pd) (n : Nat) : List UInt8 := splice M (x.num * 512) (x.data.take n)
theorem layP_len {M : List UInt8} {x : Pd} {n N : Nat} (h : M.length = N * 512) (h1 : x.num < N) (h2 : x.data.length = 512) : (layP M x n).length = N * 512 := by
  have h3 : (x.data.take n).length ≤ 512 := by rw [List.length_take]; omega
  have h4 : x.num * 512 + 512 ≤ N * 512 := by have : (x.num + 1) * 512 ≤ N * 512 := Nat.mul_le_mul_right _ h1; omega
  unfold layP splice
  rw [List.length_append, List.length_append, List.length_take, List.length_drop, h]
  omega
/-- all writes of a list, each as far as f says -/
def layA (f : Nat → Nat) : Nat → List Pd → List UInt8 → List UInt8
  | _, [], M => M
  | i, x :: r, M => layA f (i + 1) r (layP M x (f i))
theorem layA_snoc (f : Nat → Nat) (x : Pd) : ∀ (i : Nat) (l : List Pd) (M : List UInt8), layA f i (l ++ [x]) M = layP (layA f i l M) x (f (i + l.length))
  | i, [], M => rfl
  | i, y :: r, M => by
    rw [List.cons_append, layA, layA_snoc f x (i + 1) r, layA, List.length_cons, show i + 1 + r.length = i + (r.length + 1) by omega]
theorem dv_flush1 (w : World) (i : Int) : Calls Try.prog 66 #[.int .i64 i] w fun e w' => e = .returned (.tuple #[.int .i64 512, .bool true]) ∧ w' = w := by
  go_enter Try.func66, Try.ntmps66
  go_wp2
  go_ret2
  exact ⟨rfl, rfl⟩
theorem IsV.noCache {w : World} {b g : Nat} {vc : Value} {D : DS} (h : IsV w b g vc D) : IsV (w.setCell ⟨b, 1, none⟩ (.slice none 0 0)) b g (.slice none 0 0) { D with C := [] } ∧ Fr (dvS b g vc) (dvS b g (.slice none 0 0)) w (w.setCell ⟨b, 1, none⟩ (.slice none 0 0)) := by
  have hS : Only [b] w (w.setCell ⟨b, 1, none⟩ (.slice none 0 0)) := (Only.refl [b] w).setCell (by simp) _
  refine ⟨⟨⟨?_, ?_, h.dev.len, h.dev.ne, h.dev.small⟩, ⟨PdOk.nil _, World.ownsRow_nil _ _ _ _⟩, fun k hk => by cases hk⟩, hS.mono (by simp [dvS]), ?_⟩
  · rw [heap_setCell_same w b 1 _ _ _ h.dev.st]; rfl
  · exact (hS.blk g (lt_of_block h.dev.med) (by simp; exact fun e => h.dev.ne e.symm)).trans h.dev.med
  · intro k hk
    simp only [dvS, Value.ownBlock, Option.toList_none, List.mem_cons, List.not_mem_nil, or_false] at hk ⊢
    rcases hk with rfl | rfl
    · exact .inl (.inl rfl)
    · exact .inl (.inr (.inl rfl))
theorem Fr.of_med {b g : Nat} {vc : Value} {w w' : World} (h : b ≠ g) (ho : Only [g] w w') : Fr (dvS b g vc) (dvS b g vc) w w' := ⟨ho.mono (by simp [dvS]), fun k hk => .inl hk⟩
theorem dv_settleF (w : World) (b g : Nat) (vc : Value) (D : DS) (h : IsV w b g vc D) (hq : D.C.length ≤ 100000000000) :
    Calls Try.prog 56 #[.pointer (some ⟨b, 0, none⟩), .func (.func 66) #[] #[]] w fun e w' => e = .returned (.int .i64 (D.C.length : Nat)) ∧
      IsV w' b g (.slice none 0 0) { D with C := [], M := layA (fun _ => 512) 0 D.C D.M } ∧ Fr (dvS b g vc) (dvS b g (.slice none 0 0)) w w' := by
  have c1 : w.cell? ⟨b, 1, none⟩ = some vc := h.dev.cell 1
  have HV := Lib.hid h
  obtain ⟨Ac, cc, rfl⟩ := h.ca.slice
  have hbg := h.dev.ne
  clear h
  go_enter Try.func56, Try.ntmps56
  go_wp2_with fail
  clear c1
  go_loopw [5, 6, 7, 8, 9, 15] (fun vt _ _ _ _ x wx => ∃ j : Nat, j ≤ D.C.length ∧ x = .int .i64 j ∧ vt = .int .i64 j ∧ IsV wx b g (.slice Ac D.C.length cc) { D with M := layA (fun _ => 512) 0 (D.C.take j) D.M } ∧ Only [g] w wx) (fun _ _ _ _ _ x _ => D.C.length - (intOf x).toNat)
  case atStart => exact ⟨0, Nat.zero_le _, rfl, rfl, HV.out, Only.refl _ _⟩
  case round =>
    obtain ⟨j, hj, rfl, rfl, hI, hO⟩ := hrel
    have HI := Lib.hid hI
    have HO := Lib.hid hO
    have c1 : wr.cell? ⟨b, 1, none⟩ = some (.slice Ac D.C.length cc) := hI.dev.cell 1
    have c0 := hI.dev.c0
    have hsm := hI.dev.small
    have hml := hI.dev.len
    by_cases hjn : j < D.C.length
    · obtain ⟨gc, cc2, hvc⟩ := hI.ca.form (by show 0 < D.C.length; omega)
      injection hvc with hv1 hv2 hv3
      subst hv1 hv3
      have hat := hI.ca.at_ j hjn
      have hpd := hI.ca.1.get j hjn
      obtain ⟨x, hxx⟩ : ∃ x, x = D.C.getD j default := ⟨_, rfl⟩
      have hn2 : wr.cell? ⟨gc, j * 513, none⟩ = some (.int .i64 ((x.num : Nat) : Int)) := by rw [hxx]; exact hat.1
      have hrg : wr.rangeAt gc (j * 513 + 1) (bv x.data) := by rw [hxx]; exact hat.2
      have hpd1 : x.num < D.n := by rw [hxx]; exact hpd.1
      have hpd2 : x.data.length = 512 := by rw [hxx]; exact hpd.2
      obtain ⟨M, hM⟩ : ∃ M, M = layA (fun _ => 512) 0 (D.C.take j) D.M := ⟨_, rfl⟩
      have HST := Lib.hid (show layA (fun _ => 512) 0 (D.C.take (j + 1)) D.M = splice M (x.num * 512) x.data by
        rw [takeP_snoc D.C j hjn, layA_snoc, ← hxx, ← hM]
        unfold layP
        rw [List.take_of_length_le (by omega)])
      have hml2 : M.length = D.n * 512 := by rw [hM]; exact hml
      rw [← hM] at HI
      have HMD := Lib.hid HI.out.dev.med
      have hjj : (0 : Int) ≤ (j : Int) ∧ (j : Int) < ((D.C.length : Nat) : Int) ∧ ((D.C.length : Nat) : Int) ≤ 100000000000 := by omega
      have hxn : (0 : Int) ≤ (x.num : Int) ∧ (x.num : Int) < (D.n : Int) := by omega
      have hgne : gc ≠ g := (HI.out.nb gc rfl).2
      have hbne : b ≠ g := HI.out.dev.ne
      have HXX := Lib.hid hxx
      clear hI hO hat hpd hxx hM hml
      go_wp2_with fail
      refine (dv_flush1 _ _).mono ?_
      rintro e w2 ⟨rfl, rfl⟩
      go_wp2_with fail
      have HSRC := Lib.hid (show ∀ k v, (bv x.data)[k]? = some v → w2.drew.cell? ((⟨gc, j * 513 + 1, none⟩ : Addr).add k) = some v from fun k v hv => by rw [Addr.add_mid]; exact hrg k v hv)
      have HMD2 := Lib.hid (show w2.drew.heap[g]? = some (.cells (bv M).toArray 89 (0, 0)) from HMD.out)
      clear hrg
      go_region_held3 (fun w' => w'.cell? ⟨b, 0, none⟩ = some (.slice (some ⟨g, 0, none⟩) D.n D.n) ∧ w'.cell? ⟨gc, j * 513, none⟩ = some (.int .i64 ((x.num : Nat) : Int)) ∧ Only [g] w2 w')
        (first | exact ⟨f0, f1, fO⟩ | exact ⟨c0, hn2, (Only.refl _ _).drew⟩)
        (first | (refine step_copy_only rfl (.tmp 39) (.tmp 44) 26 26 rfl 5 Try.underlying26 sz_u8 g (x.num * 512) 512 512 ⟨gc, j * 513 + 1, none⟩ 512 512 rfl rfl (bv M) 89 HMD2.out (bv x.data) ?q3 HSRC.out ?q5 (bv_one _) ?_
                  (case q3 => (rw [bv_length, hpd2]; first | done | rfl))
                  (case q5 => (rw [bv_length, bv_length, hml2, hpd2]; omega))
                  intro w3 hg3 ho3
                  rw [splice_bv] at hg3
                  have fO : Only [g] w2 w3 := ((Only.refl [g] w2).drew).trans ho3
                  have HP := Lib.hid (HI.out.setMed fO hg3 (by simp [splice]; omega))
                  have f0 := HP.out.1.dev.c0
                  have f1 := (HP.out.1.ca.at_ j hjn).1
                  rw [← HXX.out] at f1
                  clear ho3 hg3))
      rename_i hHeld
      clear hHeld
      go_wp2
      go_roundw
      case rel => exact ⟨j + 1, by omega, by go_num, by go_num, by rw [HST.out]; exact HP.out.1, HO.out.trans fO⟩
      case measure => simp [intOf]; omega
    · obtain rfl : D.C.length = j := by omega
      have HT := Lib.hid (show layA (fun _ => 512) 0 (D.C.take D.C.length) D.M = layA (fun _ => 512) 0 D.C D.M by rw [List.take_length])
      have f1 := frozen_of_row wr b 1 _ _ hI.dev.st
      rw [HT.out] at hI
      have HD := Lib.hid hI.noCache
      clear hI HI
      go_wp2
      go_ret
      exact ⟨by simp, HD.out.1, (Fr.of_med hbg HO.out).trans HD.out.2⟩
end Go.Proofs.Ytggoaelbglhehaa
/- The device's Flush. -/
set_option linter.unusedVariables false
set_option linter.unusedSimpArgs false
set_option maxRecDepth 100000
namespace Go.Proofs.Ytggoaelbglhehaa
open Go.RowKit
theorem actD_keeps (D : DS) : (actD D).2.C = D.C ∧ (actD D).2.M = D.M ∧ (actD D).2.n = D.n ∧ (actD D).2.rd = D.rd ∧ (actD D).2.wr = D.wr ∧ (actD D).2.fl = D.fl := by
  unfold actD; split
  · exact ⟨rfl, rfl, rfl, rfl, rfl, rfl⟩
  · split
    · exact ⟨rfl, rfl, rfl, rfl, rfl, rfl⟩
    · split <;> exact ⟨rfl, rfl, rfl, rfl, rfl, rfl⟩
def flD (D : DS) : Int × DS := if (actD D).1 = true then (0, { (actD D).2 with C := [], M := layA (fun _ => 512) 0 (actD D).2.C (actD D).2.M, fl := (actD D).2.fl + 1 }) else (6, (actD D).2)
theorem dv_Flush (w : World) (b g : Nat) (vc : Value) (D : DS) (h : IsV w b g vc D) (hl : D.left < 9223372036854775808) (hq : D.C.length ≤ 100000000000) (hfl : D.fl < 9223372036854775807) :
    Calls Try.prog 52 #[.pointer (some ⟨b, 0, none⟩)] w fun e w' => e = .returned (.int .i64 (flD D).1) ∧ ∃ vc', IsV w' b g vc' (flD D).2 ∧ Fr (dvS b g vc) (dvS b g vc') w w' := by
  have HA := Lib.hid (dv_act w b g vc D hl h)
  have hk := actD_keeps D
  clear h
  cases hact : (actD D).1 with
  | false =>
    have HW := Lib.hid (show flD D = (6, (actD D).2) by unfold flD; rw [if_neg (by simp [hact])])
    rw [hact] at HA
    rw [HW.out]
    clear hact hk
    go_enter Try.func52, Try.ntmps52
    go_wp2_with fail
    refine HA.out.mono ?_
    rintro e w2 ⟨rfl, hV, hF⟩
    have HV2 := Lib.hid hV
    have HF2 := Lib.hid hF
    clear hV hF
    go_wp2
    go_ret
    exact ⟨rfl, vc, HV2.out, HF2.out⟩
  | true =>
    have HW := Lib.hid (show flD D = (0, { (actD D).2 with C := [], M := layA (fun _ => 512) 0 (actD D).2.C (actD D).2.M, fl := (actD D).2.fl + 1 }) by unfold flD; rw [if_pos hact])
    rw [hact] at HA
    rw [HW.out]
    obtain ⟨D2, hD2⟩ : ∃ D2, D2 = (actD D).2 := ⟨_, rfl⟩
    rw [← hD2] at HA hk ⊢
    clear hact hD2
    go_enter Try.func52, Try.ntmps52
    go_wp2_with fail
    refine HA.out.mono ?_
    rintro e w2 ⟨rfl, hV, hF⟩
    have HF2 := Lib.hid hF
    have HS := Lib.hid (dv_settleF w2 b g vc D2 hV (by rw [hk.1]; exact hq))
    clear hV hF
    go_wp2_with fail
    refine HS.out.mono ?_
    rintro e w3 ⟨rfl, hV3, hF3⟩
    have c7 : w3.cell? ⟨b, 7, none⟩ = some (.int .i64 (D2.fl : Int)) := hV3.dev.cell 7
    have f7 := frozen_of_row w3 b 7 _ _ hV3.dev.st
    have hw7 : (0 : Int) ≤ (D2.fl : Int) ∧ (D2.fl : Int) < 9223372036854775807 := by have := hk.2.2.2.2.2; omega
    have HS7 := Lib.hid (hV3.store 7 (.int .i64 ((D2.fl : Int) + 1)) { D2 with C := [], M := layA (fun _ => 512) 0 D2.C D2.M, fl := D2.fl + 1 } rfl rfl rfl (by simp))
    have HF3 := Lib.hid hF3
    clear hV3 hF3 hk
    go_wp2
    go_ret
    exact ⟨rfl, _, HS7.out.1, HF2.out.trans (HF3.out.trans HS7.out.2)⟩
end Go.Proofs.Ytggoaelbglhehaa
/- The laws' own helpers over the device: full. -/
set_option linter.unusedVariables false
set_option linter.unusedSimpArgs false
set_option maxRecDepth 100000
namespace Go.Proofs.Ytggoaelbglhehaa
open Go.RowKit
end Go.Proofs.Ytggoaelbglhehaa
/- The laws' own helpers over the device: same. -/
set_option linter.unusedVariables false
set_option linter.unusedSimpArgs false
set_option maxRecDepth 100000
namespace Go.Proofs.Ytggoaelbglhehaa
open Go.RowKit
theorem bstr_list (l : List UInt8) : (bstr l).toList = l := by rw [ByteArray.toList_eq]; rfl
end Go.Proofs.Ytggoaelbglhehaa
