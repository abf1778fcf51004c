/- The reference's space: in, copied, free, Taken, Commit, Back. -/
import Derived.Test.YtodondpggkohjaaSpQ1
import Derived.Deep.QuietTactic
import Derived.BigQuiet
set_option linter.unusedVariables false
set_option linter.unusedSimpArgs false
set_option maxRecDepth 100000
namespace Go.Proofs.Ytodondpggkohjaa
open Go.RowKit
theorem rs_in {D : List Nat} (A : Option Addr) (n c : Nat) (l : List Int) (b : Int) (w : World) (hr : RdI D w A n c l) :
    Calls Try.prog 37 #[.slice A n c, .int .i64 b] w fun e w' => e = .returned (.bool (decide (b ∈ l))) ∧ w' = w := by
  have HR := Lib.hid hr
  have HL := Lib.hid hr.len
  have hmx := hr.max
  clear hr
  go_enter Try.func37, Try.ntmps37
  go_wp2_with fail
  go_loopw [5] (fun x wx => ∃ k : Nat, k ≤ n ∧ x = .int .i64 k ∧ b ∉ l.take k ∧ wx = w) (fun x _ => n - (intOf x).toNat)
  case atStart => exact ⟨0, by omega, rfl, by simp, rfl⟩
  case round =>
    obtain ⟨k, hk, rfl, hn, rfl⟩ := hrel
    have HN := Lib.hid hn
    clear hn
    by_cases hkn : k < n
    · obtain ⟨bb, o, rfl, -, hc⟩ := HR.out.at_ (by omega)
      have hcell := hc k hkn
      have hki : (0 : Int) ≤ (k : Int) ∧ (k : Int) < (n : Int) := by omega
      obtain ⟨y, hy⟩ : ∃ y, y = l.getD k 0 := ⟨_, rfl⟩
      rw [← hy] at hcell
      have HY := Lib.hid (show l.take (k + 1) = l.take k ++ [y] by rw [hy]; exact take_snoc l k 0 (by rw [HL.out]; exact hkn))
      have HM := Lib.hid (show y ∈ l by rw [hy, List.getD_eq_getElem?_getD, List.getElem?_eq_getElem (by rw [HL.out]; exact hkn)]; exact List.getElem_mem _)
      clear hc hy
      by_cases hyb : y = b
      · subst hyb
        go_wp2
        go_ret
        exact ⟨by rw [decide_eq_true HM.out]; rfl, rfl⟩
      · have hyb1 : (y == b) = false := by simp [hyb]
        go_wp2
        go_roundw
        case rel => exact ⟨k + 1, by omega, by go_num, by rw [HY.out, List.mem_append]; intro h; rcases h with h | h; exact HN.out h; simp at h; exact hyb h.symm, by first | rfl | trivial⟩
        case measure => simp [intOf]; omega
    · obtain rfl : k = n := by omega
      have HT := Lib.hid (show b ∉ l by have := HN.out; rwa [List.take_of_length_le (by rw [HL.out]; exact Nat.le_refl _)] at this)
      go_wp2
      go_ret
      exact ⟨by rw [decide_eq_false HT.out]; rfl, rfl⟩
theorem rs_copied {D : List Nat} (A : Option Addr) (n c : Nat) (l : List Int) (w : World) (hr : RdI D w A n c l) (hn : n ≤ 17592186044415) :
    Calls Try.prog 27 #[.slice A n c] w fun e w' => ∃ v, e = .returned v ∧ OwnI w' w.heap.size v n l ∧ Below w.heap.size w w' := by
  have HR := Lib.hid hr
  have HL := Lib.hid hr.len
  clear hr
  go_enter Try.func27, Try.ntmps27
  go_wp2_with fail
  go_loopw [3, 4] (fun v x wx => ∃ k : Nat, k ≤ n ∧ x = .int .i64 k ∧ OwnI wx w.heap.size v k (l.take k) ∧ Below w.heap.size w wx) (fun _ x _ => n - (intOf x).toNat)
  case atStart => exact ⟨0, by omega, rfl, OwnI.nil _ _, Below.refl _ _⟩
  case round =>
    obtain ⟨k, hk, rfl, hO, hB⟩ := hrel
    have HO := Lib.hid hO
    have HB := Lib.hid hB
    have hz := hB.size
    clear hO hB
    by_cases hkn : k < n
    · obtain ⟨b, o, rfl, -, hc⟩ := (HR.out.ext HB.out).at_ (by omega)
      have hcell := hc k hkn
      obtain ⟨y, hy⟩ : ∃ y, y = l.getD k 0 := ⟨_, rfl⟩
      rw [← hy] at hcell
      have HST := Lib.hid (show l.take (k + 1) = l.take k ++ [y] by rw [hy]; exact take_snoc l k 0 (by rw [HL.out]; exact hkn))
      have hki : (0 : Int) ≤ (k : Int) ∧ (k : Int) < (n : Int) := by omega
      clear hc hy
      go_wp2_with (at_builtin; refine wp_appI1 (w0 := w) w.heap.size y HO.out HB.out hz (by omega) _ _ rfl rfl rfl rfl ?_; intro v1 w1 hO1 hB1; have HO1 := Lib.hid hO1; have HB1 := Lib.hid hB1; clear hO1 hB1)
      go_roundw
      case rel => exact ⟨k + 1, by omega, by go_num, by rw [HST.out]; exact HO1.out, HB1.out⟩
      case measure => simp [intOf]; omega
    · obtain rfl : k = n := by omega
      have HT := Lib.hid (show l.take k = l from List.take_of_length_le (by rw [HL.out]; exact Nat.le_refl _))
      rw [HT.out] at HO
      go_wp2
      go_ret
      exact ⟨_, rfl, HO.out, HB.out⟩
section
variable {D : List Nat} {r N first : Nat} {was now : List Int} {w : World}
theorem rs_freeC (b : Int) (h : RsOk D w r N first was now) :
    Calls Try.prog 36 #[.pointer (some ⟨r, 0, none⟩), .int .i64 b] w fun e w' => e = .returned (.bool (decide (b ∉ now ∧ b ∉ was))) ∧ w' = w := by
  obtain ⟨A, n, c, A', n', c', h1, h2, h3⟩ := h
  obtain ⟨c0, c1, c2, c3⟩ := rs_cells h1
  have H1 := Lib.hid (rs_in A' n' c' now b w h3)
  have H2 := Lib.hid (rs_in A n c was b w h2)
  clear h1 h2 h3
  by_cases hb : b ∈ now
  · rw [decide_eq_true hb] at H1
    have HF := Lib.hid (show decide (b ∉ now ∧ b ∉ was) = false from decide_eq_false (fun h => h.1 hb))
    clear hb
    go_enter Try.func36, Try.ntmps36
    go_wp2_with fail
    refine H1.out.mono ?_
    rintro e w1 ⟨rfl, hw1⟩
    subst hw1
    go_wp2
    go_ret
    exact ⟨by rw [HF.out]; rfl, rfl⟩
  · rw [decide_eq_false hb] at H1
    by_cases hc : b ∈ was
    · rw [decide_eq_true hc] at H2
      have HF := Lib.hid (show decide (b ∉ now ∧ b ∉ was) = false from decide_eq_false (fun h => h.2 hc))
      clear hb hc
      go_enter Try.func36, Try.ntmps36
      go_wp2_with fail
      refine H1.out.mono ?_
      rintro e w1 ⟨rfl, hw1⟩
      subst hw1
      go_wp2_with fail
      refine H2.out.mono ?_
      rintro e w1 ⟨rfl, hw1⟩
      subst hw1
      go_wp2
      go_ret
      exact ⟨by rw [HF.out]; rfl, rfl⟩
    · rw [decide_eq_false hc] at H2
      have HF := Lib.hid (show decide (b ∉ now ∧ b ∉ was) = true from decide_eq_true ⟨hb, hc⟩)
      clear hb hc
      go_enter Try.func36, Try.ntmps36
      go_wp2_with fail
      refine H1.out.mono ?_
      rintro e w1 ⟨rfl, hw1⟩
      subst hw1
      go_wp2_with fail
      refine H2.out.mono ?_
      rintro e w1 ⟨rfl, hw1⟩
      subst hw1
      go_wp2
      go_ret
      exact ⟨by rw [HF.out]; rfl, rfl⟩
theorem rs_Taken (h : RsOk D w r N first was now) (hn : now.length ≤ 17592186044415) :
    Calls Try.prog 33 #[.pointer (some ⟨r, 0, none⟩)] w fun e w' => ∃ v, e = .returned v ∧ OwnI w' w.heap.size v now.length now ∧ Below w.heap.size w w' := by
  obtain ⟨A, n, c, A', n', c', h1, h2, h3⟩ := h
  obtain ⟨c0, c1, c2, c3⟩ := rs_cells h1
  obtain rfl := h3.len
  have H1 := Lib.hid (rs_copied A' now.length c' now w h3 hn)
  clear h1 h2 h3 hn
  go_enter Try.func33, Try.ntmps33
  go_wp2_with fail
  refine H1.out.mono ?_
  rintro e w1 ⟨v, rfl, hO, hB⟩
  have HO := Lib.hid hO
  have HB := Lib.hid hB
  obtain ⟨A1, cc, rfl⟩ := hO.slice
  clear hO hB
  go_wp2
  go_ret
  exact ⟨_, rfl, HO.out, HB.out⟩
/-- a new list laid into the struct -/
theorem RsOk.setNow {w1 : World} {v : Value} {n : Nat} {l : List Int} (h : RsOk D w r N first was now) (hr : r ∈ D) (hD : ∀ k ∈ D, k < w.heap.size) (hO : OwnI w1 w.heap.size v n l) (hB : Below w.heap.size w w1) (hn : n ≤ 140737488355328) :
    RsOk D (w1.setCell ⟨r, 3, none⟩ v) r N first was l ∧ Only [r] w (w1.setCell ⟨r, 3, none⟩ v) := by
  obtain ⟨A, m, c, A', m', c', h1, h2, h3⟩ := h
  obtain ⟨A1, cc, rfl, hR⟩ := hO.rd D hn hD
  have ho : Only [r] w (w1.setCell ⟨r, 3, none⟩ (.slice A1 n cc)) := (Only.of_below [r] hB).setCell (by simp) _
  have hs : Only [r] w1 (w1.setCell ⟨r, 3, none⟩ (.slice A1 n cc)) := (Only.refl [r] w1).setCell (by simp) _
  have h1' := (hB.block r (lt_of_block h1)).trans h1
  refine ⟨⟨A, m, c, A1, n, cc, ?_, h2.only ho (by simpa using hr), hR.only hs (by simpa using hr)⟩, ho⟩
  exact (heap_setCell_same w1 r 3 _ _ _ h1').trans rfl
theorem RsOk.setWas {w1 : World} {v : Value} {n : Nat} {l : List Int} (h : RsOk D w r N first was now) (hr : r ∈ D) (hD : ∀ k ∈ D, k < w.heap.size) (hO : OwnI w1 w.heap.size v n l) (hB : Below w.heap.size w w1) (hn : n ≤ 140737488355328) :
    RsOk D (w1.setCell ⟨r, 2, none⟩ v) r N first l now ∧ Only [r] w (w1.setCell ⟨r, 2, none⟩ v) := by
  obtain ⟨A, m, c, A', m', c', h1, h2, h3⟩ := h
  obtain ⟨A1, cc, rfl, hR⟩ := hO.rd D hn hD
  have ho : Only [r] w (w1.setCell ⟨r, 2, none⟩ (.slice A1 n cc)) := (Only.of_below [r] hB).setCell (by simp) _
  have hs : Only [r] w1 (w1.setCell ⟨r, 2, none⟩ (.slice A1 n cc)) := (Only.refl [r] w1).setCell (by simp) _
  have h1' := (hB.block r (lt_of_block h1)).trans h1
  refine ⟨⟨A1, n, cc, A', m', c', ?_, hR.only hs (by simpa using hr), h3.only ho (by simpa using hr)⟩, ho⟩
  exact (heap_setCell_same w1 r 2 _ _ _ h1').trans rfl
theorem rs_Commit (h : RsOk D w r N first was now) (hr : r ∈ D) (hD : ∀ k ∈ D, k < w.heap.size) (hn : now.length ≤ 17592186044415) :
    Calls Try.prog 30 #[.pointer (some ⟨r, 0, none⟩)] w fun e w' => e = .returned (.tuple #[]) ∧ RsOk D w' r N first now now ∧ Only [r] w w' := by
  have H := Lib.hid h
  have HD := Lib.hid (And.intro hr hD)
  obtain ⟨A, n, c, A', n', c', h1, h2, h3⟩ := h
  obtain ⟨c0, c1, c2, c3⟩ := rs_cells h1
  obtain rfl := h3.len
  have H1 := Lib.hid (rs_copied A' now.length c' now w h3 hn)
  have HN := Lib.hid hn
  have HH := Lib.hid h1
  clear h1 h2 h3 hn hr hD
  go_enter Try.func30, Try.ntmps30
  go_wp2_with fail
  refine H1.out.mono ?_
  rintro e w1 ⟨v, rfl, hO, hB⟩
  have HS := Lib.hid (H.out.setWas HD.out.1 HD.out.2 hO hB (by have := HN.out; omega))
  have hf := rs_free ((hB.block r (lt_of_block HH.out)).trans HH.out) 2
  have hc2 := cell_ext hB c2
  obtain ⟨A1, cc, rfl⟩ := hO.slice
  clear hO hB
  go_wp2
  go_end0
  exact ⟨rfl, HS.out⟩
theorem rs_Back (h : RsOk D w r N first was now) (hr : r ∈ D) (hD : ∀ k ∈ D, k < w.heap.size) (hn : was.length ≤ 17592186044415) :
    Calls Try.prog 31 #[.pointer (some ⟨r, 0, none⟩)] w fun e w' => e = .returned (.tuple #[]) ∧ RsOk D w' r N first was was ∧ Only [r] w w' := by
  have H := Lib.hid h
  have HD := Lib.hid (And.intro hr hD)
  obtain ⟨A, n, c, A', n', c', h1, h2, h3⟩ := h
  obtain ⟨c0, c1, c2, c3⟩ := rs_cells h1
  obtain rfl := h2.len
  have H1 := Lib.hid (rs_copied A was.length c was w h2 hn)
  have HN := Lib.hid hn
  have HH := Lib.hid h1
  clear h1 h2 h3 hn hr hD
  go_enter Try.func31, Try.ntmps31
  go_wp2_with fail
  refine H1.out.mono ?_
  rintro e w1 ⟨v, rfl, hO, hB⟩
  have HS := Lib.hid (H.out.setNow HD.out.1 HD.out.2 hO hB (by have := HN.out; omega))
  have hf := rs_free ((hB.block r (lt_of_block HH.out)).trans HH.out) 3
  have hc3 := cell_ext hB c3
  obtain ⟨A1, cc, rfl⟩ := hO.slice
  clear hO hB
  go_wp2
  go_end0
  exact ⟨rfl, HS.out⟩
end
end Go.Proofs.Ytodondpggkohjaa
