/- The walk of SumPatchesTrue: it returns true for every string of at most 1048576 bytes, place and piece. -/
import Derived.Test.YtbcoplhfijgcfaaSumL2
import Derived.Test.YtbcoplhfijgcfaaSumW9
set_option linter.unusedVariables false
set_option linter.unusedSimpArgs false
namespace Go.Proofs.Ytbcoplhfijgcfaa
open Go.RowKit SumMath
theorem pv_true (l now : List UInt8) (at_ k : Nat) (hk : now.length = k) (h : at_ + k ≤ l.length) (hl : l.length ≤ 1048576) :
    pv (crc 0#32 l) (l.length : Int) (at_ : Int) ((l.drop at_).take k) now = crc 0#32 (laid l now at_ k) ∧ pe (l.length : Int) (at_ : Int) ((l.drop at_).take k) now = 0 ∧
    pv (crc 0#32 (laid l now at_ k)) (l.length : Int) (at_ : Int) now ((l.drop at_).take k) = crc 0#32 l ∧ pe (l.length : Int) (at_ : Int) now ((l.drop at_).take k) = 0 := by
  subst hk
  have h1 : ((l.drop at_).take now.length).length = now.length := by simp; omega
  have h2 : (l.drop (at_ + now.length)).length = l.length - at_ - now.length := by simp; omega
  have e1 := crc_patch (l.take at_) ((l.drop at_).take now.length) now (l.drop (at_ + now.length)) h1
  have e2 := crc_patch (l.take at_) now ((l.drop at_).take now.length) (l.drop (at_ + now.length)) h1.symm
  rw [← cut_three l at_ now.length h, ← laid_all l now at_ h, h2] at e1 e2
  refine ⟨?_, pe_ok (by rw [h1]; omega), ?_, pe_ok (by rw [h1]; omega)⟩
  · rw [pv_ok (k := l.length - at_ - now.length) (by rw [h1]; omega) (by rw [h1]; omega), e1]
  · rw [pv_ok (k := l.length - at_ - now.length) (by rw [h1]; omega) (by omega), e2]
theorem walk_SumPatchesTrue (A : Option Addr) (n c : Nat) (l : List UInt8) (a1 : Int) (A' : Option Addr) (k c' : Nat) (now : List UInt8) (W : World) (w0 : Rd W A n c l) (z0 : n ≤ 1048576) (w1 : -9223372036854775808 ≤ a1 ∧ a1 < 9223372036854775808) (w2 : Rd W A' k c' now) (z2 : k ≤ 1048576) :
    Calls Try.prog 11 #[.slice A n c, .int .i64 a1, .slice A' k c'] W fun e W' => e = .returned (.bool true) ∧ Below W.heap.size W W' := by
  have HR := Lib.hid w0
  have HN := Lib.hid w2
  have hnc := w0.cap
  clear w0 w1 w2
  by_cases hok : 0 ≤ a1 ∧ a1 ≤ n ∧ (k : Int) ≤ n - a1
  · obtain ⟨at_, rfl⟩ := Int.eq_ofNat_of_zero_le hok.1
    obtain ⟨_, h1, h2⟩ := hok
    have hak : at_ + k ≤ n := by omega
    have HL := Lib.hid HR.out.len
    obtain ⟨p1, p2, p3, p4⟩ := pv_true l now at_ k HN.out.len (by rw [HL.out]; exact hak) (by rw [HL.out]; exact z0)
    rw [HL.out] at p1 p2 p3 p4
    have P1 := Lib.hid p1
    have P2 := Lib.hid p2
    have P3 := Lib.hid p3
    have P4 := Lib.hid p4
    clear p1 p2 p3 p4
    obtain ⟨hi, hhi⟩ : ∃ hi, hi = at_ + k := ⟨_, rfl⟩
    obtain ⟨Ac, hcut, hRc⟩ := cut_mid A n c at_ hi (by omega) (by omega) hnc
    rw [show hi - at_ = k by omega] at hcut hRc
    have hak2 : (at_ : Int) + k = (hi : Int) := by omega
    have hhn : hi ≤ n := by omega
    have HI := Lib.hid hhi
    clear hhi
    have HRc := Lib.hid hRc
    clear hRc
    go_enter Try.func11, Try.ntmps11
    go_wp2_with fail
    refine (law_fixed W).mono ?_
    rintro e w1 ⟨rfl, hb1⟩
    go_wp2_with fail
    refine (law_dup _ _ _ ((l.drop at_).take k) _ (HRc.out _ l (HR.out.ext hb1))).mono ?_
    rintro e w2 ⟨v, rfl, hO, hb2⟩
    obtain ⟨A2, c2, rfl, hR2⟩ := hO.rd (by omega)
    have HR2 := Lib.hid hR2
    have hB2 := hb1.trans (hb2.mono hb1.size)
    clear hO hR2
    go_wp2_with fail
    refine (law_dup _ _ _ l _ (HR.out.ext hB2)).mono ?_
    rintro e w3 ⟨v, rfl, hO, hb3⟩
    have hz2 := hB2.size
    have HO3 := Lib.hid hO
    have hB3 := hB2.trans (hb3.mono hB2.size)
    obtain ⟨A3, c3, rfl, hR3⟩ := hO.rd (by omega)
    clear hO hR3
    go_wp2_with fail
    go_loopw [10] (fun i wr => ∃ j : Nat, j ≤ k ∧ i = .int .i64 j ∧ Own wr w2.heap.size (.slice A3 n c3) n (laid l now at_ j) ∧ Below w2.heap.size w2 wr) (fun i _ => k - (intOf i).toNat)
    case atStart => exact ⟨0, by omega, rfl, HO3.out, hb3⟩
    case round =>
      obtain ⟨j, hj, rfl, hOj, hbj⟩ := hrel
      have HOj := Lib.hid hOj
      have hBj := hB2.trans (hbj.mono hz2)
      clear hOj
      by_cases hjk : j < k
      · obtain ⟨b, o, rfl, hc⟩ := HN.out.at_ (by omega)
        have hcell := cell_ext hBj (hc j hjk)
        obtain ⟨g, cc, he, hg1, hg2⟩ := HOj.out.form (by omega)
        injection he with he1 he2 he3
        subst he1 he3
        have hcell2 := HOj.out.cell (at_ + j) (by omega)
        have hfree := HOj.out.free (at_ + j)
        clear hc
        have h8 := (now.getD j 0).toNat_lt
        have HS := Lib.hid (show laid l now at_ (j + 1) = (laid l now at_ j).set (at_ + j) (now.getD j 0) from rfl)
        generalize now.getD j 0 = x at *
        generalize (laid l now at_ j).getD (at_ + j) 0 = y at *
        go_wp2
        exact ⟨⟨j + 1, by omega, by go_num, by rw [HS.out]; exact HOj.out.store _ _, hbj.setCell (by exact hg1) _⟩, by simp [intOf]; omega⟩
      · obtain rfl : j = k := by omega
        obtain ⟨A4, c4, he, hR4⟩ := HOj.out.rd (by omega)
        injection he with he1 he2 he3
        subst he1 he3
        have HR4 := Lib.hid hR4
        have HX4 := Lib.hid (HR2.out.ext hbj)
        clear hR4 he2
        go_wp2_with fail
        refine (law_dup _ _ _ l _ (HR.out.ext hBj)).mono ?_
        rintro e w5 ⟨v, rfl, hO, hb5⟩
        obtain ⟨A5, c5, rfl, hR5⟩ := hO.rd (by omega)
        have HR5 := Lib.hid hR5
        have hB5 := hBj.trans (hb5.mono hBj.size)
        have HX5 := Lib.hid (HX4.out.ext hb5)
        have HY5 := Lib.hid (HR4.out.ext hb5)
        clear hO hR5
        go_wp2_with fail
        refine (sum_Sum _ _ _ l _ HR5.out).mono ?_
        rintro e w6 ⟨rfl, hb6⟩
        have hB6 := hB5.trans (hb6.mono hB5.size)
        have HX6 := Lib.hid (HX5.out.ext hb6)
        have HY6 := Lib.hid (HY5.out.ext hb6)
        go_wp2_with fail
        refine (law_dup _ _ _ now _ (HN.out.ext hB6)).mono ?_
        rintro e w7 ⟨v, rfl, hO, hb7⟩
        obtain ⟨A7, c7, rfl, hR7⟩ := hO.rd (by omega)
        have HR7 := Lib.hid hR7
        have hB7 := hB6.trans (hb7.mono hB6.size)
        have HX7 := Lib.hid (HX6.out.ext hb7)
        have HY7 := Lib.hid (HY6.out.ext hb7)
        clear hO hR7
        go_wp2_with fail
        refine (sum_Patch _ _ _ _ _ _ ((l.drop at_).take j) _ _ _ now _ HX7.out HR7.out).mono ?_
        rintro e w8 ⟨rfl, hb8⟩
        rw [P1.out, P2.out]
        have hB8 := hB7.trans (hb8.mono hB7.size)
        have HX8 := Lib.hid (HX7.out.ext hb8)
        have HY8 := Lib.hid (HY7.out.ext hb8)
        go_wp2_with fail
        refine (law_dup _ _ _ now _ (HN.out.ext hB8)).mono ?_
        rintro e w9 ⟨v, rfl, hO, hb9⟩
        obtain ⟨A9, c9, rfl, hR9⟩ := hO.rd (by omega)
        have HR9 := Lib.hid hR9
        have hB9 := hB8.trans (hb9.mono hB8.size)
        have HX9 := Lib.hid (HX8.out.ext hb9)
        have HY9 := Lib.hid (HY8.out.ext hb9)
        clear hO hR9
        go_wp2_with fail
        refine (sum_Patch _ _ _ _ _ _ now _ _ _ ((l.drop at_).take j) _ HR9.out HX9.out).mono ?_
        rintro e w10 ⟨rfl, hb10⟩
        rw [P3.out, P4.out]
        have hB10 := hB9.trans (hb10.mono hB9.size)
        have HY10 := Lib.hid (HY9.out.ext hb10)
        go_wp2_with fail
        refine (sum_Sum _ _ _ _ _ HY10.out).mono ?_
        rintro e w11 ⟨rfl, hb11⟩
        have hB11 := hB10.trans (hb11.mono hB10.size)
        go_wp2_with fail
        refine (law_dup _ _ _ l _ (HR.out.ext hB11)).mono ?_
        rintro e w12 ⟨v, rfl, hO, hb12⟩
        obtain ⟨A12, c12, rfl, hR12⟩ := hO.rd (by omega)
        have HR12 := Lib.hid hR12
        have hB12 := hB11.trans (hb12.mono hB11.size)
        clear hO hR12
        go_wp2_with fail
        refine (sum_Sum _ _ _ l _ HR12.out).mono ?_
        rintro e w13 ⟨rfl, hb13⟩
        go_wp2
        go_ret
        exact ⟨rfl, hB12.trans (hb13.mono hB12.size)⟩
  · have hc : a1 < 0 ∨ (¬ a1 < 0 ∧ (n : Int) < a1) ∨ (¬ a1 < 0 ∧ ¬ (n : Int) < a1 ∧ n - a1 < (k : Int)) := by omega
    clear hok
    rcases hc with h1 | ⟨h1, h2⟩ | ⟨h1, h2, h3⟩
    all_goals
      go_enter Try.func11, Try.ntmps11
      go_wp2_with (go_at_call 13; refine (law_fixed W).mono ?_; rintro e w1 ⟨rfl, hb⟩)
      go_ret
      exact ⟨rfl, hb⟩
end Go.Proofs.Ytbcoplhfijgcfaa
