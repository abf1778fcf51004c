/- Walks of Patch, the program's and the reference's. For every input. -/
import Derived.Test.YtbcoplhfijgcfaaSumW6
import Derived.Test.YtbcoplhfijgcfaaOwn
import Derived.Deep.QuietTactic
import Derived.BigQuiet
import Derived.Deep.RegionLaw
set_option linter.unusedVariables false
set_option linter.unusedSimpArgs false
namespace Go.Proofs.Ytbcoplhfijgcfaa
open Go.RowKit SumMath
theorem patch_cases (n at_ : Int) (a b : Nat) : (0 ≤ n ∧ 0 ≤ at_ ∧ n ≤ 1099511627776 ∧ a = b ∧ at_ ≤ n ∧ (a : Int) ≤ n - at_) ∨ n < 0 ∨ (¬ n < 0 ∧ at_ < 0) ∨ (¬ n < 0 ∧ ¬ at_ < 0 ∧ 1099511627776 < n) ∨ (¬ n < 0 ∧ ¬ at_ < 0 ∧ ¬ 1099511627776 < n ∧ a ≠ b) ∨
    (¬ n < 0 ∧ ¬ at_ < 0 ∧ ¬ 1099511627776 < n ∧ a = b ∧ n < at_) ∨ (¬ n < 0 ∧ ¬ at_ < 0 ∧ ¬ 1099511627776 < n ∧ a = b ∧ ¬ n < at_ ∧ n - at_ < a) := by omega
theorem sum_Patch (s : BitVec 32) (n at_ : Int) (A : Option Addr) (m c : Nat) (l : List UInt8) (A' : Option Addr) (m' c' : Nat) (l' : List UInt8) (w : World) (hr : Rd w A m c l) (hr' : Rd w A' m' c' l') :
    Calls Try.prog 31 #[.int .u32 s.toNat, .int .i64 n, .int .i64 at_, .slice A m c, .slice A' m' c'] w fun e w' => e = .returned (.tuple #[.int .u32 (pv s n at_ l l').toNat, .int .i64 (pe n at_ l l')]) ∧ Below w.heap.size w w' := by
  have HR := Lib.hid hr
  have HR' := Lib.hid hr'
  have hx1 := hr.max
  have hx2 := hr'.max
  have hl := hr.len
  have hl' := hr'.len
  clear hr hr'
  have hc := patch_cases n at_ m m'
  rcases hc with hok | hbad
  · have hok' : 0 ≤ n ∧ 0 ≤ at_ ∧ n ≤ 1099511627776 ∧ l.length = l'.length ∧ at_ ≤ n ∧ (l.length : Int) ≤ n - at_ := by rw [hl, hl']; exact hok
    obtain ⟨k, hk⟩ := Int.eq_ofNat_of_zero_le (show 0 ≤ n - at_ - m by omega)
    have HV := Lib.hid (pv_ok (s := s) hok' (k := k) (by rw [hl]; exact hk.symm))
    have HE := Lib.hid (pe_ok hok')
    have r1 := Lib.hid (xor_nat (ov 0#32 l) (ov 0#32 l'))
    have r2 := Lib.hid (xor_nat s (Tn (8 * k) (ov 0#32 l ^^^ ov 0#32 l')))
    obtain ⟨h1, h2, h3, rfl, h5, h6⟩ := hok
    clear hl hl' hok'
    go_enter Try.func31, Try.ntmps31
    go_wp2_with fail
    refine (sum_over (0#32) _ _ _ l _ HR.out).mono ?_
    rintro e w1 ⟨rfl, hb1⟩
    go_wp2_with fail
    refine (sum_over (0#32) _ _ _ l' _ (HR'.out.ext hb1)).mono ?_
    rintro e w2 ⟨rfl, hb2⟩
    have r1' := r1.out
    generalize ov 0#32 l = x1 at *
    generalize ov 0#32 l' = x2 at *
    generalize x1 ^^^ x2 = x3 at *
    go_wp2_with fail
    refine (sum_moved x3 k (by omega) _).mono ?_
    rintro e w' ⟨rfl, rfl⟩
    go_wp2_with fail
    go_ret2
    exact ⟨ret_ui (by rw [HV.out, ← r2.out]) (by rw [HE.out]), hb1.trans (hb2.mono hb1.size)⟩
  · have hbad' : ¬ (0 ≤ n ∧ 0 ≤ at_ ∧ n ≤ 1099511627776 ∧ l.length = l'.length ∧ at_ ≤ n ∧ (l.length : Int) ≤ n - at_) := by rw [hl, hl']; omega
    have HV := Lib.hid (pv_bad (s := s) hbad')
    have HE := Lib.hid (pe_bad hbad')
    clear hl hl' hbad'
    rcases hbad with h1 | ⟨h1, h2⟩ | ⟨h1, h2, h3⟩ | ⟨h1, h2, h3, h4⟩ | ⟨h1, h2, h3, rfl, h5⟩ | ⟨h1, h2, h3, rfl, h5, h6⟩
    all_goals
      go_enter Try.func31, Try.ntmps31
      go_wp2
      go_ret2
      exact ⟨ret_ui (by rw [HV.out]; rfl) (by rw [HE.out]), Below.refl _ _⟩
theorem below_drew1 (w : World) : Below w.heap.size w w.drew := (Below.refl _ _).drew
theorem ref_Patch (s : BitVec 32) (n at_ : Int) (A : Option Addr) (m c : Nat) (l : List UInt8) (A' : Option Addr) (m' c' : Nat) (l' : List UInt8) (w : World) (hr : Rd w A m c l) (hr' : Rd w A' m' c' l') :
    Calls Try.prog 32 #[.int .u32 s.toNat, .int .i64 n, .int .i64 at_, .slice A m c, .slice A' m' c'] w fun e w' => e = .returned (.tuple #[.int .u32 (pv s n at_ l l').toNat, .int .i64 (pe n at_ l l')]) ∧ Below w.heap.size w w' := by
  have HR := Lib.hid hr
  have HR' := Lib.hid hr'
  have hx1 := hr.max
  have hx2 := hr'.max
  have hl := hr.len
  have hl' := hr'.len
  clear hr hr'
  have hc := patch_cases n at_ m m'
  rcases hc with hok | hbad
  · have hok' : 0 ≤ n ∧ 0 ≤ at_ ∧ n ≤ 1099511627776 ∧ l.length = l'.length ∧ at_ ≤ n ∧ (l.length : Int) ≤ n - at_ := by rw [hl, hl']; exact hok
    obtain ⟨k, hk⟩ := Int.eq_ofNat_of_zero_le (show 0 ≤ n - at_ - m by omega)
    have HV := Lib.hid (pv_ok (s := s) hok' (k := k) (by rw [hl]; exact hk.symm))
    have HE := Lib.hid (pe_ok hok')
    have r2 := Lib.hid (xor_nat s (Tn (8 * k) (ov 0#32 l ^^^ ov 0#32 l')))
    obtain ⟨h1, h2, h3, rfl, h5, h6⟩ := hok
    have HO0 := Lib.hid (ov_xor0 l l' (by rw [hl, hl']))
    have HLX := Lib.hid (show (xb l l').length = m by rw [xb_length (by rw [hl, hl']), hl])
    have HL := Lib.hid hl
    have HL' := Lib.hid hl'
    clear hl hl' hok'
    go_enter Try.func32, Try.ntmps32
    go_wp2_with fail
    go_loopw [12, 13] (fun v i wr => ∃ j : Nat, j ≤ m ∧ i = .int .i64 j ∧ Own wr w.heap.size v j ((xb l l').take j) ∧ Below w.heap.size w wr) (fun _ i _ => m - (intOf i).toNat)
    case atStart => exact ⟨0, by omega, rfl, Own.nil _ _, Below.refl _ _⟩
    case round =>
      obtain ⟨j, hj, rfl, hO, hB⟩ := hrel
      have HO := Lib.hid hO
      clear hO
      have hz := hB.size
      by_cases hlt : j < m
      · obtain ⟨b, o, rfl, hc⟩ := (HR.out.ext hB).at_ (by omega)
        have hcell := hc j hlt
        obtain ⟨b', o', rfl, hc'⟩ := (HR'.out.ext hB).at_ (by omega)
        have hcell' := hc' j hlt
        clear hc hc'
        have HT := Lib.hid (xb_take l l' j (by rw [HL.out]; exact hlt) (by rw [HL'.out]; exact hlt))
        have r1 := xor_u8 (l.getD j 0) (l'.getD j 0)
        generalize l.getD j 0 = x at *
        generalize l'.getD j 0 = y at *
        generalize x ^^^ y = z at *
        go_wp2_with fail
        go_region_law (refine step_app (w0 := w) (ys := [z]) w.heap.size (by exact (HO.out.ext (below_drew1 wr)).alloc _) (by exact Rd.lit wr.drew [z] 1 rfl (by decide)) (by exact ((below_drewN hB 1).alloc (by exact hz) _)) (by simp; omega) (by omega) _ _ rfl rfl rfl rfl ?_; intro v1 w1 hO1 hB1 hG1 hat1; clear hG1 hat1; have HO1 := Lib.hid hO1; clear hO1)
        all_goals
          go_wp2
          go_roundw
          case rel => exact ⟨j + 1, by omega, by go_num, by rw [HT.out]; exact HO1.out, hB1⟩
          case measure => simp [intOf]; omega
      · obtain rfl : j = m := by omega
        obtain ⟨A1, c1, rfl, hR1⟩ := HO.out.rd (by omega)
        rw [List.take_of_length_le (by rw [HLX.out]; exact Nat.le_refl _)] at hR1
        have HR1 := Lib.hid hR1
        clear hR1
        go_wp2_with fail
        refine (ref_over (0#32) _ _ _ _ _ HR1.out).mono ?_
        rintro e w' ⟨rfl, rfl⟩
        rw [HO0.out]
        generalize ov 0#32 l ^^^ ov 0#32 l' = x3 at *
        go_wp2_with fail
        refine (ref_zeros x3 k (by omega) _).mono ?_
        rintro e w' ⟨rfl, rfl⟩
        go_wp2_with fail
        go_ret2
        exact ⟨ret_ui (by rw [HV.out, ← r2.out]) (by rw [HE.out]), hB⟩
  · have hbad' : ¬ (0 ≤ n ∧ 0 ≤ at_ ∧ n ≤ 1099511627776 ∧ l.length = l'.length ∧ at_ ≤ n ∧ (l.length : Int) ≤ n - at_) := by rw [hl, hl']; omega
    have HV := Lib.hid (pv_bad (s := s) hbad')
    have HE := Lib.hid (pe_bad hbad')
    clear hl hl' hbad'
    rcases hbad with h1 | ⟨h1, h2⟩ | ⟨h1, h2, h3⟩ | ⟨h1, h2, h3, h4⟩ | ⟨h1, h2, h3, rfl, h5⟩ | ⟨h1, h2, h3, rfl, h5, h6⟩
    all_goals
      go_enter Try.func32, Try.ntmps32
      go_wp2
      go_ret2
      exact ⟨ret_ui (by rw [HV.out]; rfl) (by rw [HE.out]), Below.refl _ _⟩
end Go.Proofs.Ytbcoplhfijgcfaa
