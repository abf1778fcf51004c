/- The walk of SumOpensBack: it returns true for every input. No condition. -/
import Derived.Test.YtbcoplhfijgcfaaSumL2
import Derived.Test.YtbcoplhfijgcfaaSumW8
set_option linter.unusedVariables false
set_option linter.unusedSimpArgs false
namespace Go.Proofs.Ytbcoplhfijgcfaa
open Go.RowKit SumMath
theorem take_drop_eq {l d : List UInt8} {m : Nat} (h : l.drop m = d) : l.take m ++ d = l := by rw [← h, List.take_append_drop]
theorem take_drop_ne {l d : List UInt8} {m : Nat} (hm : m ≤ l.length) (h : l.drop m ≠ d) : l.take m ++ d ≠ l := by
  intro he
  apply h
  have := congrArg (List.drop m) he
  rw [List.drop_append_of_le_length (by simp; omega), List.drop_of_length_le (by simp; omega), List.nil_append] at this
  exact this.symm
theorem walk_SumOpensBack (A : Option Addr) (n c : Nat) (l : List UInt8) (W : World) (w0 : Rd W A n c l) (z0 : n ≤ 140737488351232) :
    Calls Try.prog 6 #[.slice A n c] W fun e W' => e = .returned (.bool true) ∧ Below W.heap.size W W' := by
  have HR := Lib.hid w0
  have hmx := w0.max
  clear w0
  go_enter Try.func6, Try.ntmps6
  go_wp2_with fail
  refine (law_fixed W).mono ?_
  rintro e w1 ⟨rfl, hb1⟩
  go_wp2_with fail
  refine (law_dup _ _ _ l _ (HR.out.ext hb1)).mono ?_
  rintro e w2 ⟨v, rfl, hO, hb2⟩
  obtain ⟨A1, c1, rfl, hR1⟩ := hO.rd hmx
  have HR1 := Lib.hid hR1
  have hB2 := hb1.trans (hb2.mono hb1.size)
  clear hO hR1
  by_cases hn : n < 4
  · go_wp2_with fail
    refine (sum_Open_short _ _ _ l _ HR1.out hn).mono ?_
    rintro e w' ⟨rfl, rfl⟩
    go_wp2
    go_ret
    exact ⟨rfl, hB2⟩
  · obtain ⟨m, hm⟩ : ∃ m, n = m + 4 := ⟨n - 4, by omega⟩
    obtain ⟨b, o, rfl, -⟩ := HR.out.at_ (by omega)
    obtain ⟨b1, o1, rfl, -⟩ := HR1.out.at_ (by omega)
    have HM := Lib.hid hm
    have hmn : m ≤ n := by omega
    have e1 : (n : Int) - 4 = (m : Int) := by omega
    have hmc : m ≤ c := by have := HR.out.cap; omega
    clear hm
    go_wp2_with fail
    refine (sum_Open_long _ _ _ _ l _ HR1.out m HM.out).mono ?_
    rintro e w3 (⟨v, rfl, hO, hd, hb3⟩ | ⟨rfl, hd, hb3⟩)
    all_goals
      have HD := Lib.hid hd
      clear hd
      have hB3 := hB2.trans (hb3.mono hB2.size)
    · obtain ⟨A3, c3, rfl, hR3⟩ := hO.rd (by omega)
      have HR3 := Lib.hid hR3
      clear hO hR3
      go_wp2_with fail
      refine (sum_Seal _ _ _ (l.take m) _ HR3.out (by omega)).mono ?_
      rintro e w7 ⟨v7, rfl, hO7, hb7⟩
      obtain ⟨A7, c7, rfl, hR7⟩ := hO7.rd (by omega)
      have HR7 := Lib.hid hR7
      clear hO7 hR7
      have hB7 := hB3.trans (hb7.mono hB3.size)
      go_wp2_with fail
      refine (law_same _ _ _ _ _ _ _ l _ HR7.out (HR.out.ext hB7)).mono ?_
      rintro e w' ⟨rfl, rfl⟩
      rw [decide_eq_true (take_drop_eq HD.out)]
      go_wp2
      go_ret
      exact ⟨rfl, hB7⟩
    · go_wp2_with fail
      refine (law_dup _ _ _ (l.take m) _ ((HR.out.take m hmn).ext hB3)).mono ?_
      rintro e w4 ⟨v, rfl, hO, hb4⟩
      obtain ⟨A4, c4, rfl, hR4⟩ := hO.rd (by omega)
      have HR4 := Lib.hid hR4
      clear hO hR4
      have hB4 := hB3.trans (hb4.mono hB3.size)
      go_wp2_with fail
      refine (sum_Seal _ _ _ (l.take m) _ HR4.out (by omega)).mono ?_
      rintro e w7 ⟨v7, rfl, hO7, hb7⟩
      obtain ⟨A7, c7, rfl, hR7⟩ := hO7.rd (by omega)
      have HR7 := Lib.hid hR7
      clear hO7 hR7
      have hB7 := hB4.trans (hb7.mono hB4.size)
      go_wp2_with fail
      refine (law_same _ _ _ _ _ _ _ l _ HR7.out (HR.out.ext hB7)).mono ?_
      rintro e w' ⟨rfl, rfl⟩
      rw [decide_eq_false (take_drop_ne (by rw [HR.out.len]; exact hmn) HD.out)]
      go_wp2
      go_ret
      exact ⟨rfl, hB7⟩
end Go.Proofs.Ytbcoplhfijgcfaa
