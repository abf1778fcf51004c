/- The walk of SumSeals: it returns true for every input. No condition. -/
import Derived.Test.YtbcoplhfijgcfaaSumL2
import Derived.Test.YtbcoplhfijgcfaaSumW8
set_option linter.unusedVariables false
set_option linter.unusedSimpArgs false
namespace Go.Proofs.Ytbcoplhfijgcfaa
open Go.RowKit SumMath
theorem walk_SumSeals (A : Option Addr) (n c : Nat) (l : List UInt8) (W : World) (w0 : Rd W A n c l) (z0 : n ≤ 140737488351232) :
    Calls Try.prog 4 #[.slice A n c] W fun e W' => e = .returned (.bool true) ∧ Below W.heap.size W W' := by
  have HR := Lib.hid w0
  have hmx := w0.max
  clear w0
  go_enter Try.func4, Try.ntmps4
  go_wp2_with fail
  refine (law_fixed W).mono ?_
  rintro e w1 ⟨rfl, hb1⟩
  go_wp2_with fail
  refine (law_dup _ _ _ l _ (HR.out.ext hb1)).mono ?_
  rintro e w2 ⟨v, rfl, hO, hb2⟩
  obtain ⟨A1, c1, rfl, hR1⟩ := hO.rd hmx
  have HR1 := Lib.hid hR1
  have hB2 := hb1.trans (hb2.mono hb1.size)
  clear hO hR1
  by_cases hn : n < 4
  · go_wp2_with fail
    refine (sum_Open_short _ _ _ l _ HR1.out hn).mono ?_
    rintro e w' ⟨rfl, rfl⟩
    go_wp2_with fail
    refine (ref_Open_short _ _ _ l _ (HR.out.ext hB2) hn).mono ?_
    rintro e w' ⟨rfl, rfl⟩
    go_wp2_with fail
    refine (law_same _ _ _ _ _ _ [] [] _ (Rd.nil _) (Rd.nil _)).mono ?_
    rintro e w' ⟨rfl, rfl⟩
    rw [decide_eq_true (rfl : [] = [])]
    go_wp2_with fail
    refine (sum_Seal _ _ _ l _ HR1.out (by omega)).mono ?_
    rintro e w7 ⟨v7, rfl, hO7, hb7⟩
    obtain ⟨A7, c7, rfl, hR7⟩ := hO7.rd (by omega)
    have HR7 := Lib.hid hR7
    clear hO7 hR7
    have hB7 := hB2.trans (hb7.mono hB2.size)
    go_wp2_with fail
    refine (ref_Seal _ _ _ l _ (HR.out.ext hB7) (by omega)).mono ?_
    rintro e w8 ⟨v8, rfl, hO8, hb8⟩
    obtain ⟨A8, c8, rfl, hR8⟩ := hO8.rd (by omega)
    have HR8 := Lib.hid hR8
    clear hO8 hR8
    have hB8 := hB7.trans (hb8.mono hB7.size)
    go_wp2_with fail
    refine (law_same _ _ _ _ _ _ (l ++ le4 (crc 0#32 l)) (l ++ le4 (crc 0#32 l)) _ (HR7.out.ext hb8) HR8.out).mono ?_
    rintro e w' ⟨rfl, rfl⟩
    rw [decide_eq_true (rfl : (l ++ le4 (crc 0#32 l)) = (l ++ le4 (crc 0#32 l)))]
    go_wp2_with fail
    refine (law_same _ _ _ _ _ _ l l _ (HR.out.ext hB8) ((HR1.out.ext hb7).ext hb8)).mono ?_
    rintro e w' ⟨rfl, rfl⟩
    rw [decide_eq_true (rfl : l = l)]
    go_wp2
    go_ret
    exact ⟨rfl, hB8⟩
  · obtain ⟨m, hm⟩ : ∃ m, n = m + 4 := ⟨n - 4, by omega⟩
    obtain ⟨b, o, rfl, -⟩ := HR.out.at_ (by omega)
    obtain ⟨b1, o1, rfl, -⟩ := HR1.out.at_ (by omega)
    have HM := Lib.hid hm
    have hmn : m ≤ n := by omega
    clear hm
    go_wp2_with fail
    refine (sum_Open_long _ _ _ _ l _ HR1.out m HM.out).mono ?_
    rintro e w3 (⟨v, rfl, hO, hd, hb3⟩ | ⟨rfl, hd, hb3⟩)
    all_goals
      have HD := Lib.hid hd
      clear hd
      have hB3 := hB2.trans (hb3.mono hB2.size)
    · obtain ⟨A3, c3, rfl, hR3⟩ := hO.rd (by omega)
      have HR3 := Lib.hid hR3
      clear hO hR3
      go_wp2_with fail
      refine (ref_Open_long _ _ _ _ l _ (HR.out.ext hB3) m HM.out).mono ?_
      rintro e w4 (⟨A4, c4, rfl, hR4, hd, hb4⟩ | ⟨rfl, hd, hb4⟩)
      · have HR4 := Lib.hid hR4
        clear hR4 hd
        have hB4 := hB3.trans (hb4.mono hB3.size)
        go_wp2_with fail
        refine (law_same _ _ _ _ _ _ (l.take m) (l.take m) _ (HR3.out.ext hb4) HR4.out).mono ?_
        rintro e w' ⟨rfl, rfl⟩
        rw [decide_eq_true (rfl : (l.take m) = (l.take m))]
        go_wp2_with fail
        refine (sum_Seal _ _ _ l _ ((HR1.out.ext hb3).ext hb4) (by omega)).mono ?_
        rintro e w7 ⟨v7, rfl, hO7, hb7⟩
        obtain ⟨A7, c7, rfl, hR7⟩ := hO7.rd (by omega)
        have HR7 := Lib.hid hR7
        clear hO7 hR7
        have hB7 := hB4.trans (hb7.mono hB4.size)
        go_wp2_with fail
        refine (ref_Seal _ _ _ l _ (HR.out.ext hB7) (by omega)).mono ?_
        rintro e w8 ⟨v8, rfl, hO8, hb8⟩
        obtain ⟨A8, c8, rfl, hR8⟩ := hO8.rd (by omega)
        have HR8 := Lib.hid hR8
        clear hO8 hR8
        have hB8 := hB7.trans (hb8.mono hB7.size)
        go_wp2_with fail
        refine (law_same _ _ _ _ _ _ (l ++ le4 (crc 0#32 l)) (l ++ le4 (crc 0#32 l)) _ (HR7.out.ext hb8) HR8.out).mono ?_
        rintro e w' ⟨rfl, rfl⟩
        rw [decide_eq_true (rfl : (l ++ le4 (crc 0#32 l)) = (l ++ le4 (crc 0#32 l)))]
        go_wp2_with fail
        refine (law_same _ _ _ _ _ _ l l _ (HR.out.ext hB8) ((((HR1.out.ext hb3).ext hb4).ext hb7).ext hb8)).mono ?_
        rintro e w' ⟨rfl, rfl⟩
        rw [decide_eq_true (rfl : l = l)]
        go_wp2
        go_ret
        exact ⟨rfl, hB8⟩
      · exact absurd HD.out hd
    · go_wp2_with fail
      refine (ref_Open_long _ _ _ _ l _ (HR.out.ext hB3) m HM.out).mono ?_
      rintro e w4 (⟨A4, c4, rfl, hR4, hd, hb4⟩ | ⟨rfl, hd, hb4⟩)
      · exact absurd hd HD.out
      · clear hd
        have hB4 := hB3.trans (hb4.mono hB3.size)
        go_wp2_with fail
        refine (law_same _ _ _ _ _ _ [] [] _ (Rd.nil _) (Rd.nil _)).mono ?_
        rintro e w' ⟨rfl, rfl⟩
        rw [decide_eq_true (rfl : [] = [])]
        go_wp2_with fail
        refine (sum_Seal _ _ _ l _ ((HR1.out.ext hb3).ext hb4) (by omega)).mono ?_
        rintro e w7 ⟨v7, rfl, hO7, hb7⟩
        obtain ⟨A7, c7, rfl, hR7⟩ := hO7.rd (by omega)
        have HR7 := Lib.hid hR7
        clear hO7 hR7
        have hB7 := hB4.trans (hb7.mono hB4.size)
        go_wp2_with fail
        refine (ref_Seal _ _ _ l _ (HR.out.ext hB7) (by omega)).mono ?_
        rintro e w8 ⟨v8, rfl, hO8, hb8⟩
        obtain ⟨A8, c8, rfl, hR8⟩ := hO8.rd (by omega)
        have HR8 := Lib.hid hR8
        clear hO8 hR8
        have hB8 := hB7.trans (hb8.mono hB7.size)
        go_wp2_with fail
        refine (law_same _ _ _ _ _ _ (l ++ le4 (crc 0#32 l)) (l ++ le4 (crc 0#32 l)) _ (HR7.out.ext hb8) HR8.out).mono ?_
        rintro e w' ⟨rfl, rfl⟩
        rw [decide_eq_true (rfl : (l ++ le4 (crc 0#32 l)) = (l ++ le4 (crc 0#32 l)))]
        go_wp2_with fail
        refine (law_same _ _ _ _ _ _ l l _ (HR.out.ext hB8) ((((HR1.out.ext hb3).ext hb4).ext hb7).ext hb8)).mono ?_
        rintro e w' ⟨rfl, rfl⟩
        rw [decide_eq_true (rfl : l = l)]
        go_wp2
        go_ret
        exact ⟨rfl, hB8⟩
end Go.Proofs.Ytbcoplhfijgcfaa
