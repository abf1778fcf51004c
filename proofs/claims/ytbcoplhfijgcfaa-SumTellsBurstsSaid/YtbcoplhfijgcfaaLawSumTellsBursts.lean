/- The walk of SumTellsBursts: it returns true for every input. No condition. -/
import Derived.Test.YtbcoplhfijgcfaaSumL2
import Derived.Test.YtbcoplhfijgcfaaSumW8
import Derived.Test.YtbcoplhfijgcfaaSumMath2
set_option linter.unusedVariables false
set_option linter.unusedSimpArgs false
namespace Go.Proofs.Ytbcoplhfijgcfaa
open Go.RowKit SumMath
theorem seal_drop (l s : List UInt8) (n : Nat) (h : l.length = n) : (l ++ s).drop n = s := by rw [← h]; simp
theorem seal_take (l s : List UInt8) (n : Nat) (h : l.length = n) : (l ++ s).take n = l := by rw [← h]; simp
theorem walk_SumTellsBursts (A : Option Addr) (n c : Nat) (l : List UInt8) (a1 : Int) (mask : BitVec 32) (W : World) (w0 : Rd W A n c l) (z0 : n ≤ 140737488351232) (w1 : -9223372036854775808 ≤ a1 ∧ a1 < 9223372036854775808) :
    Calls Try.prog 5 #[.slice A n c, .int .i64 a1, .int .u32 mask.toNat] W fun e W' => e = .returned (.bool true) ∧ Below W.heap.size W W' := by
  have HR := Lib.hid w0
  have HLn := Lib.hid w0.len
  have HD0 := Lib.hid (seal_drop l (le4 (crc 0#32 l)) n w0.len)
  have HT0 := Lib.hid (seal_take l (le4 (crc 0#32 l)) n w0.len)
  clear w0
  go_enter Try.func5, Try.ntmps5
  go_wp2_with fail
  refine (law_fixed W).mono ?_
  rintro e w1 ⟨rfl, hb1⟩
  go_wp2_with fail
  refine (law_dup _ _ _ l _ (HR.out.ext hb1)).mono ?_
  rintro e w2 ⟨v, rfl, hO, hb2⟩
  obtain ⟨A2, c2, rfl, hR2⟩ := hO.rd (by omega)
  have HR2 := Lib.hid hR2
  have hB2 := hb1.trans (hb2.mono hb1.size)
  clear hO hR2
  go_wp2_with fail
  refine (sum_Seal _ _ _ l _ HR2.out (by omega)).mono ?_
  rintro e w3 ⟨v, rfl, hO, hb3⟩
  obtain ⟨A3, c3, rfl, hR3⟩ := hO.rd (by omega)
  have HR3 := Lib.hid hR3
  have hB3 := hB2.trans (hb3.mono hB2.size)
  clear hO hR3
  go_wp2_with fail
  refine (law_dup _ _ _ _ _ HR3.out).mono ?_
  rintro e w4 ⟨v, rfl, hO, hb4⟩
  obtain ⟨A4, c4, rfl, hR4⟩ := hO.rd (by omega)
  obtain ⟨b4, o4, rfl, -⟩ := hR4.at_ (by omega)
  have HR4 := Lib.hid hR4
  have hB4 := hB3.trans (hb4.mono hB3.size)
  have HX4 := Lib.hid (HR3.out.ext hb4)
  clear hO hR4
  go_wp2_with fail
  refine (sum_Open_long _ _ _ _ _ _ HR4.out n rfl).mono ?_
  rintro e w5 (⟨v, rfl, hO, -, hb5⟩ | ⟨rfl, hd, hb5⟩)
  rotate_left
  · exact absurd (by rw [HD0.out, HT0.out]) hd
  rw [HT0.out] at hO
  obtain ⟨A5, c5, rfl, hR5⟩ := hO.rd (by omega)
  have HR5 := Lib.hid hR5
  have hB5 := hB4.trans (hb5.mono hB4.size)
  have HX5 := Lib.hid (HX4.out.ext hb5)
  clear hO hR5
  go_wp2_with fail
  refine (law_same_true _ _ _ _ _ _ l _ HR5.out (HR.out.ext hB5)).mono ?_
  rintro e w' ⟨rfl, rfl⟩
  by_cases h1 : a1 < 0
  · go_wp2
    go_ret
    exact ⟨rfl, hB5⟩
  by_cases h2 : 8 * ((n : Int) + 4) ≤ a1
  · go_wp2
    go_ret
    exact ⟨rfl, hB5⟩
  obtain ⟨at_, rfl⟩ := Int.eq_ofNat_of_zero_le (show 0 ≤ a1 by omega)
  go_wp2_with fail
  refine (law_turned _ _ _ _ at_ mask _ HX5.out (by omega)).mono ?_
  rintro e w6 ⟨v, rfl, hO, hb6⟩
  obtain ⟨A6, c6, rfl, hR6⟩ := hO.rd (by omega)
  have HR6 := Lib.hid hR6
  have hB6 := hB5.trans (hb6.mono hB5.size)
  have HX6 := Lib.hid (HX5.out.ext hb6)
  clear hO hR6
  go_wp2_with fail
  refine (law_same _ _ _ _ _ _ _ _ _ HR6.out HX6.out).mono ?_
  rintro e w' ⟨rfl, rfl⟩
  by_cases hne : flips (l ++ le4 (crc 0#32 l)) at_ mask 32 = l ++ le4 (crc 0#32 l)
  · rw [decide_eq_true hne]
    go_wp2
    go_ret
    exact ⟨rfl, hB6⟩
  rw [decide_eq_false hne]
  have hbs := burst_seal l at_ mask hne
  rw [HLn.out] at hbs
  have HBS := Lib.hid hbs
  clear hbs hne
  go_wp2_with fail
  refine (law_dup _ _ _ _ _ HR6.out).mono ?_
  rintro e w7 ⟨v, rfl, hO, hb7⟩
  obtain ⟨A7, c7, rfl, hR7⟩ := hO.rd (by omega)
  obtain ⟨b7, o7, rfl, -⟩ := hR7.at_ (by omega)
  have HR7 := Lib.hid hR7
  have hB7 := hB6.trans (hb7.mono hB6.size)
  clear hO hR7
  go_wp2_with fail
  refine (sum_Open_long _ _ _ _ _ _ HR7.out n rfl).mono ?_
  rintro e w8 (⟨v, rfl, hO, hd, hb8⟩ | ⟨rfl, -, hb8⟩)
  · exact absurd hd HBS.out
  have hB8 := hB7.trans (hb8.mono hB7.size)
  go_wp2_with fail
  refine (law_turned _ _ _ l at_ mask _ (HR.out.ext hB8) (by omega)).mono ?_
  rintro e w9 ⟨v, rfl, hO, hb9⟩
  obtain ⟨A9, c9, rfl, hR9⟩ := hO.rd (by omega)
  have HR9 := Lib.hid hR9
  have hB9 := hB8.trans (hb9.mono hB8.size)
  clear hO hR9
  go_wp2_with fail
  refine (law_same _ _ _ _ _ _ _ l _ HR9.out (HR.out.ext hB9)).mono ?_
  rintro e w' ⟨rfl, rfl⟩
  by_cases hd : flips l at_ mask 32 = l
  · rw [decide_eq_true hd]
    go_wp2
    go_ret
    exact ⟨rfl, hB9⟩
  rw [decide_eq_false hd]
  have HN := Lib.hid (show ((crc 0#32 (flips l at_ mask 32)).toNat : Int) ≠ ((crc 0#32 l).toNat : Int) from fun h => hd (burst_crc l at_ mask (BitVec.eq_of_toNat_eq (by omega))))
  clear hd
  go_wp2_with fail
  refine (sum_Sum _ _ _ _ _ HR9.out).mono ?_
  rintro e w10 ⟨rfl, hb10⟩
  have hB10 := hB9.trans (hb10.mono hB9.size)
  go_wp2_with fail
  refine (law_dup _ _ _ l _ (HR.out.ext hB10)).mono ?_
  rintro e w11 ⟨v, rfl, hO, hb11⟩
  obtain ⟨A11, c11, rfl, hR11⟩ := hO.rd (by omega)
  have HR11 := Lib.hid hR11
  have hB11 := hB10.trans (hb11.mono hB10.size)
  clear hO hR11
  go_wp2_with fail
  refine (sum_Sum _ _ _ l _ HR11.out).mono ?_
  rintro e w12 ⟨rfl, hb12⟩
  have hB12 := hB11.trans (hb12.mono hB11.size)
  have hn1 : (((crc 0#32 (flips l at_ mask 32)).toNat : Int) != ((crc 0#32 l).toNat : Int)) = true := by rw [bne_iff_ne]; exact HN.out
  generalize (crc 0#32 (flips l at_ mask 32)).toNat = q1 at *
  generalize (crc 0#32 l).toNat = q2 at *
  go_wp2
  go_ret
  exact ⟨rfl, hB12⟩
end Go.Proofs.Ytbcoplhfijgcfaa
