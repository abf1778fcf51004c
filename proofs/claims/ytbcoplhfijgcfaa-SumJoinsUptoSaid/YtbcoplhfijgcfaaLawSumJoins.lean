/- The walk of SumJoins: it returns true for every string of at most 1048576 bytes and every cut. -/
import Derived.Test.YtbcoplhfijgcfaaSumL2
import Derived.Test.YtbcoplhfijgcfaaSumW8
import Derived.Test.YtbcoplhfijgcfaaSumW10
set_option linter.unusedVariables false
set_option linter.unusedSimpArgs false
namespace Go.Proofs.Ytbcoplhfijgcfaa
open Go.RowKit SumMath
theorem parts3 (w : World) (A : Option Addr) (n c : Nat) (l : List UInt8) (A' : Option Addr) (n' c' : Nat) (l' : List UInt8) (h : Rd w A n c l) (h' : Rd w A' n' c' l') :
    Rds (w.alloc (.cells #[.slice A n c, .slice none 0 0, .slice A' n' c'] 24)) (some ⟨w.heap.size, 0, none⟩) 3 3 [l, [], l'] := by
  refine ⟨rfl, Nat.le_refl _, by omega, fun _ => ⟨_, _, rfl, fun j hj => ?_⟩⟩
  have hb : Below w.heap.size w (w.alloc (.cells #[.slice A n c, .slice none 0 0, .slice A' n' c'] 24)) := (Below.refl _ _).alloc (Nat.le_refl _) _
  have : j = 0 ∨ j = 1 ∨ j = 2 := by omega
  rcases this with rfl | rfl | rfl
  · exact ⟨A, n, c, by rw [cell_of_row _ _ _ _ _ _ (heap_alloc_new w _)]; rfl, h.ext hb⟩
  · exact ⟨none, 0, 0, by rw [cell_of_row _ _ _ _ _ _ (heap_alloc_new w _)]; rfl, Rd.nil _⟩
  · exact ⟨A', n', c', by rw [cell_of_row _ _ _ _ _ _ (heap_alloc_new w _)]; rfl, h'.ext hb⟩
/-- what Join tells of the two parts' sums is the whole's -/
theorem jv_crc (l : List UInt8) (m : Nat) (h : l.length - m ≤ 1099511627776) : jv (crc 0#32 (l.take m)) (crc 0#32 (l.drop m)) ((l.length - m : Nat) : Int) = crc 0#32 l := by
  rw [jv_ok h]
  have hz : ∀ (l : List UInt8) (x y : BitVec 32), ov (x ^^^ y) l = ov x l ^^^ Tn (8 * l.length) y := by
    intro l
    induction l with
    | nil => intro x y; simp [ov, Tn]
    | cons a l ih =>
      intro x y
      show ov (by1 (x ^^^ y) a) l = ov (by1 x a) l ^^^ _
      have : by1 (x ^^^ y) a = by1 x a ^^^ Tn 8 y := by
        unfold by1; rw [← Tn_xor]; congr 1; ac_rfl
      rw [this, ih, ← Tn_add, List.length_cons, show 8 * l.length + 8 = 8 * (l.length + 1) by omega]
  conv => rhs; rw [← List.take_append_drop m l, crc_append]
  unfold crc
  rw [BitVec.not_not]
  have hd : (l.drop m).length = l.length - m := by simp
  have := hz (l.drop m) (~~~0#32) (ov (~~~0#32) (l.take m) ^^^ ~~~0#32)
  rw [show (~~~0#32 ^^^ (ov (~~~0#32) (l.take m) ^^^ ~~~0#32)) = ov (~~~0#32) (l.take m) by rw [BitVec.xor_comm, BitVec.xor_assoc, BitVec.xor_self, BitVec.xor_zero]] at this
  rw [this, hd]
  rw [show (~~~ov (~~~0#32) (l.take m)) = ov (~~~0#32) (l.take m) ^^^ ~~~0#32 by rw [show (~~~0#32 : BitVec 32) = BitVec.allOnes 32 from rfl, BitVec.xor_allOnes]]
  rw [BitVec.xor_comm, show ∀ a b : BitVec 32, ~~~a ^^^ b = ~~~(a ^^^ b) from fun a b => by
    rw [← BitVec.xor_allOnes, ← BitVec.xor_allOnes]; ac_rfl]
theorem walk_SumJoins (A : Option Addr) (n c : Nat) (l : List UInt8) (a1 : Int) (W : World) (w0 : Rd W A n c l) (z0 : n ≤ 1048576) (w1 : -9223372036854775808 ≤ a1 ∧ a1 < 9223372036854775808) :
    Calls Try.prog 12 #[.slice A n c, .int .i64 a1] W fun e W' => e = .returned (.bool true) ∧ Below W.heap.size W W' := by
  have HR := Lib.hid w0
  have hnc := w0.cap
  clear w0 w1
  by_cases h1 : a1 < 0
  · go_enter Try.func12, Try.ntmps12
    go_wp2_with (go_at_call 13; refine (law_fixed W).mono ?_; rintro e w1 ⟨rfl, hb⟩)
    go_ret
    exact ⟨rfl, hb⟩
  by_cases h2 : (n : Int) < a1
  · go_enter Try.func12, Try.ntmps12
    go_wp2_with (go_at_call 13; refine (law_fixed W).mono ?_; rintro e w1 ⟨rfl, hb⟩)
    go_ret
    exact ⟨rfl, hb⟩
  obtain ⟨m, rfl⟩ := Int.eq_ofNat_of_zero_le (show 0 ≤ a1 by omega)
  have hmn : m ≤ n := by omega
  have hmc : m ≤ c := by omega
  have hj := jv_crc l m (by rw [HR.out.len]; omega)
  rw [HR.out.len] at hj
  have HJ := Lib.hid hj
  have HC := Lib.hid (show crc (crc 0#32 (l.take m)) (l.drop m) = crc 0#32 l by rw [← crc_append, List.take_append_drop])
  clear hj
  obtain ⟨Ac, hcut, hRc⟩ := cut_from A n c m hmn
  have HRc := Lib.hid hRc
  clear hRc
  have hmx : n - m ≤ 1048576 := by omega
  go_enter Try.func12, Try.ntmps12
  go_wp2_with fail
  refine (law_fixed W).mono ?_
  rintro e w1 ⟨rfl, hb1⟩
  go_wp2_with fail
  refine (law_dup _ _ _ (l.take m) _ ((HR.out.take m hmn).ext hb1)).mono ?_
  rintro e w2 ⟨v, rfl, hO, hb2⟩
  obtain ⟨A2, c2, rfl, hR2⟩ := hO.rd (by omega)
  have HR2 := Lib.hid hR2
  have hB2 := hb1.trans (hb2.mono hb1.size)
  clear hO hR2
  go_wp2_with fail
  refine (law_dup _ _ _ (l.drop m) _ (HRc.out _ l (HR.out.ext hB2))).mono ?_
  rintro e w3 ⟨v, rfl, hO, hb3⟩
  obtain ⟨A3, c3, rfl, hR3⟩ := hO.rd (by omega)
  have HR3 := Lib.hid hR3
  have hB3 := hB2.trans (hb3.mono hB2.size)
  clear hO hR3
  go_wp2_with fail
  refine (law_dup _ _ _ l _ (HR.out.ext hB3)).mono ?_
  rintro e w4 ⟨v, rfl, hO, hb4⟩
  obtain ⟨A4, c4, rfl, hR4⟩ := hO.rd (by omega)
  have HR4 := Lib.hid hR4
  have hB4 := hB3.trans (hb4.mono hB3.size)
  have HX4 := Lib.hid ((HR2.out.ext hb3).ext hb4)
  have HY4 := Lib.hid (HR3.out.ext hb4)
  clear hO hR4
  go_wp2_with fail
  refine (sum_Sum _ _ _ l _ HR4.out).mono ?_
  rintro e w5 ⟨rfl, hb5⟩
  have hB5 := hB4.trans (hb5.mono hB4.size)
  go_wp2_with fail
  refine (sum_Sum _ _ _ (l.take m) _ (HX4.out.ext hb5)).mono ?_
  rintro e w6 ⟨rfl, hb6⟩
  have hB6 := hB5.trans (hb6.mono hB5.size)
  go_wp2_with fail
  refine (sum_Sum _ _ _ (l.drop m) _ ((HY4.out.ext hb5).ext hb6)).mono ?_
  rintro e w7 ⟨rfl, hb7⟩
  have hB7 := hB6.trans (hb7.mono hB6.size)
  go_wp2_with fail
  refine (sum_Join _ _ _ _).mono ?_
  rintro e w' ⟨rfl, rfl⟩
  rw [HJ.out, je_ok (by omega)]
  go_wp2_with fail
  refine (sum_Sum none 0 0 [] _ (Rd.nil _)).mono ?_
  rintro e w8 ⟨rfl, hb8⟩
  have hB8 := hB7.trans (hb8.mono hB7.size)
  go_wp2_with fail
  refine (sum_Join _ _ ((0 : Nat) : Int) _).mono ?_
  rintro e w' ⟨rfl, rfl⟩
  rw [je_ok (by omega), jv_ok (by omega), crc_nil, BitVec.xor_zero, show Tn (8 * 0) (crc 0#32 l) = crc 0#32 l from rfl]
  go_wp2_with fail
  refine (sum_Sum _ _ _ (l.take m) _ ((((HX4.out.ext hb5).ext hb6).ext hb7).ext hb8)).mono ?_
  rintro e w9 ⟨rfl, hb9⟩
  have hB9 := hB8.trans (hb9.mono hB8.size)
  go_wp2_with fail
  refine (sum_Update _ _ _ _ (l.drop m) _ ((((HY4.out.ext hb5).ext hb6).ext hb7).ext (hb8.trans (hb9.mono hb8.size)))).mono ?_
  rintro e w10 ⟨rfl, hb10⟩
  rw [HC.out]
  have hB10 := hB9.trans (hb10.mono hB9.size)
  have hbx := hb5.trans ((hb6.trans ((hb7.trans ((hb8.trans ((hb9.trans (hb10.mono hb9.size)).mono hb8.size)).mono hb7.size)).mono hb6.size)).mono hb5.size)
  have HP := Lib.hid (parts3 w10 A2 m c2 (l.take m) A3 (n - m) c3 (l.drop m) (HX4.out.ext hbx) (HY4.out.ext hbx))
  go_wp2_with fail
  refine (sum_Parts _ 3 3 _ _ HP.out).mono ?_
  rintro e w11 ⟨rfl, hb11⟩
  rw [show ([l.take m, [], l.drop m] : List (List UInt8)).flatten = l by simp]
  go_wp2
  go_ret
  exact ⟨rfl, (hB10.alloc hB10.size _).trans (hb11.mono (by simp; have := hB10.size; omega))⟩
end Go.Proofs.Ytbcoplhfijgcfaa
