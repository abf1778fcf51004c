/- The walk of PackTexts. -/
import Derived.Test.YtclafljkeaekfaaPkT2
import Derived.Test.YtclafljkeaekfaaPy5
set_option linter.unusedVariables false
set_option linter.unusedSimpArgs false
set_option maxRecDepth 100000
namespace Go.Proofs.Ytclafljkeaekfaa
open Go.RowKit
theorem cut_toT (A : Option Addr) (n c hi : Nat) (h2 : hi ≤ n) (h3 : n ≤ c) (W : World) : (Instr.slice 64 (.slice A n c) none (some (.int .i64 (hi : Int))) none).run Try.prog W = .ok (.slice A hi c) W := by
  obtain ⟨i0, hi0, hzz⟩ := Option.map_eq_some_iff.1 info_str
  simp only [Prod.mk.injEq] at hzz
  obtain ⟨hz0, hz1, hz2⟩ := hzz
  have hel : Try.prog.elem 64 = 9 := by simp [Program.elem, Try.underlying64]
  have hu : Try.prog.underlying 64 = some (.slice (Try.prog.elem 64)) := by rw [hel]; exact Try.underlying64
  rw [run_slice_h W 64 A n c hu .i64 (hi : Int) (Int.natCast_nonneg _) (by omega), hel]
  have ha : A.map (fun x => x.add 0) = A := by cases A <;> simp [Addr.add]
  simp [sizeOf, typeInfo, hi0, hz1, sliced, Result.andThen, ha]
theorem layL_le {lim : Nat} {L F : List UInt8} {e : Int} (h : L.length ≤ lim) : (layL lim L e F).length ≤ lim := by
  unfold layL
  split
  · rename_i h1; rw [List.length_append]; exact h1.2
  · exact h
theorem txL_le (M : Nat) (l : List ByteArray) : ∀ k, (txL M l k).1.length ≤ M
  | 0 => layL_le (by simp)
  | k + 1 => layL_le (txL_le M l k)
/-- what Texts answers, as a slice that is read -/
theorem TxPost.rd {w w' : World} {L : List UInt8} {e : Int} {e1 : Ending} (h : TxPost w L e e1 w') (hL : L.length ≤ 1048576) : ∃ A n c LL, e1 = .returned (.tuple #[.slice A n c, .int .i64 e]) ∧ Rd w' A n c LL ∧ LL = (if e = 0 then L else []) ∧ n ≤ 1048576 := by
  by_cases he : e = 0
  · obtain ⟨u, h1, h2⟩ := h.1 he
    obtain ⟨A, c, rfl, hR⟩ := h2.rd (by omega)
    exact ⟨A, _, c, L, by rw [he]; exact h1, hR, by rw [if_pos he], hL⟩
  · exact ⟨none, 0, 0, [], h.2.1 he, Rd.nil _, by rw [if_neg he], by omega⟩
def markS : ByteArray := ⟨#[109, 97, 114, 107]⟩
set_option maxHeartbeats 2000000 in
theorem walk_PackTexts (A : Option Addr) (n c : Nat) (l : List ByteArray) (A2 : Option Addr) (n2 c2 : Nat) (D : List UInt8) (w : World) (hr : RdT w A n c l ∧ (∀ x ∈ l, x.size ≤ 140737488351232)) (hz : n ≤ 8796093022207) (hr2 : Rd w A2 n2 c2 D) (hz2 : n2 ≤ 140737488351232) :
    Calls Try.prog 8 #[.slice A n c, .slice A2 n2 c2] w fun e w' => e = .returned (.bool true) ∧ Below w.heap.size w w' := by
  have HR := Lib.hid hr.1
  have HS := Lib.hid hr.2
  have HR2 := Lib.hid hr2
  have HL := Lib.hid hr.1.len
  have HL2 := Lib.hid hr2.len
  clear hr hr2
  go_enter Try.func8, Try.ntmps8
  go_wp2_with fail
  refine (l2_fixed w).mono ?_
  rintro e w1 ⟨rfl, hB1⟩
  have HB1 := Lib.hid hB1
  clear hB1
  go_wp2_with fail
  refine (l2_ownTexts A n c l w1 (HR.out.ext HB1.out) (by omega)).mono ?_
  rintro e w2 ⟨u2, rfl, hO2, hB2⟩
  have HO2 := Lib.hid hO2
  have HB2 := Lib.hid (HB1.out.trans (hB2.mono HB1.out.size))
  have hz21 := hB2.size
  clear hO2 hB2
  go_wp2_with (at_builtin; refine wp_appT w1.heap.size (HO2.out.alloc _) (RdT.lit w2 [markS, markS] 2 rfl (by omega)) (by simp; omega) (by omega) _ _ rfl rfl rfl rfl ?_; intro v3 w3 hO3 hG3 hA3; obtain ⟨A3, c3, rfl, hR3⟩ := hO3.rd (by omega); have hct := cut_toT A3 (n + 2) c3 n (by omega) hR3.cap; have HR3 := Lib.hid hR3; have HG3 := Lib.hid hG3; clear hO3 hG3 hA3 hR3)
  have hB3 : Below w.heap.size w w3 := by
    have h1 := HB1.out.size
    exact ((HB2.out.alloc HB2.out.size _).grown HG3.out (by simp; omega) (fun q hq => by have := (HO2.out.blk q hq).1; omega))
  have HB3 := Lib.hid hB3
  have HRt := Lib.hid (show RdT w3 A3 n c3 l by
    have h := HR3.out.takeT n (by omega)
    rwa [List.take_left' HL.out] at h)
  clear hB3
  go_wp2_with fail
  refine (pk_Texts A3 n c3 l w3 HRt.out HS.out).mono ?_
  rintro e w4 hP
  obtain ⟨Ax, nx, cx, LL, rfl, hRx, hLL, hnx⟩ := hP.rd (txL_le _ _ _)
  obtain ⟨er, her⟩ : ∃ er, er = (txL 1048576 l n).2 := ⟨_, rfl⟩
  rw [← her] at hLL ⊢
  have hB4 := hP.2.2
  have HRx := Lib.hid hRx
  have HLL := Lib.hid hLL
  have HER := Lib.hid her
  have HB4 := Lib.hid (HB3.out.trans (hB4.mono HB3.out.size))
  have HR34 := Lib.hid (HR3.out.ext hB4)
  have HRt4 := Lib.hid (HRt.out.ext hB4)
  clear hP hRx hLL her hB4
  go_wp2_with fail
  refine (l2_ownTexts A n c l w4 (HR.out.ext HB4.out) (by omega)).mono ?_
  rintro e w5 ⟨u5, rfl, hO5, hB5⟩
  obtain ⟨A5, c5, rfl, hR5⟩ := hO5.rd (by omega)
  have HR5 := Lib.hid hR5
  have HB5 := Lib.hid (HB4.out.trans (hB5.mono HB4.out.size))
  have HRx5 := Lib.hid (HRx.out.ext hB5)
  have HR35 := Lib.hid (HR34.out.ext hB5)
  have HRt5 := Lib.hid (HRt4.out.ext hB5)
  clear hO5 hB5 hR5
  go_wp2_with fail
  refine (px_TextsA A5 n c5 l w5 HR5.out HS.out).mono ?_
  rintro e w6 hP
  obtain ⟨Ay, ny, cy, LM, rfl, hRy, hLM, hny⟩ := hP.rd (txL_le _ _ _)
  rw [← HER.out] at hLM ⊢
  have hB6 := hP.2.2
  have hLE : LL = LM := by rw [HLL.out, hLM]
  subst hLE
  have HRy := Lib.hid hRy
  have HB6 := Lib.hid (HB5.out.trans (hB6.mono HB5.out.size))
  have HRx6 := Lib.hid (HRx5.out.ext hB6)
  have HR36 := Lib.hid (HR35.out.ext hB6)
  have HRt6 := Lib.hid (HRt5.out.ext hB6)
  clear hP hRy hLM hB6
  go_wp2_with fail
  refine (l2_same Ax Ay nx cx ny cy LL LL w6 HRx6.out HRy.out).mono ?_
  rintro e w7 ⟨rfl, rfl⟩
  rw [decide_eq_true rfl]
  go_wp2_with fail
  refine (l2_sameTexts A3 A n c3 n c l l w7 HRt6.out (HR.out.ext HB6.out)).mono ?_
  rintro e w8 ⟨rfl, hO8⟩
  rw [decide_eq_true rfl]
  have HB8 := Lib.hid (HB6.out.trans (hO8.below HB6.out.size (by simp)))
  obtain ⟨b3, o3, rfl, hc3⟩ := (HR36.out.keep hO8 (by simp)).at_ (by omega)
  have k0 := hc3 n (by omega)
  have k1 := hc3 (n + 1) (by omega)
  have e0 : (l ++ [markS, markS]).getD n default = markS := by
    rw [List.getD_eq_getElem?_getD, List.getElem?_append_right (by rw [HL.out]; exact Nat.le_refl _), HL.out]; simp
  have e1 : (l ++ [markS, markS]).getD (n + 1) default = markS := by
    rw [List.getD_eq_getElem?_getD, List.getElem?_append_right (by rw [HL.out]; omega), HL.out]; simp
  rw [e0] at k0
  rw [e1] at k1
  unfold markS at k0 k1
  have hn0 : (0 : Int) ≤ (n : Int) ∧ (n : Int) < (n : Int) + 2 ∧ (n : Int) + 1 < (n : Int) + 2 := by omega
  clear hc3 e0 e1 hO8
  go_wp2_with fail
  refine (l2_roomy A2 n2 c2 D w8 (HR2.out.ext HB8.out) hz2).mono ?_
  rintro e w9 ⟨u9, rfl, hO9, hB9⟩
  obtain ⟨A9, c9, rfl, hR9⟩ := hO9.rd (by omega)
  have HB9 := Lib.hid (HB8.out.trans (hB9.mono HB8.out.size))
  have HR9 := Lib.hid hR9
  have HRd := Lib.hid (show Rd w9 A9 n2 c9 D by
    have h := hR9.take n2 (by omega)
    rwa [List.take_left' HL2.out] at h)
  have hct2 := cut_toB' A9 (n2 + 64) c9 n2 (by omega) hR9.cap w9
  clear hO9 hB9 hR9 k0 k1 hct
  go_wp2_with fail
  refine (pk_Untexts A9 n2 c9 D w9 HRd.out).mono ?_
  rintro e w10 ⟨u10, rfl, hO10, hB10⟩
  have hxl : (uxA D).1.length ≤ 4096 := by
    unfold uxA
    split
    · simp
    · split
      · simp
      · rw [ux_len]; exact uxN_le D
  obtain ⟨X, hX⟩ : ∃ X, X = (uxA D).1 := ⟨_, rfl⟩
  obtain ⟨ue, hue⟩ : ∃ ue, ue = (uxA D).2 := ⟨_, rfl⟩
  rw [← hX] at hO10 hxl
  rw [← hue]
  obtain ⟨A10, c10, rfl, hR10⟩ := hO10.rd (by omega)
  have HX := Lib.hid (And.intro hX hue)
  have HR10 := Lib.hid hR10
  have HB10 := Lib.hid (HB9.out.trans (hB10.mono HB9.out.size))
  have HR910 := Lib.hid (HR9.out.ext hB10)
  clear hO10 hB10 hR10 hX hue hct2
  go_wp2_with fail
  refine (l2_own A2 n2 c2 D w10 (HR2.out.ext HB10.out)).mono ?_
  rintro e w11 ⟨u11, rfl, hO11, hB11⟩
  obtain ⟨A11, c11, rfl, hR11⟩ := hO11.rd (by omega)
  have HR11 := Lib.hid hR11
  have HB11 := Lib.hid (HB10.out.trans (hB11.mono HB10.out.size))
  have HR10' := Lib.hid (HR10.out.ext hB11)
  have HR9' := Lib.hid (HR910.out.ext hB11)
  clear hO11 hB11 hR11
  go_wp2_with fail
  refine (px_Untexts A11 n2 c11 D w11 HR11.out).mono ?_
  rintro e w12 ⟨u12, rfl, hO12, hB12⟩
  rw [← HX.out.1] at hO12
  rw [← HX.out.2]
  obtain ⟨A12, c12, rfl, hR12⟩ := hO12.rd (by omega)
  have HR12 := Lib.hid hR12
  have HB12 := Lib.hid (HB11.out.trans (hB12.mono HB11.out.size))
  have HR10'' := Lib.hid (HR10'.out.ext hB12)
  have HR9'' := Lib.hid (HR9'.out.ext hB12)
  clear hO12 hB12 hR12
  go_wp2_with fail
  refine (l2_sameTexts A10 A12 _ c10 _ c12 X X w12 HR10''.out HR12.out).mono ?_
  rintro e w13 ⟨rfl, hO13⟩
  rw [decide_eq_true rfl]
  have HB13 := Lib.hid (HB12.out.trans (hO13.below HB12.out.size (by simp)))
  have HR913 := Lib.hid (HR9''.out.keep hO13 (by simp))
  clear hO13
  go_wp2_with fail
  refine (l2_roomy A2 n2 c2 D w13 (HR2.out.ext HB13.out) hz2).mono ?_
  rintro e w14 ⟨u14, rfl, hO14, hB14⟩
  obtain ⟨A14, c14, rfl, hR14⟩ := hO14.rd (by omega)
  have HR14 := Lib.hid hR14
  have HB14 := Lib.hid (HB13.out.trans (hB14.mono HB13.out.size))
  have HR914 := Lib.hid (HR913.out.ext hB14)
  clear hO14 hB14 hR14
  go_wp2_with fail
  refine (l2_same A9 A14 (n2 + 64) c9 (n2 + 64) c14 _ _ w14 HR914.out HR14.out).mono ?_
  rintro e w15 ⟨rfl, rfl⟩
  rw [decide_eq_true rfl]
  go_wp2
  go_ret
  exact ⟨by simp, HB14.out⟩
end Go.Proofs.Ytclafljkeaekfaa
