/- The walk of KeyCompares. -/
import Derived.Test.YtdgcfhlfihpbiaaDoorKy5
set_option linter.unusedVariables false
set_option linter.unusedSimpArgs false
set_option maxRecDepth 100000
namespace Go.Proofs.YtdgcfhlfihpbiaaDoor
open Go.RowKit
theorem walk_KeyCompares (A : Option Addr) (n c : Nat) (l : List ByteArray) (A2 : Option Addr) (n2 c2 : Nat) (m : List ByteArray) (w : World) (hm : MaxL w) (hr : RdT w A n c l ∧ ∀ x ∈ l, x.size ≤ 140737488351232) (hz : n ≤ 8796093022207) (hr2 : RdT w A2 n2 c2 m ∧ ∀ x ∈ m, x.size ≤ 140737488351232) (hz2 : n2 ≤ 8796093022207) :
    Calls Tryd.prog 4 #[.slice A n c, .slice A2 n2 c2] w fun e w' => e = .returned (.bool true) ∧ Below w.heap.size w w' := by
  have HM := Lib.hid hm
  have HR := Lib.hid hr.1
  have HR2 := Lib.hid hr2.1
  have HL := Lib.hid hr.1.len
  have HL2 := Lib.hid hr2.1.len
  clear hm hr hr2
  go_enter Tryd.func4, Tryd.ntmps4
  go_wp2_with fail
  refine (l5_fixed w HM.out).mono ?_
  rintro e w1 ⟨rfl, hB1⟩
  have HB1 := Lib.hid hB1
  clear hB1
  go_wp2_with fail
  refine (l5_roomy A n c l w1 (HR.out.ext HB1.out) (by omega)).mono ?_
  rintro e w2 ⟨u2, rfl, hO2, hB2⟩
  obtain ⟨Ax, cx, rfl, hRx⟩ := hO2.rd (by omega)
  have HRx := Lib.hid hRx
  have HB2 := Lib.hid (HB1.out.trans (hB2.mono HB1.out.size))
  clear hO2 hB2 hRx
  go_wp2_with fail
  refine (l5_roomy A2 n2 c2 m w2 (HR2.out.ext HB2.out) (by omega)).mono ?_
  rintro e w3 ⟨u3, rfl, hO3, hB3⟩
  obtain ⟨Ay, cy, rfl, hRy⟩ := hO3.rd (by omega)
  have HRy := Lib.hid hRy
  have HRx3 := Lib.hid (HRx.out.ext hB3)
  have HB3 := Lib.hid (HB2.out.trans (hB3.mono HB2.out.size))
  have hcx := cut_toT Ax (n + 2) cx n (by omega) HRx.out.cap
  have hcy := cut_toT Ay (n2 + 2) cy n2 (by omega) hRy.cap
  have HTx := Lib.hid (show RdT w3 Ax n cx l by
    have h := HRx3.out.takeT n (by omega)
    rwa [List.take_left' HL.out] at h)
  have HTy := Lib.hid (show RdT w3 Ay n2 cy m by
    have h := HRy.out.takeT n2 (by omega)
    rwa [List.take_left' HL2.out] at h)
  have HC1 := Lib.hid (fun k => ky_Compare Ax Ay n cx n2 cy l m (w3.drewN k) (HTx.out.drew k) (HTy.out.drew k))
  have hsw := cmT_swap l m
  have hrg := cmT_range l m
  obtain ⟨t, ht⟩ : ∃ t, t = cmT l m := ⟨_, rfl⟩
  rw [← ht] at hsw hrg HC1
  have HT := Lib.hid ht
  have HSW := Lib.hid hsw
  clear hO3 hB3 hRy ht hsw
  go_wp2_with fail
  go_quiet ((go_at_call 18; exact Calls.quiet_of_same (HC1.out _)))
  obtain ⟨w4, hw4⟩ : ∃ w4, w4 = w3.drewN nq := ⟨_, rfl⟩
  have HB4 := Lib.hid (show Below w.heap.size w w4 by rw [hw4]; exact below_drewN HB3.out _)
  have HTx4 := Lib.hid (show RdT w4 Ax n cx l by rw [hw4]; exact HTx.out.drew _)
  have HTy4 := Lib.hid (show RdT w4 Ay n2 cy m by rw [hw4]; exact HTy.out.drew _)
  have HRx4 := Lib.hid (show RdT w4 Ax (n + 2) cx (l ++ [markS, markS]) by rw [hw4]; exact HRx3.out.drew _)
  have HRy4 := Lib.hid (show RdT w4 Ay (n2 + 2) cy (m ++ [markS, markS]) by rw [hw4]; exact HRy.out.drew _)
  rw [← hw4]
  have HC2 := Lib.hid (fun k => ky_Compare Ay Ax n2 cy n cx m l (w4.drewN k) (HTy4.out.drew k) (HTx4.out.drew k))
  rw [HSW.out] at HC2
  clear hw4
  go_wp2_with fail
  go_quiet ((go_at_call 18; exact Calls.quiet_of_same (HC2.out _)))
  obtain ⟨w5, hw5⟩ : ∃ w5, w5 = w4.drewN nq := ⟨_, rfl⟩
  have HB5 := Lib.hid (show Below w.heap.size w w5 by rw [hw5]; exact below_drewN HB4.out _)
  have HRx5 := Lib.hid (show RdT w5 Ax (n + 2) cx (l ++ [markS, markS]) by rw [hw5]; exact HRx4.out.drew _)
  have HRy5 := Lib.hid (show RdT w5 Ay (n2 + 2) cy (m ++ [markS, markS]) by rw [hw5]; exact HRy4.out.drew _)
  rw [← hw5]
  clear hw5 hcx hcy
  go_wp2_with fail
  refine (l5_own A n c l w5 (HR.out.ext HB5.out) (by omega)).mono ?_
  rintro e w6 ⟨u6, rfl, hO6, hB6⟩
  obtain ⟨Ap, cp, rfl, hRp⟩ := hO6.rd (by omega)
  have HRp := Lib.hid hRp
  have HB6 := Lib.hid (HB5.out.trans (hB6.mono HB5.out.size))
  have HRx6 := Lib.hid (HRx5.out.ext hB6)
  have HRy6 := Lib.hid (HRy5.out.ext hB6)
  clear hO6 hB6 hRp
  go_wp2_with fail
  refine (l5_own A2 n2 c2 m w6 (HR2.out.ext HB6.out) (by omega)).mono ?_
  rintro e w7 ⟨u7, rfl, hO7, hB7⟩
  obtain ⟨Aq, cq, rfl, hRq⟩ := hO7.rd (by omega)
  have HRq := Lib.hid hRq
  have HRp7 := Lib.hid (HRp.out.ext hB7)
  have HB7 := Lib.hid (HB6.out.trans (hB7.mono HB6.out.size))
  have HRx7 := Lib.hid (HRx6.out.ext hB7)
  have HRy7 := Lib.hid (HRy6.out.ext hB7)
  clear hO7 hB7 hRq
  go_wp2_with fail
  refine (kr_Compare Ap Aq n cp n2 cq l m w7 HRp7.out HRq.out).mono ?_
  rintro e w8 ⟨rfl, hO8⟩
  rw [← HT.out]
  have HB8 := Lib.hid (HB7.out.trans (hO8.below HB7.out.size (by simp)))
  have HRx8 := Lib.hid (HRx7.out.keep hO8 (by simp))
  have HRy8 := Lib.hid (HRy7.out.keep hO8 (by simp))
  clear hO8
  have htb : -1 ≤ t ∧ t ≤ 1 := by omega
  clear hrg
  go_wp2_with fail
  refine (l5_intact Ax A (n + 2) cx n c (l ++ [markS, markS]) l w8 HRx8.out (HR.out.ext HB8.out) (by omega)).mono ?_
  rintro e w9 ⟨rfl, hB9⟩
  rw [decide_eq_true rfl]
  have HB9 := Lib.hid (HB8.out.trans (hB9.mono HB8.out.size))
  have HRy9 := Lib.hid (HRy8.out.ext hB9)
  clear hB9
  go_wp2_with fail
  refine (l5_intact Ay A2 (n2 + 2) cy n2 c2 (m ++ [markS, markS]) m w9 HRy9.out (HR2.out.ext HB9.out) (by omega)).mono ?_
  rintro e w10 ⟨rfl, hB10⟩
  rw [decide_eq_true rfl]
  have HB10 := Lib.hid (HB9.out.trans (hB10.mono HB9.out.size))
  clear hB10
  go_wp2
  go_ret
  exact ⟨by simp, HB10.out⟩
end Go.Proofs.YtdgcfhlfihpbiaaDoor
