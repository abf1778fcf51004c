/- The walk of KeyOrder (over arguments of bulk at most 1048576). -/
import Derived.Test.YtdgcfhlfihpbiaaDoorKy6
import Derived.Test.YtdgcfhlfihpbiaaDoorKy7
set_option linter.unusedVariables false
set_option linter.unusedSimpArgs false
set_option maxRecDepth 100000
namespace Go.Proofs.YtdgcfhlfihpbiaaDoor
open Go.RowKit
theorem walk_KeyOrder (A : Option Addr) (n c : Nat) (l : List ByteArray) (A' : Option Addr) (n' c' : Nat) (l' : List ByteArray) (w : World) (hm : MaxL w) (hr : RdT w A n c l) (hz : bulkT l ≤ 1048576) (hr' : RdT w A' n' c' l') (hz' : bulkT l' ≤ 1048576) :
    Calls Tryd.prog 6 #[.slice A n c, .slice A' n' c'] w fun e w' => e = .returned (.bool true) ∧ Below w.heap.size w w' := by
  have HM := Lib.hid hm
  have HPS := Lib.hid hm.pos
  have HR := Lib.hid hr
  have HR' := Lib.hid hr'
  have HS := Lib.hid (show ∀ x ∈ l, x.size ≤ 1048576 from fun x hx => by have := bulkT_mem hx; omega)
  have HS' := Lib.hid (show ∀ x ∈ l', x.size ≤ 1048576 from fun x hx => by have := bulkT_mem hx; omega)
  have hn : n ≤ 1048576 := by have := bulkT_len l; rw [hr.len] at this; omega
  have hn' : n' ≤ 1048576 := by have := bulkT_len l'; rw [hr'.len] at this; omega
  obtain ⟨t, ht⟩ : ∃ t, t = cmT l l' := ⟨_, rfl⟩
  have hEQ : decide (l = l') = decide (t = 0) := by
    rw [ht]
    by_cases h : l = l'
    · subst h; rw [cmT_self]; simp
    · rw [decide_eq_false h, decide_eq_false (fun h2 => h (cmT_zero h2))]
  have hSW : decide (cmT l' l = -1) = decide (t = 1) := by
    rw [cmT_swap l l', ← ht]
    by_cases h : t = 1
    · subst h; rfl
    · rw [decide_eq_false h, decide_eq_false (by omega)]
  have hRG := cmT_range l l'
  rw [← ht] at hRG
  have HT := Lib.hid ht
  have HEQ := Lib.hid hEQ
  have HSW := Lib.hid hSW
  have hcase : ((mkA l).2 ≠ 0) ∨ ((mkA l).2 = 0 ∧ (mkA l').2 ≠ 0) ∨ (mkA l = (bstr (mkL l), 0) ∧ mkA l' = (bstr (mkL l'), 0)) := by
    rcases Classical.em ((mkA l).2 = 0) with h | h
    · rcases Classical.em ((mkA l').2 = 0) with h2 | h2
      · exact .inr (.inr ⟨(mkA_ok h).2.2.2, (mkA_ok h2).2.2.2⟩)
      · exact .inr (.inl ⟨h, h2⟩)
    · exact .inl h
  have HC := Lib.hid hcase
  clear hm hr hr' hz hz' ht hEQ hSW hcase
  go_enter Tryd.func6, Tryd.ntmps6
  go_wp2_with fail
  refine (l5_fixed w HM.out).mono ?_
  rintro e w1 ⟨rfl, hB1⟩
  have HB1 := Lib.hid hB1
  clear hB1
  go_wp2_with fail
  refine (l5_own A n c l w1 (HR.out.ext HB1.out) (by omega)).mono ?_
  rintro e w2 ⟨u2, rfl, hO2, hB2⟩
  obtain ⟨A2, c2, rfl, hR2⟩ := hO2.rd (by omega)
  have HR2 := Lib.hid hR2
  have HB2 := Lib.hid (HB1.out.trans (hB2.mono HB1.out.size))
  clear hO2 hB2 hR2
  go_wp2_with fail
  refine (l5_own A' n' c' l' w2 (HR'.out.ext HB2.out) (by omega)).mono ?_
  rintro e w3 ⟨u3, rfl, hO3, hB3⟩
  obtain ⟨A3, c3, rfl, hR3⟩ := hO3.rd (by omega)
  have HR3 := Lib.hid hR3
  have HR23 := Lib.hid (HR2.out.ext hB3)
  have HB3 := Lib.hid (HB2.out.trans (hB3.mono HB2.out.size))
  clear hO3 hB3 hR3
  go_wp2_with fail
  refine (ky_Compare A2 A3 n c2 n' c3 l l' w3 HR23.out HR3.out).mono ?_
  rintro e w4 ⟨rfl, rfl⟩
  rw [← HT.out]
  rcases hRG with rfl | rfl | rfl
  all_goals (
    go_wp2_with fail
    refine (l5_ahead A A' n c n' c' l l' w4 (HR.out.ext HB3.out) (HR'.out.ext HB3.out)).mono ?_
    rintro e w5 ⟨rfl, hO5⟩
    rw [← HT.out]
    have HB5 := Lib.hid (HB3.out.trans (hO5.below HB3.out.size (by simp)))
    clear hO5
    go_wp2_with fail
    refine (l5_ahead A' A n' c' n c l' l w5 (HR'.out.ext HB5.out) (HR.out.ext HB5.out)).mono ?_
    rintro e w6 ⟨rfl, hO6⟩
    rw [HSW.out]
    have HB6 := Lib.hid (HB5.out.trans (hO6.below HB5.out.size (by simp)))
    clear hO6
    go_wp2_with fail
    refine (l5_same A A' n c n' c' l l' w6 (HR.out.ext HB6.out) (HR'.out.ext HB6.out)).mono ?_
    rintro e w7 ⟨rfl, hO7⟩
    rw [HEQ.out]
    have HB7 := Lib.hid (HB6.out.trans (hO7.below HB6.out.size (by simp)))
    clear hO7
    go_wp2_with fail
    refine (l5_own A n c l w7 (HR.out.ext HB7.out) (by omega)).mono ?_
    rintro e w8 ⟨u8, rfl, hO8, hB8⟩
    obtain ⟨A8, c8, rfl, hR8⟩ := hO8.rd (by omega)
    have HB8 := Lib.hid (HB7.out.trans (hB8.mono HB7.out.size))
    have HMK8 := Lib.hid (ky_Make A8 n c8 l w8 hR8 HS.out (HM.out.ext HB8.out HPS.out))
    unfold MkPost at HMK8
    clear hO8 hB8 hR8
    go_wp2_with fail
    refine HMK8.out.mono ?_
    rintro e w9 ⟨rfl, hB9⟩
    have HB9 := Lib.hid (HB8.out.trans (hB9.mono HB8.out.size))
    clear hB9
    go_wp2_with fail
    refine (l5_own A' n' c' l' w9 (HR'.out.ext HB9.out) (by omega)).mono ?_
    rintro e w10 ⟨u10, rfl, hO10, hB10⟩
    obtain ⟨A10, c10, rfl, hR10⟩ := hO10.rd (by omega)
    have HB10 := Lib.hid (HB9.out.trans (hB10.mono HB9.out.size))
    have HMK10 := Lib.hid (ky_Make A10 n' c10 l' w10 hR10 HS'.out (HM.out.ext HB10.out HPS.out))
    unfold MkPost at HMK10
    clear hO10 hB10 hR10 HMK8
    go_wp2_with fail
    refine HMK10.out.mono ?_
    rintro e w11 ⟨rfl, hB11⟩
    have HB11 := Lib.hid (HB10.out.trans (hB11.mono HB10.out.size))
    clear hB11 HMK10
    rcases HC.out with h1 | ⟨h1, h2⟩ | ⟨h1, h2⟩
    · have e1 : ((mkA l).2 == 0) = false := by simp [h1]
      clear h1
      go_wp2
      go_ret
      exact ⟨by simp, HB11.out⟩
    · have e1 : ((mkA l').2 == 0) = false := by simp [h2]
      clear h2
      go_wp2
      go_ret
      exact ⟨by simp, HB11.out⟩
    · rw [h1, h2]
      have hlt := ltS_mk l l'
      rw [← HT.out] at hlt
      have hse := fun h => mkL_inj (l := l) (m := l') (bstr_inj h)
      have hse2 : (bstr (mkL l)).toList = (bstr (mkL l')).toList ↔ l = l' := ⟨fun h => mkL_inj (bstr_inj (toList_inj' h)), fun h => by rw [h]⟩
      obtain ⟨x, hx⟩ : ∃ x, x = bstr (mkL l) := ⟨_, rfl⟩
      obtain ⟨y, hy⟩ : ∃ y, y = bstr (mkL l') := ⟨_, rfl⟩
      rw [← hx, ← hy] at hlt hse2 ⊢
      have HE9 := HEQ.out
      have hbe : (x.toList == y.toList) = decide (l = l') := by
        by_cases h : l = l'
        · rw [beq_iff_eq.2 (hse2.2 h), decide_eq_true h]
        · rw [beq_eq_false_iff_ne.2 (fun h2 => h (hse2.1 h2)), decide_eq_false h]
      rw [HE9] at hbe
      have hlt2 : Op.bytesLess x.toList y.toList = _ := hlt
      first
        | replace hbe : (x.toList == y.toList) = true := hbe.trans rfl
        | replace hbe : (x.toList == y.toList) = false := hbe.trans rfl
      simp at hlt2
      clear hlt hse hse2 hx hy HE9 h1 h2
      go_wp2_with fail
      refine (l5_ahead A A' n c n' c' l l' w11 (HR.out.ext HB11.out) (HR'.out.ext HB11.out)).mono ?_
      rintro e w12 ⟨rfl, hO12⟩
      rw [← HT.out]
      have HB12 := Lib.hid (HB11.out.trans (hO12.below HB11.out.size (by simp)))
      clear hO12
      go_wp2_with fail
      refine (l5_same A A' n c n' c' l l' w12 (HR.out.ext HB12.out) (HR'.out.ext HB12.out)).mono ?_
      rintro e w13 ⟨rfl, hO13⟩
      rw [HEQ.out]
      have HB13 := Lib.hid (HB12.out.trans (hO13.below HB12.out.size (by simp)))
      clear hO13
      go_wp2
      go_ret
      exact ⟨by first | (simp; done) | (simp; exact beq_eq_false_iff_ne.1 hbe) | (simp; exact beq_iff_eq.1 hbe), HB13.out⟩)
end Go.Proofs.YtdgcfhlfihpbiaaDoor
