/- The walk of KeyBack (over arguments of bulk at most 1048576). -/
import Derived.Test.YtdgcfhlfihpbiaaDoorKy6
import Derived.Test.YtdgcfhlfihpbiaaDoorKy7
set_option linter.unusedVariables false
set_option linter.unusedSimpArgs false
set_option maxRecDepth 100000
namespace Go.Proofs.YtdgcfhlfihpbiaaDoor
open Go.RowKit
theorem esc_ge (l : List UInt8) : l.length ≤ (esc l).length := by rw [esc_cnt]; omega
theorem mkL_mem {x : ByteArray} {P : List ByteArray} (h : x ∈ P) : x.size ≤ (mkL P).length := by
  induction P with
  | nil => cases h
  | cons y r ih =>
    have h1 := esc_ge y.data.toList
    have h2 := str_len y
    rw [mkL_cons, List.length_append, List.length_cons, List.length_cons]
    rcases List.mem_cons.1 h with rfl | h
    · omega
    · have := ih h; omega
theorem walk_KeyBack (A : Option Addr) (n c : Nat) (l : List ByteArray) (k : ByteArray) (w : World) (hm : MaxL w) (hr : RdT w A n c l) (hz : bulkT l ≤ 1048576) (hk : k.size ≤ 1048576) :
    Calls Tryd.prog 5 #[.slice A n c, .string k] w fun e w' => e = .returned (.bool true) ∧ Below w.heap.size w w' := by
  have HM := Lib.hid hm
  have HPS := Lib.hid hm.pos
  have HR := Lib.hid hr
  have HL := Lib.hid hr.len
  have HZ := Lib.hid hz
  have HS := Lib.hid (show ∀ x ∈ l, x.size ≤ 1048576 from fun x hx => by have := bulkT_mem hx; omega)
  have hn : n ≤ 1048576 := by have := bulkT_len l; rw [hr.len] at this; omega
  have hml := mkL_bulk l
  obtain ⟨m, hm9⟩ : ∃ m, m = (mkL l).length := ⟨_, rfl⟩
  rw [← hm9] at hml
  have hmb : m ≤ 2097152 := by omega
  have HMM := Lib.hid hm9
  clear hm hr hz hml hm9
  go_enter Tryd.func5, Tryd.ntmps5
  go_wp2_with fail
  refine (l5_fixed w HM.out).mono ?_
  rintro e w1 ⟨rfl, hB1⟩
  have HB1 := Lib.hid hB1
  clear hB1
  go_wp2_with fail
  refine (l5_own A n c l w1 (HR.out.ext HB1.out) (by omega)).mono ?_
  rintro e w2 ⟨u2, rfl, hO2, hB2⟩
  obtain ⟨A2, c2, rfl, hR2⟩ := hO2.rd (by omega)
  have HB2 := Lib.hid (HB1.out.trans (hB2.mono HB1.out.size))
  have HMK := Lib.hid (ky_Make A2 n c2 l w2 hR2 HS.out (HM.out.ext HB2.out HPS.out))
  unfold MkPost at HMK
  clear hO2 hB2 hR2
  go_wp2_with fail
  refine HMK.out.mono ?_
  rintro e w3 ⟨rfl, hB3⟩
  have HB3 := Lib.hid (HB2.out.trans (hB3.mono HB2.out.size))
  clear hB3
  go_wp2_with fail
  refine (l5_length A n c l w3 (HR.out.ext HB3.out) HZ.out).mono ?_
  rintro e w4 ⟨rfl, hO4⟩
  rw [← HMM.out]
  have HB4 := Lib.hid (HB3.out.trans (hO4.below HB3.out.size (by simp)))
  clear hO4 HMK
  have hcase : (n < 1 ∧ mkA l = (⟨#[]⟩, 1)) ∨ (8 < n ∧ mkA l = (⟨#[]⟩, 1)) ∨ (1 ≤ n ∧ n ≤ 8 ∧ 120 < m ∧ mkA l = (⟨#[]⟩, 23)) ∨ (1 ≤ n ∧ n ≤ 8 ∧ m ≤ 120 ∧ mkA l = (bstr (mkL l), 0)) := by
    by_cases h1 : n < 1
    · exact .inl ⟨h1, by unfold mkA; rw [if_pos (by rw [HL.out]; omega)]⟩
    · by_cases h2 : 8 < n
      · exact .inr (.inl ⟨h2, by unfold mkA; rw [if_pos (by rw [HL.out]; omega)]⟩)
      · by_cases h3 : 120 < m
        · exact .inr (.inr (.inl ⟨by omega, by omega, h3, by unfold mkA; rw [if_neg (by rw [HL.out]; omega), if_pos (by rw [← HMM.out]; omega)]⟩))
        · exact .inr (.inr (.inr ⟨by omega, by omega, by omega, mkA_of (by rw [HL.out]; omega) (by rw [HL.out]; omega) (by rw [← HMM.out]; omega)⟩))
  rcases hcase with ⟨h1, hA⟩ | ⟨h1, hA⟩ | ⟨h1, h2, h3, hA⟩ | ⟨h1, h2, h3, hA⟩
  · rw [hA]
    have e1 : (n : Int) < 1 := by omega
    clear hA h1
    go_wp2_with fail
    refine (ky_Split k w4 hk).mono ?_
    rintro e w7 ⟨u7, rfl, hO7, hB7⟩
    have HB7 := Lib.hid (HB4.out.trans (hB7.mono HB4.out.size))
    rcases Classical.em ((spA k.data.toList).2 = 0) with hsp | hsp
    · obtain ⟨g1, g2, g3, g4⟩ := spA_ok hsp
      rw [hsp]
      obtain ⟨P, hP⟩ : ∃ P, P = (spA k.data.toList).1 := ⟨_, rfl⟩
      rw [← hP] at hO7 g1 g2 g4
      obtain ⟨q, hq⟩ : ∃ q, q = P.length := ⟨_, rfl⟩
      rw [← hq] at hO7 g1 g2
      obtain ⟨A7, c7, rfl, hR7⟩ := hO7.rd (by omega)
      have hmk : mkA P = (k, 0) := by
        rw [mkA_of (by omega) (by omega) (by rw [g4]; exact g3), g4, bstr_eq]
      have HMK7 := Lib.hid (ky_Make A7 q c7 P w7 hR7 (fun x hx => by have := mkL_mem hx; rw [g4] at this; omega) (HM.out.ext HB7.out HPS.out))
      unfold MkPost at HMK7
      rw [hmk] at HMK7
      clear hO7 hB7 hR7 hsp g1 g2 g3 g4 hP hq hmk
      go_wp2_with fail
      refine HMK7.out.mono ?_
      rintro e w8 ⟨rfl, hB8⟩
      have HB8 := Lib.hid (HB7.out.trans (hB8.mono HB7.out.size))
      clear hB8
      go_wp2
      go_ret
      exact ⟨by simp, HB8.out⟩
    · rw [spA_bad hsp] at hO7 ⊢
      obtain ⟨A7, c7, rfl, hR7⟩ := hO7.rd (by simp)
      clear hO7 hB7 hR7 hsp
      go_wp2
      go_ret
      exact ⟨by simp, HB7.out⟩
  · rw [hA]
    have e1 : ¬ (n : Int) < 1 := by omega
    have e2 : (8 : Int) < (n : Int) := by omega
    clear hA h1
    go_wp2_with fail
    refine (ky_Split k w4 hk).mono ?_
    rintro e w7 ⟨u7, rfl, hO7, hB7⟩
    have HB7 := Lib.hid (HB4.out.trans (hB7.mono HB4.out.size))
    rcases Classical.em ((spA k.data.toList).2 = 0) with hsp | hsp
    · obtain ⟨g1, g2, g3, g4⟩ := spA_ok hsp
      rw [hsp]
      obtain ⟨P, hP⟩ : ∃ P, P = (spA k.data.toList).1 := ⟨_, rfl⟩
      rw [← hP] at hO7 g1 g2 g4
      obtain ⟨q, hq⟩ : ∃ q, q = P.length := ⟨_, rfl⟩
      rw [← hq] at hO7 g1 g2
      obtain ⟨A7, c7, rfl, hR7⟩ := hO7.rd (by omega)
      have hmk : mkA P = (k, 0) := by
        rw [mkA_of (by omega) (by omega) (by rw [g4]; exact g3), g4, bstr_eq]
      have HMK7 := Lib.hid (ky_Make A7 q c7 P w7 hR7 (fun x hx => by have := mkL_mem hx; rw [g4] at this; omega) (HM.out.ext HB7.out HPS.out))
      unfold MkPost at HMK7
      rw [hmk] at HMK7
      clear hO7 hB7 hR7 hsp g1 g2 g3 g4 hP hq hmk
      go_wp2_with fail
      refine HMK7.out.mono ?_
      rintro e w8 ⟨rfl, hB8⟩
      have HB8 := Lib.hid (HB7.out.trans (hB8.mono HB7.out.size))
      clear hB8
      go_wp2
      go_ret
      exact ⟨by simp, HB8.out⟩
    · rw [spA_bad hsp] at hO7 ⊢
      obtain ⟨A7, c7, rfl, hR7⟩ := hO7.rd (by simp)
      clear hO7 hB7 hR7 hsp
      go_wp2
      go_ret
      exact ⟨by simp, HB7.out⟩
  · rw [hA]
    have e1 : ¬ (n : Int) < 1 := by omega
    have e2 : ¬ (8 : Int) < (n : Int) := by omega
    have e3 : (120 : Int) < (m : Int) := by omega
    clear hA h1 h2 h3
    go_wp2_with fail
    refine (ky_Split k w4 hk).mono ?_
    rintro e w7 ⟨u7, rfl, hO7, hB7⟩
    have HB7 := Lib.hid (HB4.out.trans (hB7.mono HB4.out.size))
    rcases Classical.em ((spA k.data.toList).2 = 0) with hsp | hsp
    · obtain ⟨g1, g2, g3, g4⟩ := spA_ok hsp
      rw [hsp]
      obtain ⟨P, hP⟩ : ∃ P, P = (spA k.data.toList).1 := ⟨_, rfl⟩
      rw [← hP] at hO7 g1 g2 g4
      obtain ⟨q, hq⟩ : ∃ q, q = P.length := ⟨_, rfl⟩
      rw [← hq] at hO7 g1 g2
      obtain ⟨A7, c7, rfl, hR7⟩ := hO7.rd (by omega)
      have hmk : mkA P = (k, 0) := by
        rw [mkA_of (by omega) (by omega) (by rw [g4]; exact g3), g4, bstr_eq]
      have HMK7 := Lib.hid (ky_Make A7 q c7 P w7 hR7 (fun x hx => by have := mkL_mem hx; rw [g4] at this; omega) (HM.out.ext HB7.out HPS.out))
      unfold MkPost at HMK7
      rw [hmk] at HMK7
      clear hO7 hB7 hR7 hsp g1 g2 g3 g4 hP hq hmk
      go_wp2_with fail
      refine HMK7.out.mono ?_
      rintro e w8 ⟨rfl, hB8⟩
      have HB8 := Lib.hid (HB7.out.trans (hB8.mono HB7.out.size))
      clear hB8
      go_wp2
      go_ret
      exact ⟨by simp, HB8.out⟩
    · rw [spA_bad hsp] at hO7 ⊢
      obtain ⟨A7, c7, rfl, hR7⟩ := hO7.rd (by simp)
      clear hO7 hB7 hR7 hsp
      go_wp2
      go_ret
      exact ⟨by simp, HB7.out⟩
  · obtain ⟨a, ha⟩ : ∃ a, a = bstr (mkL l) := ⟨_, rfl⟩
    rw [hA, ← ha]
    have e1 : ¬ (n : Int) < 1 := by omega
    have e2 : ¬ (8 : Int) < (n : Int) := by omega
    have e3 : ¬ (120 : Int) < (m : Int) := by omega
    have hsz : a.size = m := by rw [ha, bstr_size, HMM.out]
    have HSA := Lib.hid (show spA a.data.toList = (l, 0) by
      have h9 : a.data.toList = mkL l := by rw [ha]; rfl
      rw [h9]
      exact spA_mk (by rw [HL.out]; omega) (by rw [HL.out]; omega) (by rw [← HMM.out]; omega))
    clear hA ha h1 h2
    go_wp2_with fail
    refine (ky_Split a w4 (by omega)).mono ?_
    rintro e w5 ⟨u5, rfl, hO5, hB5⟩
    rw [HSA.out] at hO5 ⊢
    simp only at hO5 ⊢
    rw [HL.out] at hO5
    obtain ⟨A5, c5, rfl, hR5⟩ := hO5.rd (by omega)
    have HR5 := Lib.hid hR5
    have HB5 := Lib.hid (HB4.out.trans (hB5.mono HB4.out.size))
    clear hO5 hB5 hR5 h3
    go_wp2_with fail
    refine (l5_same A5 A n c5 n c l l w5 HR5.out (HR.out.ext HB5.out)).mono ?_
    rintro e w6 ⟨rfl, hO6⟩
    rw [decide_eq_true rfl]
    have HB6 := Lib.hid (HB5.out.trans (hO6.below HB5.out.size (by simp)))
    clear hO6
    go_wp2_with fail
    refine (ky_Split k w6 hk).mono ?_
    rintro e w7 ⟨u7, rfl, hO7, hB7⟩
    have HB7 := Lib.hid (HB6.out.trans (hB7.mono HB6.out.size))
    rcases Classical.em ((spA k.data.toList).2 = 0) with hsp | hsp
    · obtain ⟨g1, g2, g3, g4⟩ := spA_ok hsp
      rw [hsp]
      obtain ⟨P, hP⟩ : ∃ P, P = (spA k.data.toList).1 := ⟨_, rfl⟩
      rw [← hP] at hO7 g1 g2 g4
      obtain ⟨q, hq⟩ : ∃ q, q = P.length := ⟨_, rfl⟩
      rw [← hq] at hO7 g1 g2
      obtain ⟨A7, c7, rfl, hR7⟩ := hO7.rd (by omega)
      have hmk : mkA P = (k, 0) := by
        rw [mkA_of (by omega) (by omega) (by rw [g4]; exact g3), g4, bstr_eq]
      have HMK7 := Lib.hid (ky_Make A7 q c7 P w7 hR7 (fun x hx => by have := mkL_mem hx; rw [g4] at this; omega) (HM.out.ext HB7.out HPS.out))
      unfold MkPost at HMK7
      rw [hmk] at HMK7
      clear hO7 hB7 hR7 hsp g1 g2 g3 g4 hP hq hmk
      go_wp2_with fail
      refine HMK7.out.mono ?_
      rintro e w8 ⟨rfl, hB8⟩
      have HB8 := Lib.hid (HB7.out.trans (hB8.mono HB7.out.size))
      clear hB8
      go_wp2
      go_ret
      exact ⟨by simp, HB8.out⟩
    · rw [spA_bad hsp] at hO7 ⊢
      obtain ⟨A7, c7, rfl, hR7⟩ := hO7.rd (by simp)
      clear hO7 hB7 hR7 hsp
      go_wp2
      go_ret
      exact ⟨by simp, HB7.out⟩
end Go.Proofs.YtdgcfhlfihpbiaaDoor
