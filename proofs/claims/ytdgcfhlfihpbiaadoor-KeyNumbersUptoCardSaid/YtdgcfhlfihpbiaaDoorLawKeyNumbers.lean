/- The walk of KeyNumbers (over arguments of bulk at most 1048576). -/
import Derived.Test.YtdgcfhlfihpbiaaDoorKyBt
import Derived.Test.YtdgcfhlfihpbiaaDoorKy6
set_option linter.unusedVariables false
set_option linter.unusedSimpArgs false
set_option maxRecDepth 100000
namespace Go.Proofs.YtdgcfhlfihpbiaaDoor
open Go.RowKit
set_option maxHeartbeats 4000000 in
theorem walk_KeyNumbers (m n : Int) (part : ByteArray) (w : World) (hm : MaxL w) (h1 : -9223372036854775808 ≤ m ∧ m < 9223372036854775808) (h2 : -9223372036854775808 ≤ n ∧ n < 9223372036854775808) (hs : part.size ≤ 1048576) :
    Calls Tryd.prog 11 #[.int .i64 m, .int .i64 n, .string part] w fun e w' => e = .returned (.bool true) ∧ Below w.heap.size w w' := by
  have HM := Lib.hid hm
  have HPS := Lib.hid hm.pos
  have HNM := Lib.hid (fun w => ky_Number m h1.1 (by omega) w)
  have HNN := Lib.hid (fun w => ky_Number n h2.1 (by omega) w)
  unfold NbPost at HNM HNN
  clear hm
  go_enter Tryd.func11, Tryd.ntmps11
  go_wp2_with fail
  refine (l5_fixed w HM.out).mono ?_
  rintro e w1 ⟨rfl, hB1⟩
  have HB1 := Lib.hid hB1
  clear hB1
  go_wp2_with fail
  refine (HNM.out w1).mono ?_
  rintro e w2 ⟨rfl, hB2⟩
  have HB2 := Lib.hid (HB1.out.trans (hB2.mono HB1.out.size))
  clear hB2
  go_wp2_with fail
  refine (HNN.out w2).mono ?_
  rintro e w3 ⟨rfl, hB3⟩
  have HB3 := Lib.hid (HB2.out.trans (hB3.mono HB2.out.size))
  clear hB3 HNM HNN
  rcases (by omega : (m < 0 ∧ n < 0) ∨ (m < 0 ∧ 0 ≤ n) ∨ (0 ≤ m ∧ n < 0) ∨ (0 ≤ m ∧ 0 ≤ n)) with ⟨hm0, hn0⟩ | ⟨hm0, hn0⟩ | ⟨hm0, hn0⟩ | ⟨hm0, hn0⟩
  · rw [show nbA m = (⟨#[]⟩, 1) from if_pos hm0, show nbA n = (⟨#[]⟩, 1) from if_pos hn0]
    have e1 : ¬ 0 ≤ m := by omega
    have e2 : ¬ 0 ≤ n := by omega
    go_wp2
    go_ret
    exact ⟨by simp, HB3.out⟩
  · rw [show nbA m = (⟨#[]⟩, 1) from if_pos hm0, show nbA n = (bstr (beN 8 n.toNat), 0) from if_neg (by omega)]
    have e1 : ¬ 0 ≤ m := by omega
    have e2 : ¬ n < 0 := by omega
    go_wp2
    go_ret
    exact ⟨by simp, HB3.out⟩
  · rw [show nbA m = (bstr (beN 8 m.toNat), 0) from if_neg (by omega), show nbA n = (⟨#[]⟩, 1) from if_pos hn0]
    have e1 : ¬ 0 ≤ n := by omega
    have e2 : ¬ m < 0 := by omega
    go_wp2
    go_ret
    exact ⟨by simp, HB3.out⟩
  · obtain ⟨M, rfl⟩ : ∃ M : Nat, m = M := ⟨m.toNat, by omega⟩
    obtain ⟨N, rfl⟩ : ∃ N : Nat, n = N := ⟨n.toNat, by omega⟩
    rw [show nbA (M : Int) = (bstr (beN 8 M), 0) by unfold nbA; rw [if_neg (by omega), Int.toNat_natCast], show nbA (N : Int) = (bstr (beN 8 N), 0) by unfold nbA; rw [if_neg (by omega), Int.toNat_natCast]]
    have hux := un_nb M (by omega)
    have huy := un_nb N (by omega)
    have hlt := nb_less M N (by omega) (by omega)
    obtain ⟨x, hx⟩ : ∃ x, x = bstr (beN 8 M) := ⟨_, rfl⟩
    obtain ⟨y, hy⟩ : ∃ y, y = bstr (beN 8 N) := ⟨_, rfl⟩
    have hxs : x.size = 8 := by rw [hx, bstr_size, beN_len]
    have hys : y.size = 8 := by rw [hy, bstr_size, beN_len]
    rw [← hx, ← hy] at hlt ⊢
    rw [← hx] at hux
    rw [← hy] at huy
    have HUX := Lib.hid (fun w => ky_Unnumber x w (by omega))
    have HUY := Lib.hid (fun w => ky_Unnumber y w (by omega))
    unfold UnPost at HUX HUY
    rw [hux] at HUX
    rw [huy] at HUY
    have HK := Lib.hid (show ∀ b, decide (M < N) = b → Op.bytesLess (bstr (mkL [part, x])).toList (bstr (mkL [part, y])).toList = b by
      intro b hb
      have h9 := ltS_mk [part, x] [part, y]
      have h8 : decide (cmT [part, x] [part, y] = -1) = b := by
        rw [← hb, ← hlt, ← Bool.decide_coe (ltS x y)]
        exact decide_eq_decide.2 (cm_pair part x y)
      rw [h8] at h9
      exact h9)
    have HCX := Lib.hid (show (mkA [part, x]).2 ≠ 0 ∨ mkA [part, x] = (bstr (mkL [part, x]), 0) by
      rcases Classical.em ((mkA [part, x]).2 = 0) with h | h
      · exact .inr (mkA_ok h).2.2.2
      · exact .inl h)
    have HCY := Lib.hid (show (mkA [part, y]).2 ≠ 0 ∨ mkA [part, y] = (bstr (mkL [part, y]), 0) by
      rcases Classical.em ((mkA [part, y]).2 = 0) with h | h
      · exact .inr (mkA_ok h).2.2.2
      · exact .inl h)
    have HSX := Lib.hid (show ∀ z ∈ [part, x], z.size ≤ 1048576 by intro z hz; simp at hz; rcases hz with rfl | rfl <;> omega)
    have HSY := Lib.hid (show ∀ z ∈ [part, y], z.size ≤ 1048576 by intro z hz; simp at hz; rcases hz with rfl | rfl <;> omega)
    have hcase : (decide (M < N) = true ∧ (M : Int) < N) ∨ (decide (M < N) = false ∧ ¬ (M : Int) < N) := by
      by_cases h : M < N
      · exact .inl ⟨decide_eq_true h, by omega⟩
      · exact .inr ⟨decide_eq_false h, by omega⟩
    clear hx hy hux huy
    rcases hcase with ⟨hd, hc⟩ | ⟨hd, hc⟩
    all_goals (
      rw [hd] at hlt
      have h4 : Op.bytesLess x.toList y.toList = _ := hlt
      have HKB := Lib.hid (HK.out _ hd)
      clear hlt hd HK
      go_wp2_with fail
      refine (HUX.out w3).mono ?_
      rintro e w4 ⟨rfl, rfl⟩
      go_wp2_with fail
      refine (HUY.out w4).mono ?_
      rintro e w5 ⟨rfl, rfl⟩
      go_wp2_with fail
      refine (ky_Make _ 2 2 [part, x] _ (RdT.lit w5 [part, x] 2 rfl (by omega)) HSX.out (HM.out.ext (HB3.out.alloc HB3.out.size _) HPS.out)).mono ?_
      rintro e w6 ⟨rfl, hB6⟩
      have HB6 := Lib.hid ((HB3.out.alloc HB3.out.size _).trans (hB6.mono (by have := HB3.out.size; simp; omega)))
      clear hB6
      go_wp2_with fail
      refine (ky_Make _ 2 2 [part, y] _ (RdT.lit w6 [part, y] 2 rfl (by omega)) HSY.out (HM.out.ext (HB6.out.alloc HB6.out.size _) HPS.out)).mono ?_
      rintro e w7 ⟨rfl, hB7⟩
      have HB7 := Lib.hid ((HB6.out.alloc HB6.out.size _).trans (hB7.mono (by have := HB6.out.size; simp; omega)))
      clear hB7
      rcases HCX.out with h5 | h5
      · have e1 : ¬ (mkA [part, x]).2 = 0 := h5
        clear h5
        go_wp2
        go_ret
        exact ⟨by simp, HB7.out⟩
      · rcases HCY.out with h6 | h6
        · rw [h5]
          have e1 : ¬ (mkA [part, y]).2 = 0 := h6
          clear h5 h6
          go_wp2
          go_ret
          exact ⟨by simp, HB7.out⟩
        · rw [h5, h6]
          have h7 := HKB.out
          clear h5 h6
          go_wp2
          go_ret
          exact ⟨by simp, HB7.out⟩)
end Go.Proofs.YtdgcfhlfihpbiaaDoor
