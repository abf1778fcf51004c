/- The walk of KeyRanges (over arguments of bulk at most 1048576). -/
import Derived.Test.YtdgcfhlfihpbiaaDoorKy6
import Derived.Test.YtdgcfhlfihpbiaaDoorKy7
set_option linter.unusedVariables false
set_option linter.unusedSimpArgs false
set_option maxRecDepth 100000
namespace Go.Proofs.YtdgcfhlfihpbiaaDoor
open Go.RowKit
theorem bstr_tl (l : List UInt8) : (bstr l).toList = l := by rw [ByteArray.toList_eq]; rfl
theorem rg_tuple {p t : List ByteArray} {D : List UInt8} (hD : mkL p = D ++ [1]) : (Op.bytesLess (mkL t) (D ++ [1]) = false ∧ Op.bytesLess (mkL t) (D ++ [2]) = true) ↔ t.take p.length = p := by
  rw [in_range, ← mkL_pre, hD]
  constructor
  · rintro ⟨r, e⟩; exact ⟨r, by rw [e]; simp⟩
  · rintro ⟨r, e⟩; exact ⟨r, by rw [e]; simp⟩
theorem rg_apart {p o : List ByteArray} {D E : List UInt8} (hD : mkL p = D ++ [1]) (hE : mkL o = E ++ [1]) (h1 : ¬ p.take o.length = o) (h2 : ¬ o.take p.length = p) : Op.bytesLess (E ++ [1]) (D ++ [2]) = false ∨ Op.bytesLess (D ++ [1]) (E ++ [2]) = false := by
  rcases bl_tri (D ++ [1]) (E ++ [1]) with h | ⟨h3, h4⟩ | ⟨h3, h4⟩
  · exfalso
    rw [← hD, ← hE] at h
    have := mkL_inj h
    subst this
    exact h1 (List.take_of_length_le (Nat.le_refl _))
  · left
    rcases Classical.em (Op.bytesLess (E ++ [1]) (D ++ [2]) = true) with h | h
    · exact absurd ((rg_tuple (t := o) hD).1 (by rw [hE]; exact ⟨h4, h⟩)) h2
    · simpa using h
  · right
    rcases Classical.em (Op.bytesLess (D ++ [1]) (E ++ [2]) = true) with h | h
    · exact absurd ((rg_tuple (t := p) hE).1 (by rw [hD]; exact ⟨h3, h⟩)) h1
    · simpa using h
theorem ge_cases {x y : ByteArray} (h : Op.bytesLess x.toList y.toList = false) : Op.bytesLess y.toList x.toList = true ∨ (Op.bytesLess y.toList x.toList = false ∧ (y.toList == x.toList) = true) := by
  rcases bl_tri x.toList y.toList with h1 | h1 | h1
  · exact .inr ⟨by rw [h1]; exact bl_irr _, by rw [h1]; simp⟩
  · rw [h1.1] at h; cases h
  · exact .inl h1.2
theorem rg_le {x T F y : ByteArray} (h : Op.bytesLess x.toList T.toList = false ∨ Op.bytesLess F.toList y.toList = false) :
    Op.bytesLess T.toList x.toList = true ∨ (Op.bytesLess T.toList x.toList = false ∧ (T.toList == x.toList) = true) ∨ (Op.bytesLess T.toList x.toList = false ∧ (T.toList == x.toList) = false ∧ Op.bytesLess y.toList F.toList = true) ∨ (Op.bytesLess T.toList x.toList = false ∧ (T.toList == x.toList) = false ∧ Op.bytesLess y.toList F.toList = false ∧ (y.toList == F.toList) = true) := by
  rcases bl_tri T.toList x.toList with h1 | h1 | h1
  · exact .inr (.inl ⟨by rw [h1]; exact bl_irr _, by rw [h1]; simp⟩)
  · exact .inl h1.1
  · have h2 : Op.bytesLess F.toList y.toList = false := by
      rcases h with h | h
      · rw [h1.2] at h; cases h
      · exact h
    have h3 : (T.toList == x.toList) = false := beq_eq_false_iff_ne.2 (fun e => by rw [e, bl_irr] at h1; simp at h1)
    rcases ge_cases h2 with h4 | ⟨h4, h5⟩
    · exact .inr (.inr (.inl ⟨h1.1, h3, h4⟩))
    · exact .inr (.inr (.inr ⟨h1.1, h3, h4, h5⟩))
theorem rg_in {F T K : ByteArray} {P : Prop} (hFT : Op.bytesLess F.toList T.toList = true) (h : (Op.bytesLess K.toList F.toList = false ∧ Op.bytesLess K.toList T.toList = true) ↔ P) :
    (Op.bytesLess F.toList K.toList = true ∧ Op.bytesLess K.toList T.toList = true ∧ P) ∨ (Op.bytesLess F.toList K.toList = false ∧ (F.toList == K.toList) = true ∧ Op.bytesLess K.toList T.toList = true ∧ P) ∨ (Op.bytesLess F.toList K.toList = true ∧ Op.bytesLess K.toList T.toList = false ∧ ¬ P) ∨ (Op.bytesLess F.toList K.toList = false ∧ (F.toList == K.toList) = false ∧ ¬ P) := by
  rcases bl_tri F.toList K.toList with h1 | h1 | h1
  · rw [← h1] at h
    exact .inr (.inl ⟨by rw [h1]; exact bl_irr _, by rw [h1]; simp, by rw [← h1]; exact hFT, h.1 ⟨bl_irr _, hFT⟩⟩)
  · by_cases h2 : Op.bytesLess K.toList T.toList = true
    · exact .inl ⟨h1.1, h2, h.1 ⟨h1.2, h2⟩⟩
    · exact .inr (.inr (.inl ⟨h1.1, by simpa using h2, fun hp => h2 (h.2 hp).2⟩))
  · exact .inr (.inr (.inr ⟨h1.1, beq_eq_false_iff_ne.2 (fun e => by rw [e, bl_irr] at h1; simp at h1), fun hp => by have := (h.2 hp).1; rw [h1.2] at this; cases this⟩))
theorem rgA_cases (p : List ByteArray) : ((mkA p).2 ≠ 0 ∧ rgA p = (⟨#[]⟩, ⟨#[]⟩, (mkA p).2)) ∨ ∃ D, mkL p = D ++ [1] ∧ rgA p = (bstr (D ++ [1]), bstr (D ++ [2]), 0) := by
  rcases Classical.em ((mkA p).2 = 0) with h | h
  · right
    obtain ⟨h1, h2, h3, h4⟩ := mkA_ok h
    obtain ⟨D, hD⟩ := mkL_last h1
    refine ⟨D, hD, ?_⟩
    unfold rgA
    rw [if_neg (by rw [h]; simp), h4]
    dsimp only
    rw [hD, ext_bstr]
  · left
    refine ⟨h, ?_⟩
    unfold rgA
    rw [if_pos h]
set_option maxHeartbeats 4000000 in
theorem walk_KeyRanges (A : Option Addr) (n c : Nat) (l : List ByteArray) (A' : Option Addr) (n' c' : Nat) (p : List ByteArray) (A'' : Option Addr) (n'' c'' : Nat) (o : List ByteArray) (w : World) (hm : MaxL w) (hr : RdT w A n c l) (hz : bulkT l ≤ 1048576) (hr' : RdT w A' n' c' p) (hz' : bulkT p ≤ 1048576) (hr'' : RdT w A'' n'' c'' o) (hz'' : bulkT o ≤ 1048576) :
    Calls Tryd.prog 9 #[.slice A n c, .slice A' n' c', .slice A'' n'' c''] w fun e w' => e = .returned (.bool true) ∧ Below w.heap.size w w' := by
  have HM := Lib.hid hm
  have HPS := Lib.hid hm.pos
  have HR := Lib.hid hr
  have HR' := Lib.hid hr'
  have HR'' := Lib.hid hr''
  have HS := Lib.hid (show ∀ x ∈ l, x.size ≤ 1048576 from fun x hx => by have := bulkT_mem hx; omega)
  have HS' := Lib.hid (show ∀ x ∈ p, x.size ≤ 1048576 from fun x hx => by have := bulkT_mem hx; omega)
  have HS'' := Lib.hid (show ∀ x ∈ o, x.size ≤ 1048576 from fun x hx => by have := bulkT_mem hx; omega)
  have hn : n ≤ 1048576 := by have := bulkT_len l; rw [hr.len] at this; omega
  have hn' : n' ≤ 1048576 := by have := bulkT_len p; rw [hr'.len] at this; omega
  have hn'' : n'' ≤ 1048576 := by have := bulkT_len o; rw [hr''.len] at this; omega
  have HO := Lib.hid (rgA_cases o)
  clear hm hr hr' hr'' hz hz' hz''
  go_enter Tryd.func9, Tryd.ntmps9
  go_wp2_with fail
  refine (l5_fixed w HM.out).mono ?_
  rintro e w1 ⟨rfl, hB1⟩
  have HB1 := Lib.hid hB1
  clear hB1
  go_wp2_with fail
  refine (l5_own A n c l w1 (HR.out.ext HB1.out) (by omega)).mono ?_
  rintro e w2 ⟨u2, rfl, hO2, hB2⟩
  obtain ⟨A2, c2, rfl, hR2⟩ := hO2.rd (by omega)
  have HB2 := Lib.hid (HB1.out.trans (hB2.mono HB1.out.size))
  have HMK2 := Lib.hid (ky_Make A2 n c2 l w2 hR2 HS.out (HM.out.ext HB2.out HPS.out))
  unfold MkPost at HMK2
  clear hO2 hB2 hR2
  go_wp2_with fail
  refine HMK2.out.mono ?_
  rintro e w3 ⟨rfl, hB3⟩
  have HB3 := Lib.hid (HB2.out.trans (hB3.mono HB2.out.size))
  clear hB3 HMK2
  go_wp2_with fail
  refine (l5_own A' n' c' p w3 (HR'.out.ext HB3.out) (by omega)).mono ?_
  rintro e w4 ⟨u4, rfl, hO4, hB4⟩
  obtain ⟨A4, c4, rfl, hR4⟩ := hO4.rd (by omega)
  have HB4 := Lib.hid (HB3.out.trans (hB4.mono HB3.out.size))
  have HRG4 := Lib.hid (ky_Range A4 n' c4 p w4 hR4 HS'.out (HM.out.ext HB4.out HPS.out))
  unfold RgPost at HRG4
  clear hO4 hB4 hR4
  go_wp2_with fail
  refine HRG4.out.mono ?_
  rintro e w5 ⟨rfl, hB5⟩
  have HB5 := Lib.hid (HB4.out.trans (hB5.mono HB4.out.size))
  clear hB5 HRG4
  go_wp2_with fail
  refine (l5_own A' n' c' p w5 (HR'.out.ext HB5.out) (by omega)).mono ?_
  rintro e w6 ⟨u6, rfl, hO6, hB6⟩
  obtain ⟨A6, c6, rfl, hR6⟩ := hO6.rd (by omega)
  have HB6 := Lib.hid (HB5.out.trans (hB6.mono HB5.out.size))
  have HMK6 := Lib.hid (ky_Make A6 n' c6 p w6 hR6 HS'.out (HM.out.ext HB6.out HPS.out))
  unfold MkPost at HMK6
  clear hO6 hB6 hR6
  go_wp2_with fail
  refine HMK6.out.mono ?_
  rintro e w7 ⟨rfl, hB7⟩
  have HB7 := Lib.hid (HB6.out.trans (hB7.mono HB6.out.size))
  clear hB7 HMK6
  rcases rgA_cases p with ⟨h1, hA⟩ | ⟨D, hD, hA⟩
  · rw [hA]
    obtain ⟨v, hv⟩ : ∃ v, v = (mkA p).2 := ⟨_, rfl⟩
    rw [← hv] at h1 ⊢
    have e1 : ¬ v = 0 := h1
    clear hA h1 hv
    go_wp2
    go_ret
    exact ⟨by simp, HB7.out⟩
  · have hMP : mkA p = (bstr (D ++ [1]), 0) := by
      have h0 : (mkA p).2 = 0 := by
        rcases Classical.em ((mkA p).2 = 0) with h | h
        · exact h
        · exfalso
          have h2 : (rgA p).2.2 = (mkA p).2 := by unfold rgA; rw [if_pos h]
          rw [hA] at h2
          exact h h2.symm
      rw [(mkA_ok h0).2.2.2, hD]
    rw [hA, hMP]
    have hFT : Op.bytesLess (bstr (D ++ [1])).toList (bstr (D ++ [2])).toList = true := by rw [bstr_tl, bstr_tl, bl_pre]; rfl
    have hin : ∀ t, mkA t = (bstr (mkL t), 0) → ((Op.bytesLess (mkA t).1.toList (bstr (D ++ [1])).toList = false ∧ Op.bytesLess (mkA t).1.toList (bstr (D ++ [2])).toList = true) ↔ t.take p.length = p) := fun t ht => by
      rw [ht]; dsimp only; rw [bstr_tl, bstr_tl, bstr_tl]; exact rg_tuple hD
    obtain ⟨F, hF⟩ : ∃ F, F = bstr (D ++ [1]) := ⟨_, rfl⟩
    obtain ⟨T, hT⟩ : ∃ T, T = bstr (D ++ [2]) := ⟨_, rfl⟩
    rw [← hF, ← hT] at hFT
    rw [← hF, ← hT] at hin ⊢
    have HD := Lib.hid hD
    have HF := Lib.hid hF
    have HT := Lib.hid hT
    have hcase : (mkA l).2 ≠ 0 ∨ ((mkA l).2 = 0 ∧ ((Op.bytesLess F.toList (mkA l).1.toList = true ∧ Op.bytesLess (mkA l).1.toList T.toList = true ∧ l.take p.length = p) ∨ (Op.bytesLess F.toList (mkA l).1.toList = false ∧ (F.toList == (mkA l).1.toList) = true ∧ Op.bytesLess (mkA l).1.toList T.toList = true ∧ l.take p.length = p) ∨ (Op.bytesLess F.toList (mkA l).1.toList = true ∧ Op.bytesLess (mkA l).1.toList T.toList = false ∧ ¬ l.take p.length = p) ∨ (Op.bytesLess F.toList (mkA l).1.toList = false ∧ (F.toList == (mkA l).1.toList) = false ∧ ¬ l.take p.length = p))) := by
      rcases Classical.em ((mkA l).2 = 0) with h | h
      · exact .inr ⟨h, rg_in hFT (hin l (mkA_ok h).2.2.2)⟩
      · exact .inl h
    clear hA hMP hD hin hF hT
    obtain ⟨K, hK⟩ : ∃ K, K = (mkA l).1 := ⟨_, rfl⟩
    obtain ⟨v, hv⟩ : ∃ v, v = (mkA l).2 := ⟨_, rfl⟩
    rw [← hK, ← hv] at hcase ⊢
    clear hK hv
    rcases hcase with h1 | ⟨rfl, ⟨h1, h2, h3⟩ | ⟨h1, h1', h2, h3⟩ | ⟨h1, h2, h3⟩ | ⟨h1, h2, h3⟩⟩
    · have e1 : ¬ v = 0 := h1
      clear h1
      go_wp2_with fail
      refine (l5_own A'' n'' c'' o w7 (HR''.out.ext HB7.out) (by omega)).mono ?_
      rintro e w20 ⟨u20, rfl, hO20, hB20⟩
      obtain ⟨A20, c20, rfl, hR20⟩ := hO20.rd (by omega)
      have HB20 := Lib.hid (HB7.out.trans (hB20.mono HB7.out.size))
      have HRG20 := Lib.hid (ky_Range A20 n'' c20 o w20 hR20 HS''.out (HM.out.ext HB20.out HPS.out))
      unfold RgPost at HRG20
      clear hO20 hB20 hR20
      go_wp2_with fail
      refine HRG20.out.mono ?_
      rintro e w21 ⟨rfl, hB21⟩
      have HB21 := Lib.hid (HB20.out.trans (hB21.mono HB20.out.size))
      clear hB21 HRG20
      rcases HO.out with ⟨h1, hA⟩ | ⟨E, hE, hA⟩
      · rw [hA]
        obtain ⟨v, hv⟩ : ∃ v, v = (mkA o).2 := ⟨_, rfl⟩
        rw [← hv] at h1 ⊢
        have e1 : ¬ v = 0 := h1
        clear h1 hA hv
        go_wp2
        go_ret
        exact ⟨by simp, HB21.out⟩
      · rw [hA]
        have HE := Lib.hid hE
        have HA := Lib.hid hA
        obtain ⟨x, hx⟩ : ∃ x, x = bstr (E ++ [1]) := ⟨_, rfl⟩
        obtain ⟨y, hy⟩ : ∃ y, y = bstr (E ++ [2]) := ⟨_, rfl⟩
        have HX := Lib.hid hx
        have HY := Lib.hid hy
        rw [← hx, ← hy]
        clear hA hE hx hy
        by_cases hb1 : p.take o.length = o
        · have HB1 := Lib.hid hb1
          clear hb1
          go_wp2_with fail
          refine (l5_begins A' A'' n' c' n'' c'' p o w21 (HR'.out.ext HB21.out) (HR''.out.ext HB21.out)).mono ?_
          rintro e w22 ⟨rfl, hO22⟩
          rw [decide_eq_true HB1.out]
          have HB22 := Lib.hid (HB21.out.trans (hO22.below HB21.out.size (by simp)))
          clear hO22
          go_wp2
          go_ret
          exact ⟨by simp, HB22.out⟩
        · by_cases hb2 : o.take p.length = p
          all_goals (
            have HB1 := Lib.hid hb1
            have HB2 := Lib.hid hb2
            clear hb1 hb2
            go_wp2_with fail
            refine (l5_begins A' A'' n' c' n'' c'' p o w21 (HR'.out.ext HB21.out) (HR''.out.ext HB21.out)).mono ?_
            rintro e w22 ⟨rfl, hO22⟩
            rw [decide_eq_false HB1.out]
            have HB22 := Lib.hid (HB21.out.trans (hO22.below HB21.out.size (by simp)))
            clear hO22
            go_wp2_with fail
            refine (l5_begins A'' A' n'' c'' n' c' o p w22 (HR''.out.ext HB22.out) (HR'.out.ext HB22.out)).mono ?_
            rintro e w23 ⟨rfl, hO23⟩
            first | rw [decide_eq_true HB2.out] | rw [decide_eq_false HB2.out]
            have HB23 := Lib.hid (HB22.out.trans (hO23.below HB22.out.size (by simp)))
            clear hO23)
          · go_wp2
            go_ret
            exact ⟨by simp, HB23.out⟩
          · have hap := rg_apart HD.out HE.out HB1.out HB2.out
            rw [← bstr_tl (E ++ [1]), ← bstr_tl (D ++ [2]), ← bstr_tl (D ++ [1]), ← bstr_tl (E ++ [2]), ← HX.out, ← HY.out, ← HF.out, ← HT.out] at hap
            have hle := rg_le hap
            clear hap
            rcases hle with hq | ⟨hq, hq2⟩ | ⟨hq, hq2, hq3⟩ | ⟨hq, hq2, hq3, hq4⟩
            all_goals (
              go_wp2
              go_ret
              exact ⟨by simp, HB23.out⟩)
    · have H3 := Lib.hid h3
      clear h3
      go_wp2_with fail
      refine (l5_begins A A' n c n' c' l p w7 (HR.out.ext HB7.out) (HR'.out.ext HB7.out)).mono ?_
      rintro e w8 ⟨rfl, hO8⟩
      rw [decide_eq_true H3.out]
      have HB8 := Lib.hid (HB7.out.trans (hO8.below HB7.out.size (by simp)))
      clear hO8
      go_wp2_with fail
      refine (l5_own A'' n'' c'' o w8 (HR''.out.ext HB8.out) (by omega)).mono ?_
      rintro e w20 ⟨u20, rfl, hO20, hB20⟩
      obtain ⟨A20, c20, rfl, hR20⟩ := hO20.rd (by omega)
      have HB20 := Lib.hid (HB8.out.trans (hB20.mono HB8.out.size))
      have HRG20 := Lib.hid (ky_Range A20 n'' c20 o w20 hR20 HS''.out (HM.out.ext HB20.out HPS.out))
      unfold RgPost at HRG20
      clear hO20 hB20 hR20
      go_wp2_with fail
      refine HRG20.out.mono ?_
      rintro e w21 ⟨rfl, hB21⟩
      have HB21 := Lib.hid (HB20.out.trans (hB21.mono HB20.out.size))
      clear hB21 HRG20
      rcases HO.out with ⟨h1, hA⟩ | ⟨E, hE, hA⟩
      · rw [hA]
        obtain ⟨v, hv⟩ : ∃ v, v = (mkA o).2 := ⟨_, rfl⟩
        rw [← hv] at h1 ⊢
        have e1 : ¬ v = 0 := h1
        clear h1 hA hv
        go_wp2
        go_ret
        exact ⟨by simp, HB21.out⟩
      · rw [hA]
        have HE := Lib.hid hE
        have HA := Lib.hid hA
        obtain ⟨x, hx⟩ : ∃ x, x = bstr (E ++ [1]) := ⟨_, rfl⟩
        obtain ⟨y, hy⟩ : ∃ y, y = bstr (E ++ [2]) := ⟨_, rfl⟩
        have HX := Lib.hid hx
        have HY := Lib.hid hy
        rw [← hx, ← hy]
        clear hA hE hx hy
        by_cases hb1 : p.take o.length = o
        · have HB1 := Lib.hid hb1
          clear hb1
          go_wp2_with fail
          refine (l5_begins A' A'' n' c' n'' c'' p o w21 (HR'.out.ext HB21.out) (HR''.out.ext HB21.out)).mono ?_
          rintro e w22 ⟨rfl, hO22⟩
          rw [decide_eq_true HB1.out]
          have HB22 := Lib.hid (HB21.out.trans (hO22.below HB21.out.size (by simp)))
          clear hO22
          go_wp2
          go_ret
          exact ⟨by simp, HB22.out⟩
        · by_cases hb2 : o.take p.length = p
          all_goals (
            have HB1 := Lib.hid hb1
            have HB2 := Lib.hid hb2
            clear hb1 hb2
            go_wp2_with fail
            refine (l5_begins A' A'' n' c' n'' c'' p o w21 (HR'.out.ext HB21.out) (HR''.out.ext HB21.out)).mono ?_
            rintro e w22 ⟨rfl, hO22⟩
            rw [decide_eq_false HB1.out]
            have HB22 := Lib.hid (HB21.out.trans (hO22.below HB21.out.size (by simp)))
            clear hO22
            go_wp2_with fail
            refine (l5_begins A'' A' n'' c'' n' c' o p w22 (HR''.out.ext HB22.out) (HR'.out.ext HB22.out)).mono ?_
            rintro e w23 ⟨rfl, hO23⟩
            first | rw [decide_eq_true HB2.out] | rw [decide_eq_false HB2.out]
            have HB23 := Lib.hid (HB22.out.trans (hO23.below HB22.out.size (by simp)))
            clear hO23)
          · go_wp2
            go_ret
            exact ⟨by simp, HB23.out⟩
          · have hap := rg_apart HD.out HE.out HB1.out HB2.out
            rw [← bstr_tl (E ++ [1]), ← bstr_tl (D ++ [2]), ← bstr_tl (D ++ [1]), ← bstr_tl (E ++ [2]), ← HX.out, ← HY.out, ← HF.out, ← HT.out] at hap
            have hle := rg_le hap
            clear hap
            rcases hle with hq | ⟨hq, hq2⟩ | ⟨hq, hq2, hq3⟩ | ⟨hq, hq2, hq3, hq4⟩
            all_goals (
              go_wp2
              go_ret
              exact ⟨by simp, HB23.out⟩)
    · have H3 := Lib.hid h3
      clear h3
      go_wp2_with fail
      refine (l5_begins A A' n c n' c' l p w7 (HR.out.ext HB7.out) (HR'.out.ext HB7.out)).mono ?_
      rintro e w8 ⟨rfl, hO8⟩
      rw [decide_eq_true H3.out]
      have HB8 := Lib.hid (HB7.out.trans (hO8.below HB7.out.size (by simp)))
      clear hO8
      go_wp2_with fail
      refine (l5_own A'' n'' c'' o w8 (HR''.out.ext HB8.out) (by omega)).mono ?_
      rintro e w20 ⟨u20, rfl, hO20, hB20⟩
      obtain ⟨A20, c20, rfl, hR20⟩ := hO20.rd (by omega)
      have HB20 := Lib.hid (HB8.out.trans (hB20.mono HB8.out.size))
      have HRG20 := Lib.hid (ky_Range A20 n'' c20 o w20 hR20 HS''.out (HM.out.ext HB20.out HPS.out))
      unfold RgPost at HRG20
      clear hO20 hB20 hR20
      go_wp2_with fail
      refine HRG20.out.mono ?_
      rintro e w21 ⟨rfl, hB21⟩
      have HB21 := Lib.hid (HB20.out.trans (hB21.mono HB20.out.size))
      clear hB21 HRG20
      rcases HO.out with ⟨h1, hA⟩ | ⟨E, hE, hA⟩
      · rw [hA]
        obtain ⟨v, hv⟩ : ∃ v, v = (mkA o).2 := ⟨_, rfl⟩
        rw [← hv] at h1 ⊢
        have e1 : ¬ v = 0 := h1
        clear h1 hA hv
        go_wp2
        go_ret
        exact ⟨by simp, HB21.out⟩
      · rw [hA]
        have HE := Lib.hid hE
        have HA := Lib.hid hA
        obtain ⟨x, hx⟩ : ∃ x, x = bstr (E ++ [1]) := ⟨_, rfl⟩
        obtain ⟨y, hy⟩ : ∃ y, y = bstr (E ++ [2]) := ⟨_, rfl⟩
        have HX := Lib.hid hx
        have HY := Lib.hid hy
        rw [← hx, ← hy]
        clear hA hE hx hy
        by_cases hb1 : p.take o.length = o
        · have HB1 := Lib.hid hb1
          clear hb1
          go_wp2_with fail
          refine (l5_begins A' A'' n' c' n'' c'' p o w21 (HR'.out.ext HB21.out) (HR''.out.ext HB21.out)).mono ?_
          rintro e w22 ⟨rfl, hO22⟩
          rw [decide_eq_true HB1.out]
          have HB22 := Lib.hid (HB21.out.trans (hO22.below HB21.out.size (by simp)))
          clear hO22
          go_wp2
          go_ret
          exact ⟨by simp, HB22.out⟩
        · by_cases hb2 : o.take p.length = p
          all_goals (
            have HB1 := Lib.hid hb1
            have HB2 := Lib.hid hb2
            clear hb1 hb2
            go_wp2_with fail
            refine (l5_begins A' A'' n' c' n'' c'' p o w21 (HR'.out.ext HB21.out) (HR''.out.ext HB21.out)).mono ?_
            rintro e w22 ⟨rfl, hO22⟩
            rw [decide_eq_false HB1.out]
            have HB22 := Lib.hid (HB21.out.trans (hO22.below HB21.out.size (by simp)))
            clear hO22
            go_wp2_with fail
            refine (l5_begins A'' A' n'' c'' n' c' o p w22 (HR''.out.ext HB22.out) (HR'.out.ext HB22.out)).mono ?_
            rintro e w23 ⟨rfl, hO23⟩
            first | rw [decide_eq_true HB2.out] | rw [decide_eq_false HB2.out]
            have HB23 := Lib.hid (HB22.out.trans (hO23.below HB22.out.size (by simp)))
            clear hO23)
          · go_wp2
            go_ret
            exact ⟨by simp, HB23.out⟩
          · have hap := rg_apart HD.out HE.out HB1.out HB2.out
            rw [← bstr_tl (E ++ [1]), ← bstr_tl (D ++ [2]), ← bstr_tl (D ++ [1]), ← bstr_tl (E ++ [2]), ← HX.out, ← HY.out, ← HF.out, ← HT.out] at hap
            have hle := rg_le hap
            clear hap
            rcases hle with hq | ⟨hq, hq2⟩ | ⟨hq, hq2, hq3⟩ | ⟨hq, hq2, hq3, hq4⟩
            all_goals (
              go_wp2
              go_ret
              exact ⟨by simp, HB23.out⟩)
    · have H3 := Lib.hid h3
      clear h3
      go_wp2_with fail
      refine (l5_begins A A' n c n' c' l p w7 (HR.out.ext HB7.out) (HR'.out.ext HB7.out)).mono ?_
      rintro e w8 ⟨rfl, hO8⟩
      rw [decide_eq_false H3.out]
      have HB8 := Lib.hid (HB7.out.trans (hO8.below HB7.out.size (by simp)))
      clear hO8
      go_wp2_with fail
      refine (l5_own A'' n'' c'' o w8 (HR''.out.ext HB8.out) (by omega)).mono ?_
      rintro e w20 ⟨u20, rfl, hO20, hB20⟩
      obtain ⟨A20, c20, rfl, hR20⟩ := hO20.rd (by omega)
      have HB20 := Lib.hid (HB8.out.trans (hB20.mono HB8.out.size))
      have HRG20 := Lib.hid (ky_Range A20 n'' c20 o w20 hR20 HS''.out (HM.out.ext HB20.out HPS.out))
      unfold RgPost at HRG20
      clear hO20 hB20 hR20
      go_wp2_with fail
      refine HRG20.out.mono ?_
      rintro e w21 ⟨rfl, hB21⟩
      have HB21 := Lib.hid (HB20.out.trans (hB21.mono HB20.out.size))
      clear hB21 HRG20
      rcases HO.out with ⟨h1, hA⟩ | ⟨E, hE, hA⟩
      · rw [hA]
        obtain ⟨v, hv⟩ : ∃ v, v = (mkA o).2 := ⟨_, rfl⟩
        rw [← hv] at h1 ⊢
        have e1 : ¬ v = 0 := h1
        clear h1 hA hv
        go_wp2
        go_ret
        exact ⟨by simp, HB21.out⟩
      · rw [hA]
        have HE := Lib.hid hE
        have HA := Lib.hid hA
        obtain ⟨x, hx⟩ : ∃ x, x = bstr (E ++ [1]) := ⟨_, rfl⟩
        obtain ⟨y, hy⟩ : ∃ y, y = bstr (E ++ [2]) := ⟨_, rfl⟩
        have HX := Lib.hid hx
        have HY := Lib.hid hy
        rw [← hx, ← hy]
        clear hA hE hx hy
        by_cases hb1 : p.take o.length = o
        · have HB1 := Lib.hid hb1
          clear hb1
          go_wp2_with fail
          refine (l5_begins A' A'' n' c' n'' c'' p o w21 (HR'.out.ext HB21.out) (HR''.out.ext HB21.out)).mono ?_
          rintro e w22 ⟨rfl, hO22⟩
          rw [decide_eq_true HB1.out]
          have HB22 := Lib.hid (HB21.out.trans (hO22.below HB21.out.size (by simp)))
          clear hO22
          go_wp2
          go_ret
          exact ⟨by simp, HB22.out⟩
        · by_cases hb2 : o.take p.length = p
          all_goals (
            have HB1 := Lib.hid hb1
            have HB2 := Lib.hid hb2
            clear hb1 hb2
            go_wp2_with fail
            refine (l5_begins A' A'' n' c' n'' c'' p o w21 (HR'.out.ext HB21.out) (HR''.out.ext HB21.out)).mono ?_
            rintro e w22 ⟨rfl, hO22⟩
            rw [decide_eq_false HB1.out]
            have HB22 := Lib.hid (HB21.out.trans (hO22.below HB21.out.size (by simp)))
            clear hO22
            go_wp2_with fail
            refine (l5_begins A'' A' n'' c'' n' c' o p w22 (HR''.out.ext HB22.out) (HR'.out.ext HB22.out)).mono ?_
            rintro e w23 ⟨rfl, hO23⟩
            first | rw [decide_eq_true HB2.out] | rw [decide_eq_false HB2.out]
            have HB23 := Lib.hid (HB22.out.trans (hO23.below HB22.out.size (by simp)))
            clear hO23)
          · go_wp2
            go_ret
            exact ⟨by simp, HB23.out⟩
          · have hap := rg_apart HD.out HE.out HB1.out HB2.out
            rw [← bstr_tl (E ++ [1]), ← bstr_tl (D ++ [2]), ← bstr_tl (D ++ [1]), ← bstr_tl (E ++ [2]), ← HX.out, ← HY.out, ← HF.out, ← HT.out] at hap
            have hle := rg_le hap
            clear hap
            rcases hle with hq | ⟨hq, hq2⟩ | ⟨hq, hq2, hq3⟩ | ⟨hq, hq2, hq3, hq4⟩
            all_goals (
              go_wp2
              go_ret
              exact ⟨by simp, HB23.out⟩)
    · have H3 := Lib.hid h3
      clear h3
      go_wp2_with fail
      refine (l5_begins A A' n c n' c' l p w7 (HR.out.ext HB7.out) (HR'.out.ext HB7.out)).mono ?_
      rintro e w8 ⟨rfl, hO8⟩
      rw [decide_eq_false H3.out]
      have HB8 := Lib.hid (HB7.out.trans (hO8.below HB7.out.size (by simp)))
      clear hO8
      go_wp2_with fail
      refine (l5_own A'' n'' c'' o w8 (HR''.out.ext HB8.out) (by omega)).mono ?_
      rintro e w20 ⟨u20, rfl, hO20, hB20⟩
      obtain ⟨A20, c20, rfl, hR20⟩ := hO20.rd (by omega)
      have HB20 := Lib.hid (HB8.out.trans (hB20.mono HB8.out.size))
      have HRG20 := Lib.hid (ky_Range A20 n'' c20 o w20 hR20 HS''.out (HM.out.ext HB20.out HPS.out))
      unfold RgPost at HRG20
      clear hO20 hB20 hR20
      go_wp2_with fail
      refine HRG20.out.mono ?_
      rintro e w21 ⟨rfl, hB21⟩
      have HB21 := Lib.hid (HB20.out.trans (hB21.mono HB20.out.size))
      clear hB21 HRG20
      rcases HO.out with ⟨h1, hA⟩ | ⟨E, hE, hA⟩
      · rw [hA]
        obtain ⟨v, hv⟩ : ∃ v, v = (mkA o).2 := ⟨_, rfl⟩
        rw [← hv] at h1 ⊢
        have e1 : ¬ v = 0 := h1
        clear h1 hA hv
        go_wp2
        go_ret
        exact ⟨by simp, HB21.out⟩
      · rw [hA]
        have HE := Lib.hid hE
        have HA := Lib.hid hA
        obtain ⟨x, hx⟩ : ∃ x, x = bstr (E ++ [1]) := ⟨_, rfl⟩
        obtain ⟨y, hy⟩ : ∃ y, y = bstr (E ++ [2]) := ⟨_, rfl⟩
        have HX := Lib.hid hx
        have HY := Lib.hid hy
        rw [← hx, ← hy]
        clear hA hE hx hy
        by_cases hb1 : p.take o.length = o
        · have HB1 := Lib.hid hb1
          clear hb1
          go_wp2_with fail
          refine (l5_begins A' A'' n' c' n'' c'' p o w21 (HR'.out.ext HB21.out) (HR''.out.ext HB21.out)).mono ?_
          rintro e w22 ⟨rfl, hO22⟩
          rw [decide_eq_true HB1.out]
          have HB22 := Lib.hid (HB21.out.trans (hO22.below HB21.out.size (by simp)))
          clear hO22
          go_wp2
          go_ret
          exact ⟨by simp, HB22.out⟩
        · by_cases hb2 : o.take p.length = p
          all_goals (
            have HB1 := Lib.hid hb1
            have HB2 := Lib.hid hb2
            clear hb1 hb2
            go_wp2_with fail
            refine (l5_begins A' A'' n' c' n'' c'' p o w21 (HR'.out.ext HB21.out) (HR''.out.ext HB21.out)).mono ?_
            rintro e w22 ⟨rfl, hO22⟩
            rw [decide_eq_false HB1.out]
            have HB22 := Lib.hid (HB21.out.trans (hO22.below HB21.out.size (by simp)))
            clear hO22
            go_wp2_with fail
            refine (l5_begins A'' A' n'' c'' n' c' o p w22 (HR''.out.ext HB22.out) (HR'.out.ext HB22.out)).mono ?_
            rintro e w23 ⟨rfl, hO23⟩
            first | rw [decide_eq_true HB2.out] | rw [decide_eq_false HB2.out]
            have HB23 := Lib.hid (HB22.out.trans (hO23.below HB22.out.size (by simp)))
            clear hO23)
          · go_wp2
            go_ret
            exact ⟨by simp, HB23.out⟩
          · have hap := rg_apart HD.out HE.out HB1.out HB2.out
            rw [← bstr_tl (E ++ [1]), ← bstr_tl (D ++ [2]), ← bstr_tl (D ++ [1]), ← bstr_tl (E ++ [2]), ← HX.out, ← HY.out, ← HF.out, ← HT.out] at hap
            have hle := rg_le hap
            clear hap
            rcases hle with hq | ⟨hq, hq2⟩ | ⟨hq, hq2, hq3⟩ | ⟨hq, hq2, hq3, hq4⟩
            all_goals (
              go_wp2
              go_ret
              exact ⟨by simp, HB23.out⟩)
end Go.Proofs.YtdgcfhlfihpbiaaDoor
