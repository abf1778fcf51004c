/- The walk of DevLeaves. -/
import Derived.Test.YtjbffahmjhbpjaaDvl7
import Derived.Test.YtjbffahmjhbpjaaRdB
set_option linter.unusedVariables false
set_option linter.unusedSimpArgs false
set_option maxRecDepth 100000
namespace Go.Proofs.Ytjbffahmjhbpjaa
open Go.RowKit
theorem svs_snoc (X : List (Nat × Obj)) (p : Nat × Obj) : svs (X ++ [p]) = svs X ++ [.slice (some ⟨p.1, 0, none⟩) 512 512] := by simp [svs]
theorem fvz_snoc (Z : List (List UInt8 × Ft)) (X : List UInt8) (kd fa : Int) : fv ((Z ++ [(X, (⟨kd, fa⟩ : Ft))]).map Prod.snd) = fv (Z.map Prod.snd) ++ [.int .i64 kd, .int .i64 fa] := by simp [fv]
theorem lv_slice {w : World} {v : Value} {n : Nat} {X Q : List (Nat × Obj)} {Z : List (List UInt8 × Ft)} {A : Option Addr} {c : Nat} (hv : v = .slice A n c) (h : QV 29 1 v n (svs X) Q) (hQ : ∀ p ∈ Q, w.heap[p.1]? = some p.2) (hX : ∀ p ∈ X, w.heap[p.1]? = some p.2) (hr : RowsX X Z) (hn : n ≤ 1000) : Rds w A n c (Z.map Prod.fst) := by
  obtain ⟨A9, c9, h1, h2, _⟩ := rds_of_QV h hQ hX hr hn
  rw [hv] at h1
  injection h1 with e1 e2 e3
  subst e1 e3
  exact h2
theorem lv_fates {w : World} {v : Value} {n : Nat} {Q : List (Nat × Obj)} {l : List Ft} {A : Option Addr} {c : Nat} (hv : v = .slice A n c) (h : QV 52 2 v n (fv l) Q) (hQ : ∀ p ∈ Q, w.heap[p.1]? = some p.2) (hn : n ≤ 1000) : RdF w A n c l := by
  obtain ⟨A9, c9, h1, h2⟩ := rdf_of_QV h hQ hn
  rw [hv] at h1
  injection h1 with e1 e2 e3
  subst e1 e3
  exact h2
theorem Rd.cut {w : World} {b o n c : Nat} {l : List UInt8} (h : Rd w (some ⟨b, o, none⟩) n c l) (lo m : Nat) (hm : lo + m ≤ n) : Rd w (some ⟨b, o + lo, none⟩) m (c - lo) ((l.drop lo).take m) := by
  have h1 := h.len
  have h2 := h.cap
  have h3 := h.max
  refine ⟨by rw [List.length_take, List.length_drop]; omega, by omega, by omega, fun hp => ⟨b, o + lo, rfl, fun j hj => ?_⟩⟩
  obtain ⟨b', o', he, hc⟩ := h.at_ (by omega)
  injection he with he
  injection he with e1 e2
  subst e1 e2
  have h9 := hc (lo + j) (by omega)
  rw [← Nat.add_assoc] at h9
  rw [h9]
  simp [List.getD_eq_getElem?_getD, hj]
theorem lv_conv (i : Nat) (h : i < 20) : IntKind.u8.wrap (17 * (i : Int) + 3) = ((UInt8.ofNat (17 * i + 3)).toNat : Int) := by
  rw [UInt8.toNat_ofNat']
  simp only [IntKind.wrap, IntKind.signed, IntKind.bits]
  simp
set_option maxHeartbeats 8000000 in
theorem walk_DevLeaves (A : Option Addr) (n c : Nat) (l : List OpD) (A' : Option Addr) (n' c' : Nat) (os : List Bool) (A'' : Option Addr) (n'' c'' : Nat) (fs : List Ft) (w : World) (hr : RdO w A n c l) (hr' : RdB w A' n' c' os) (hr'' : RdF w A'' n'' c'' fs) (hz : n'' ≤ 8796093022207) :
    Calls Try.prog 5 #[.slice A n c, .slice A' n' c', .slice A'' n'' c''] w fun e w' => e = .returned (.bool true) ∧ Below w.heap.size w w' := by
  have HRO := Lib.hid hr
  have hmx := hr.max
  have HRB := Lib.hid hr'
  have hmx' := hr'.max
  have HRF := Lib.hid hr''
  have HSL := Lib.hid Try.underlying50
  have HFT := Lib.hid Try.underlying45
  clear hr hr' hr''
  obtain ⟨isl, hisl, hzz⟩ := Option.map_eq_some_iff.1 info_sl
  simp only [Prod.mk.injEq] at hzz
  obtain ⟨sz0, sz1, sz2⟩ := hzz
  obtain ⟨ift, hift, hzz⟩ := Option.map_eq_some_iff.1 info_ft
  simp only [Prod.mk.injEq] at hzz
  obtain ⟨fz0, fz1, fz2⟩ := hzz
  have HISL := Lib.hid (And.intro hisl (And.intro sz0 (And.intro sz1 sz2)))
  have HIFT := Lib.hid (And.intro hift (And.intro fz0 (And.intro fz1 fz2)))
  clear hisl sz0 sz1 sz2 hift fz0 fz1 fz2
  go_enter Try.func5, Try.ntmps5
  go_wp2_with fail
  refine (st_lives w).mono ?_
  rintro e w1 ⟨b, g, vc, rfl, hT⟩
  have HT1 := Lib.hid hT
  clear hT
  go_wp2_with fail
  go_loopw [8] (fun x wx => ∃ i : Nat, ∃ v D, i ≤ n ∧ i ≤ 400 ∧ x = .int .i64 i ∧ D.le (1 + i) ∧ D.n = 64 ∧ St w wx b g v D []) (fun x _ => 400 - (intOf x).toNat)
  case atStart => exact ⟨0, vc, liveD, by omega, by omega, rfl, liveD_le, rfl, HT1.out⟩
  case round =>
    obtain ⟨i, v, D, hi, hi60, rfl, hle, hn, hT⟩ := hrel
    have HT := Lib.hid hT
    have HLE := Lib.hid hle
    have HN := Lib.hid hn
    clear hT hle hn
    by_cases hin : i < n ∧ i < 400
    · obtain ⟨hin, hi6⟩ := hin
      have hii : (0 : Int) ≤ (i : Int) ∧ (i : Int) < (n : Int) ∧ (i : Int) < 400 := by omega
      obtain ⟨bb, oo, rfl, hca⟩ := HRO.out.at_ (by omega)
      have hop := (hca i hin).ext HT.out.bl
      obtain ⟨x, hxx⟩ : ∃ x, x = l.getD i default := ⟨_, rfl⟩
      rw [← hxx] at hop
      obtain ⟨hok, q0, q1, q2, q3, q4, q5, ⟨A6, n6, c6, q6, hr6⟩, ⟨A7, n7, c7, q7, hr7⟩⟩ := hop
      have HPL := Lib.hid (st_play x A6 A7 n6 c6 n7 c7 HT.out hok (HLE.out.mono (by omega)) hr6 hr7)
      have HLE2 := Lib.hid (plD_le x hok HLE.out)
      have HN2 := Lib.hid (show (plD D x).2.n = 64 by rw [plD_n, HN.out])
      clear hca hxx hok hr6 hr7
      go_wp2_with fail
      refine HPL.out.mono ?_
      rintro e w6 ⟨rfl, v6, hT6⟩
      have HT6 := Lib.hid hT6
      clear hT6 HPL q0 q1 q2 q3 q4 q5 q6 q7
      go_wp2
      go_roundw
      case rel => exact ⟨i + 1, v6, _, by omega, by omega, by go_num, HLE2.out, HN2.out, HT6.out⟩
      case measure => simp [intOf]; omega
    · have hend : ¬ ((i : Int) < (n : Int) ∧ (i : Int) < 400) := by omega
      have HLE4 := Lib.hid (HLE.out.mono (show 1 + i ≤ 401 by omega))
      by_cases hin2 : i < n
      · have hi7 : ¬ (i : Int) < 400 := by omega
        have hi8 : (i : Int) < (n : Int) := by omega
        clear hend hin
        have HCR := Lib.hid (st_Crash 0 0 none [] HT.out (Nat.le_trans HLE4.out.ca (by omega)) (RdF.nil _) (by simp))
        go_wp2_with fail
        refine HCR.out.mono ?_
        rintro e w8 ⟨rfl, vA, hT8⟩
        obtain ⟨D1, hD1⟩ : ∃ D1, D1 = crD D [] := ⟨_, rfl⟩
        have HN1 := Lib.hid (show D1.n = 64 by rw [hD1]; exact HN.out)
        have HL1 := Lib.hid (show D1.le 401 by rw [hD1]; exact crD_le [] HLE4.out)
        have HDF := Lib.hid (show D1.down = false ∧ D1.armed = false ∧ D1.left = 0 ∧ D1.C = [] by rw [hD1]; exact ⟨rfl, rfl, rfl, rfl⟩)
        rw [← hD1] at hT8
        have HM8 := Lib.hid (st_Med64 hT8 HN1.out)
        have HML := Lib.hid (show D1.M.length = 64 * 512 by rw [hT8.dv.dev.len, HN1.out])
        clear hT8 hD1 HCR
        go_wp2_with fail
        refine HM8.out.mono ?_
        rintro e w9 ⟨jw, cw, ow, rfl, hrw, hT9⟩
        have HRW := Lib.hid hrw
        have HTW := Lib.hid (show St w w9 b g vA (lvD D1 os 0) [(jw, ow)] from by
          have h9 : lvD D1 os 0 = D1 := by
            have := HDF.out.2.2.2
            unfold lvD
            rw [show lvC os 0 = [] from rfl, ← this]; rfl
          rw [h9]; exact hT9)
        clear hrw hT9 HM8
        go_wp2_with fail
        go_loopw [10, 11, 12, 13, 14, 15, 16, 17] (fun v1 v2 va vb x _ _ _ wx => ∃ i : Nat, ∃ v Q1 Q2 Qa Qb X1 X2 Rx, i ≤ n' ∧ i ≤ 20 ∧ x = .int .i64 i ∧ St w wx b g v (lvD D1 os i) ((jw, ow) :: (Q1 ++ (Q2 ++ (Qa ++ (Qb ++ Rx))))) ∧
            QV 29 1 v1 (lvZ os fs false i).length (svs X1) Q1 ∧ RowsX X1 (lvZ os fs false i) ∧ (∀ p ∈ X1, p ∈ Rx) ∧ QV 29 1 v2 (lvZ os fs true i).length (svs X2) Q2 ∧ RowsX X2 (lvZ os fs true i) ∧ (∀ p ∈ X2, p ∈ Rx) ∧
            QV 52 2 va (lvZ os fs false i).length (fv ((lvZ os fs false i).map Prod.snd)) Qa ∧ QV 52 2 vb (lvZ os fs true i).length (fv ((lvZ os fs true i).map Prod.snd)) Qb) (fun _ _ _ _ x _ _ _ _ => 20 - (intOf x).toNat)
        case atStart => exact ⟨0, vA, [], [], [], [], [], [], [], by omega, by omega, rfl, HTW.out, QV.nil _ _, RowsX.nil, by simp, QV.nil _ _, RowsX.nil, by simp, QV.nil _ _, QV.nil _ _⟩
        case round =>
          obtain ⟨i, v, Q1, Q2, Qa, Qb, X1, X2, Rx, hi, hi20, rfl, hT, hq1, hx1, hm1, hq2, hx2, hm2, hqa, hqb⟩ := hrel
          have HT := Lib.hid hT
          have HQ1 := Lib.hid hq1
          have HQ2 := Lib.hid hq2
          have HQA := Lib.hid hqa
          have HQB := Lib.hid hqb
          have HX1 := Lib.hid hx1
          have HX2 := Lib.hid hx2
          have HM1 := Lib.hid hm1
          have HM2 := Lib.hid hm2
          clear hT hq1 hx1 hm1 hq2 hx2 hm2 hqa hqb
          by_cases hin : i < n' ∧ i < 20
          · obtain ⟨hin, hi6⟩ := hin
            have hii : (0 : Int) ≤ (i : Int) ∧ (i : Int) < (n' : Int) ∧ (i : Int) < 20 := by omega
            have hcv := lv_conv i hi6
            have hw17 : IntKind.i64.wrap (17 * (i : Int)) = 17 * (i : Int) := IntWalk.i64_in _ (by omega)
            have hw20 : IntKind.i64.wrap (17 * (i : Int) + 3) = 17 * (i : Int) + 3 := IntWalk.i64_in _ (by omega)
            go_wp2_with fail
            refine (st_full (UInt8.ofNat (17 * i + 3)) HT.out).mono ?_
            rintro e w2 ⟨jx, ox, rfl, hrx, hT2⟩
            have HRx := Lib.hid hrx
            have HT2 := Lib.hid hT2
            clear hrx hT2 hcv hw17 hw20
            obtain ⟨bo, oo, rfl, hco⟩ := (HRB.out.ext HT2.out.bl).at_ (by omega)
            have hob := hco i hin
            clear hco
            have hfl := HRF.out.len
            have hfm := HRF.out.max
            obtain ⟨kd, hkd⟩ : ∃ kd, kd = (fs.getD i default).kind := ⟨_, rfl⟩
            obtain ⟨fa, hfa⟩ : ∃ fa, fa = (fs.getD i default).at_ := ⟨_, rfl⟩
            have HFE := Lib.hid (show fs.getD i default = ⟨kd, fa⟩ by rw [hkd, hfa])
            by_cases hif : i < n''
            · obtain ⟨bf, of, rfl, hcf⟩ := HRF.out.at_ (by omega)
              obtain ⟨hf1, hf2⟩ := hcf i hif
              have hf1 := cell_ext HT2.out.bl hf1
              have hf2 := cell_ext HT2.out.bl hf2
              rw [← hkd] at hf1
              rw [← hfa] at hf2
              have hifi : (i : Int) < (n'' : Int) := by omega
              have hf1 := cell_ext ((Below.refl _ w2).alloc (Nat.le_refl _) (.cells #[.int .i64 0, .int .i64 0] 52)) hf1
              have hf2 := cell_ext ((Below.refl _ w2).alloc (Nat.le_refl _) (.cells #[.int .i64 0, .int .i64 0] 52)) hf2
              have hob := cell_ext ((Below.refl _ w2).alloc (Nat.le_refl _) (.cells #[.int .i64 kd, .int .i64 fa] 52)) hob
              clear hcf hkd hfa
              obtain ⟨o4, ho4⟩ : ∃ o4 : Obj, o4 = (.cells #[.int .i64 (kd), .int .i64 (fa)] 52) := ⟨_, rfl⟩
              obtain ⟨jf, hjf⟩ : ∃ jf, jf = w2.heap.size := ⟨_, rfl⟩
              obtain ⟨W4, hW4⟩ : ∃ W4, W4 = w2.alloc (.cells #[.int .i64 (kd), .int .i64 (fa)] 52) := ⟨_, rfl⟩
              have HT4 := Lib.hid (show St w W4 b g v (lvD D1 os i) ((jf, o4) :: (jx, ox) :: (jw, ow) :: (Q1 ++ (Q2 ++ (Qa ++ (Qb ++ Rx))))) from by
                rw [hW4, hjf, ho4]
                exact HT2.out.new ((Below.refl _ w2).alloc (Nat.le_refl _) _) (Nat.le_refl _) (heap_alloc_new w2 _))
              cases hb : os.getD i false with
              | true =>
                rw [hb] at hob
                have HAT := Lib.hid (show lvAt os i = 8 by unfold lvAt; rw [hb]; rfl)
                have HZT := Lib.hid (show lvZ os fs true (i + 1) = lvZ os fs true i ++ [(lvF i, ⟨kd, fa⟩)] by rw [lvZ, if_pos hb, HFE.out])
                have HZF := Lib.hid (show lvZ os fs false (i + 1) = lvZ os fs false i by rw [lvZ, if_neg (by rw [hb]; decide)])
                have hlt : (lvZ os fs true i).length ≤ 20 := Nat.le_trans (lvZ_le os fs true i) (by omega)
                have HLT := Lib.hid hlt
                clear hb hlt
                go_upto_region 22 with fail
                rw [← hW4, ← hjf]
                clear hW4 hjf
                go_upto_region 23 with (at_builtin; refine wp_appQ HSL.out HISL.out.1 HISL.out.2.1 HISL.out.2.2.1 HISL.out.2.2.2 rfl (by omega) (P := (jf, o4) :: (jx, ox) :: (jw, ow) :: Q1) (Q := Q2) (T := Qa ++ (Qb ++ Rx)) HT4.out HQ2.out [.slice (some ⟨jx, 0, none⟩) 512 512] rfl (svs_one [(jx, ox)]) (by have := HLT.out; omega) (by have := HLT.out; simp only [maxLen]; omega) _ _ rfl rfl rfl rfl ?_; intro v5 w5 Q5 hq5 hT5; have HQ5 := Lib.hid hq5; have HT5 := Lib.hid (show St w w5 b g v (lvD D1 os i) ((jf, o4) :: (jx, ox) :: (jw, ow) :: (Q1 ++ (Q5 ++ (Qa ++ (Qb ++ Rx))))) from hT5); clear hq5 hT5)
                have hg0 : w5.cell? ⟨jf, 0, none⟩ = some (.int .i64 (kd)) := by
                  have h9 := HT5.out.get 0 rfl
                  rw [ho4] at h9
                  exact cell_of_row w5 jf 0 _ _ _ h9
                have hg1 : w5.cell? ⟨jf, 1, none⟩ = some (.int .i64 (fa)) := by
                  have h9 := HT5.out.get 0 rfl
                  rw [ho4] at h9
                  exact cell_of_row w5 jf 1 _ _ _ h9
                have HT5b := Lib.hid (show St w w5 b g v (lvD D1 os i) (((jf, o4) :: (jx, ox) :: (jw, ow) :: (Q1 ++ (Q5 ++ Qa))) ++ (Qb ++ (Rx))) from by
                  have h9 := HT5.out
                  simp only [List.cons_append, List.append_assoc, List.nil_append] at h9 ⊢
                  exact h9)
                go_upto_region 26 with (at_builtin; refine wp_appQ HFT.out HIFT.out.1 HIFT.out.2.1 HIFT.out.2.2.1 HIFT.out.2.2.2 rfl (by omega) (P := (jf, o4) :: (jx, ox) :: (jw, ow) :: (Q1 ++ (Q5 ++ Qa))) (Q := Qb) (T := Rx) HT5b.out HQB.out [.int .i64 (kd), .int .i64 (fa)] rfl (by intro u hu; simp at hu; rcases hu with rfl | rfl <;> rfl) (by have := HLT.out; omega) (by have := HLT.out; simp only [maxLen]; omega) _ _ rfl rfl rfl rfl ?_; intro v6 w6 Q6 hq6 hT6; have HQ6 := Lib.hid hq6; have HT6 := Lib.hid hT6; clear hq6 hT6)
                clear hg0 hg1
                have HT6b := Lib.hid (show St w w6 b g v (lvD D1 os i) ((jf, o4) :: (jx, ox) :: (jw, ow) :: (Q1 ++ (Q5 ++ (Qa ++ (Q6 ++ Rx))))) from by
                  have h9 := HT6.out
                  simp only [List.cons_append, List.append_assoc, List.nil_append] at h9 ⊢
                  exact h9)
                have HRD6 := Lib.hid (HT6b.out.rd 1 rfl HRx.out (by omega))
                go_wp2_with (at_builtin; refine wp_app (w0 := w6) w6.heap.size (Own.nil _ _) HRD6.out (Below.refl _ _) (Nat.le_refl _) (by omega) _ _ rfl rfl rfl rfl ?_; intro v7 w7 hO7 hB7 hG7 hA7; have HO7 := Lib.hid hO7; have HB7 := Lib.hid hB7; clear hO7 hB7 hG7 hA7)
                have hO7 := HO7.out
                rw [Nat.zero_add, List.nil_append] at hO7
                obtain ⟨jc, cc, oc, rfl, hrc, hT7⟩ := HT6b.out.newB hO7 HB7.out (by omega)
                have HW7 := Lib.hid (st_Write 0 8 512 hT7 rfl hrc (by omega) (by omega) (by show D1.left < _; rw [HDF.out.2.2.1]; omega) (by show (lvC os i).length ≤ _; rw [lvC_len]; omega) (by show D1.wr + i < _; have := HL1.out.wr; omega))
                have hwr := lv_wr os i HN1.out HDF.out.1 HDF.out.2.1
                rw [HAT.out] at hwr
                rw [show (List.replicate 512 (UInt8.ofNat (17 * i + 3))).take 512 = lvF i from List.take_of_length_le (by simp), show wrD (lvD D1 os i) 8 (lvF i) = (0, lvD D1 os (i + 1)) from hwr] at HW7
                clear hO7 hrc hT7 hwr
                refine HW7.out.mono ?_
                rintro e w8 ⟨rfl, v8, hT8⟩
                have HTE := Lib.hid (show St w w8 b g v8 (lvD D1 os (i + 1)) ((jw, ow) :: (Q1 ++ (Q5 ++ (Qa ++ (Q6 ++ (Rx ++ [(jx, ox)])))))) from by
                  have h9 : St w w8 b g v8 (lvD D1 os (i + 1)) ((jx, ox) :: (jw, ow) :: (Q1 ++ (Q5 ++ (Qa ++ (Q6 ++ Rx))))) := hT8.sub ((List.sublist_cons_self _ _).trans (List.sublist_cons_self _ _))
                  have h8 := h9.back
                  simp only [List.cons_append, List.append_assoc, List.nil_append] at h8 ⊢
                  exact h8)
                clear hT8 HW7
                go_wp2
                go_roundw
                case rel => exact ⟨i + 1, v8, Q1, Q5, Qa, Q6, X1, X2 ++ [(jx, ox)], Rx ++ [(jx, ox)], by omega, by omega, by go_num, HTE.out, by rw [HZF.out]; exact HQ1.out, by rw [HZF.out]; exact HX1.out, (fun p hp => List.mem_append_left _ (HM1.out p hp)), by rw [HZT.out, List.length_append, svs_snoc]; exact HQ5.out, by rw [HZT.out]; exact HX2.out.snoc HRx.out, (fun p hp => by rcases List.mem_append.1 hp with hp | hp; exact List.mem_append_left _ (HM2.out p hp); exact List.mem_append_right _ hp), by rw [HZF.out]; exact HQA.out, by rw [HZT.out, List.length_append, fvz_snoc]; exact HQ6.out⟩
                case measure => simp [intOf]; omega
              | false =>
                rw [hb] at hob
                have HAT := Lib.hid (show lvAt os i = 7 by unfold lvAt; rw [hb]; rfl)
                have HZT := Lib.hid (show lvZ os fs false (i + 1) = lvZ os fs false i ++ [(lvF i, ⟨kd, fa⟩)] by rw [lvZ, if_pos hb, HFE.out])
                have HZF := Lib.hid (show lvZ os fs true (i + 1) = lvZ os fs true i by rw [lvZ, if_neg (by rw [hb]; decide)])
                have hlt : (lvZ os fs false i).length ≤ 20 := Nat.le_trans (lvZ_le os fs false i) (by omega)
                have HLT := Lib.hid hlt
                clear hb hlt
                go_upto_region 24 with fail
                rw [← hW4, ← hjf]
                clear hW4 hjf
                go_upto_region 25 with (at_builtin; refine wp_appQ HSL.out HISL.out.1 HISL.out.2.1 HISL.out.2.2.1 HISL.out.2.2.2 rfl (by omega) (P := [(jf, o4), (jx, ox), (jw, ow)]) (Q := Q1) (T := Q2 ++ (Qa ++ (Qb ++ Rx))) HT4.out HQ1.out [.slice (some ⟨jx, 0, none⟩) 512 512] rfl (svs_one [(jx, ox)]) (by have := HLT.out; omega) (by have := HLT.out; simp only [maxLen]; omega) _ _ rfl rfl rfl rfl ?_; intro v5 w5 Q5 hq5 hT5; have HQ5 := Lib.hid hq5; have HT5 := Lib.hid (show St w w5 b g v (lvD D1 os i) ((jf, o4) :: (jx, ox) :: (jw, ow) :: (Q5 ++ (Q2 ++ (Qa ++ (Qb ++ Rx))))) from hT5); clear hq5 hT5)
                have hg0 : w5.cell? ⟨jf, 0, none⟩ = some (.int .i64 (kd)) := by
                  have h9 := HT5.out.get 0 rfl
                  rw [ho4] at h9
                  exact cell_of_row w5 jf 0 _ _ _ h9
                have hg1 : w5.cell? ⟨jf, 1, none⟩ = some (.int .i64 (fa)) := by
                  have h9 := HT5.out.get 0 rfl
                  rw [ho4] at h9
                  exact cell_of_row w5 jf 1 _ _ _ h9
                have HT5b := Lib.hid (show St w w5 b g v (lvD D1 os i) (((jf, o4) :: (jx, ox) :: (jw, ow) :: (Q5 ++ Q2)) ++ (Qa ++ (Qb ++ Rx))) from by
                  have h9 := HT5.out
                  simp only [List.cons_append, List.append_assoc, List.nil_append] at h9 ⊢
                  exact h9)
                go_upto_region 26 with (at_builtin; refine wp_appQ HFT.out HIFT.out.1 HIFT.out.2.1 HIFT.out.2.2.1 HIFT.out.2.2.2 rfl (by omega) (P := (jf, o4) :: (jx, ox) :: (jw, ow) :: (Q5 ++ Q2)) (Q := Qa) (T := Qb ++ Rx) HT5b.out HQA.out [.int .i64 (kd), .int .i64 (fa)] rfl (by intro u hu; simp at hu; rcases hu with rfl | rfl <;> rfl) (by have := HLT.out; omega) (by have := HLT.out; simp only [maxLen]; omega) _ _ rfl rfl rfl rfl ?_; intro v6 w6 Q6 hq6 hT6; have HQ6 := Lib.hid hq6; have HT6 := Lib.hid hT6; clear hq6 hT6)
                clear hg0 hg1
                have HT6b := Lib.hid (show St w w6 b g v (lvD D1 os i) ((jf, o4) :: (jx, ox) :: (jw, ow) :: (Q5 ++ (Q2 ++ (Q6 ++ (Qb ++ Rx))))) from by
                  have h9 := HT6.out
                  simp only [List.cons_append, List.append_assoc, List.nil_append] at h9 ⊢
                  exact h9)
                have HRD6 := Lib.hid (HT6b.out.rd 1 rfl HRx.out (by omega))
                go_wp2_with (at_builtin; refine wp_app (w0 := w6) w6.heap.size (Own.nil _ _) HRD6.out (Below.refl _ _) (Nat.le_refl _) (by omega) _ _ rfl rfl rfl rfl ?_; intro v7 w7 hO7 hB7 hG7 hA7; have HO7 := Lib.hid hO7; have HB7 := Lib.hid hB7; clear hO7 hB7 hG7 hA7)
                have hO7 := HO7.out
                rw [Nat.zero_add, List.nil_append] at hO7
                obtain ⟨jc, cc, oc, rfl, hrc, hT7⟩ := HT6b.out.newB hO7 HB7.out (by omega)
                have HW7 := Lib.hid (st_Write 0 7 512 hT7 rfl hrc (by omega) (by omega) (by show D1.left < _; rw [HDF.out.2.2.1]; omega) (by show (lvC os i).length ≤ _; rw [lvC_len]; omega) (by show D1.wr + i < _; have := HL1.out.wr; omega))
                have hwr := lv_wr os i HN1.out HDF.out.1 HDF.out.2.1
                rw [HAT.out] at hwr
                rw [show (List.replicate 512 (UInt8.ofNat (17 * i + 3))).take 512 = lvF i from List.take_of_length_le (by simp), show wrD (lvD D1 os i) 7 (lvF i) = (0, lvD D1 os (i + 1)) from hwr] at HW7
                clear hO7 hrc hT7 hwr
                refine HW7.out.mono ?_
                rintro e w8 ⟨rfl, v8, hT8⟩
                have HTE := Lib.hid (show St w w8 b g v8 (lvD D1 os (i + 1)) ((jw, ow) :: (Q5 ++ (Q2 ++ (Q6 ++ (Qb ++ (Rx ++ [(jx, ox)])))))) from by
                  have h9 : St w w8 b g v8 (lvD D1 os (i + 1)) ((jx, ox) :: (jw, ow) :: (Q5 ++ (Q2 ++ (Q6 ++ (Qb ++ Rx))))) := hT8.sub ((List.sublist_cons_self _ _).trans (List.sublist_cons_self _ _))
                  have h8 := h9.back
                  simp only [List.cons_append, List.append_assoc, List.nil_append] at h8 ⊢
                  exact h8)
                clear hT8 HW7
                go_wp2
                go_roundw
                case rel => exact ⟨i + 1, v8, Q5, Q2, Q6, Qb, X1 ++ [(jx, ox)], X2, Rx ++ [(jx, ox)], by omega, by omega, by go_num, HTE.out, by rw [HZT.out, List.length_append, svs_snoc]; exact HQ5.out, by rw [HZT.out]; exact HX1.out.snoc HRx.out, (fun p hp => by rcases List.mem_append.1 hp with hp | hp; exact List.mem_append_left _ (HM1.out p hp); exact List.mem_append_right _ hp), by rw [HZF.out]; exact HQ2.out, by rw [HZF.out]; exact HX2.out, (fun p hp => List.mem_append_left _ (HM2.out p hp)), by rw [HZT.out, List.length_append, fvz_snoc]; exact HQ6.out, by rw [HZF.out]; exact HQB.out⟩
                case measure => simp [intOf]; omega

            · have HKD := Lib.hid (show kd = 0 ∧ fa = 0 by
                have h9 : fs.getD i default = (default : Ft) := by rw [List.getD_eq_getElem?_getD, List.getElem?_eq_none (by omega)]; rfl
                rw [h9] at hkd hfa
                exact ⟨hkd, hfa⟩)
              have hob := cell_ext ((Below.refl _ w2).alloc (Nat.le_refl _) (.cells #[.int .i64 0, .int .i64 0] 52)) hob
              have hifi : ¬ (i : Int) < (n'' : Int) := by omega
              clear hkd hfa
              obtain ⟨rfl, rfl⟩ := HKD.out
              obtain ⟨o4, ho4⟩ : ∃ o4 : Obj, o4 = (.cells #[.int .i64 (0), .int .i64 (0)] 52) := ⟨_, rfl⟩
              obtain ⟨jf, hjf⟩ : ∃ jf, jf = w2.heap.size := ⟨_, rfl⟩
              obtain ⟨W4, hW4⟩ : ∃ W4, W4 = w2.alloc (.cells #[.int .i64 (0), .int .i64 (0)] 52) := ⟨_, rfl⟩
              have HT4 := Lib.hid (show St w W4 b g v (lvD D1 os i) ((jf, o4) :: (jx, ox) :: (jw, ow) :: (Q1 ++ (Q2 ++ (Qa ++ (Qb ++ Rx))))) from by
                rw [hW4, hjf, ho4]
                exact HT2.out.new ((Below.refl _ w2).alloc (Nat.le_refl _) _) (Nat.le_refl _) (heap_alloc_new w2 _))
              cases hb : os.getD i false with
              | true =>
                rw [hb] at hob
                have HAT := Lib.hid (show lvAt os i = 8 by unfold lvAt; rw [hb]; rfl)
                have HZT := Lib.hid (show lvZ os fs true (i + 1) = lvZ os fs true i ++ [(lvF i, ⟨0, 0⟩)] by rw [lvZ, if_pos hb, HFE.out])
                have HZF := Lib.hid (show lvZ os fs false (i + 1) = lvZ os fs false i by rw [lvZ, if_neg (by rw [hb]; decide)])
                have hlt : (lvZ os fs true i).length ≤ 20 := Nat.le_trans (lvZ_le os fs true i) (by omega)
                have HLT := Lib.hid hlt
                clear hb hlt
                go_upto_region 22 with fail
                rw [← hW4, ← hjf]
                clear hW4 hjf
                go_upto_region 23 with (at_builtin; refine wp_appQ HSL.out HISL.out.1 HISL.out.2.1 HISL.out.2.2.1 HISL.out.2.2.2 rfl (by omega) (P := (jf, o4) :: (jx, ox) :: (jw, ow) :: Q1) (Q := Q2) (T := Qa ++ (Qb ++ Rx)) HT4.out HQ2.out [.slice (some ⟨jx, 0, none⟩) 512 512] rfl (svs_one [(jx, ox)]) (by have := HLT.out; omega) (by have := HLT.out; simp only [maxLen]; omega) _ _ rfl rfl rfl rfl ?_; intro v5 w5 Q5 hq5 hT5; have HQ5 := Lib.hid hq5; have HT5 := Lib.hid (show St w w5 b g v (lvD D1 os i) ((jf, o4) :: (jx, ox) :: (jw, ow) :: (Q1 ++ (Q5 ++ (Qa ++ (Qb ++ Rx))))) from hT5); clear hq5 hT5)
                have hg0 : w5.cell? ⟨jf, 0, none⟩ = some (.int .i64 (0)) := by
                  have h9 := HT5.out.get 0 rfl
                  rw [ho4] at h9
                  exact cell_of_row w5 jf 0 _ _ _ h9
                have hg1 : w5.cell? ⟨jf, 1, none⟩ = some (.int .i64 (0)) := by
                  have h9 := HT5.out.get 0 rfl
                  rw [ho4] at h9
                  exact cell_of_row w5 jf 1 _ _ _ h9
                have HT5b := Lib.hid (show St w w5 b g v (lvD D1 os i) (((jf, o4) :: (jx, ox) :: (jw, ow) :: (Q1 ++ (Q5 ++ Qa))) ++ (Qb ++ (Rx))) from by
                  have h9 := HT5.out
                  simp only [List.cons_append, List.append_assoc, List.nil_append] at h9 ⊢
                  exact h9)
                go_upto_region 26 with (at_builtin; refine wp_appQ HFT.out HIFT.out.1 HIFT.out.2.1 HIFT.out.2.2.1 HIFT.out.2.2.2 rfl (by omega) (P := (jf, o4) :: (jx, ox) :: (jw, ow) :: (Q1 ++ (Q5 ++ Qa))) (Q := Qb) (T := Rx) HT5b.out HQB.out [.int .i64 (0), .int .i64 (0)] rfl (by intro u hu; simp at hu; rcases hu with rfl | rfl <;> rfl) (by have := HLT.out; omega) (by have := HLT.out; simp only [maxLen]; omega) _ _ rfl rfl rfl rfl ?_; intro v6 w6 Q6 hq6 hT6; have HQ6 := Lib.hid hq6; have HT6 := Lib.hid hT6; clear hq6 hT6)
                clear hg0 hg1
                have HT6b := Lib.hid (show St w w6 b g v (lvD D1 os i) ((jf, o4) :: (jx, ox) :: (jw, ow) :: (Q1 ++ (Q5 ++ (Qa ++ (Q6 ++ Rx))))) from by
                  have h9 := HT6.out
                  simp only [List.cons_append, List.append_assoc, List.nil_append] at h9 ⊢
                  exact h9)
                have HRD6 := Lib.hid (HT6b.out.rd 1 rfl HRx.out (by omega))
                go_wp2_with (at_builtin; refine wp_app (w0 := w6) w6.heap.size (Own.nil _ _) HRD6.out (Below.refl _ _) (Nat.le_refl _) (by omega) _ _ rfl rfl rfl rfl ?_; intro v7 w7 hO7 hB7 hG7 hA7; have HO7 := Lib.hid hO7; have HB7 := Lib.hid hB7; clear hO7 hB7 hG7 hA7)
                have hO7 := HO7.out
                rw [Nat.zero_add, List.nil_append] at hO7
                obtain ⟨jc, cc, oc, rfl, hrc, hT7⟩ := HT6b.out.newB hO7 HB7.out (by omega)
                have HW7 := Lib.hid (st_Write 0 8 512 hT7 rfl hrc (by omega) (by omega) (by show D1.left < _; rw [HDF.out.2.2.1]; omega) (by show (lvC os i).length ≤ _; rw [lvC_len]; omega) (by show D1.wr + i < _; have := HL1.out.wr; omega))
                have hwr := lv_wr os i HN1.out HDF.out.1 HDF.out.2.1
                rw [HAT.out] at hwr
                rw [show (List.replicate 512 (UInt8.ofNat (17 * i + 3))).take 512 = lvF i from List.take_of_length_le (by simp), show wrD (lvD D1 os i) 8 (lvF i) = (0, lvD D1 os (i + 1)) from hwr] at HW7
                clear hO7 hrc hT7 hwr
                refine HW7.out.mono ?_
                rintro e w8 ⟨rfl, v8, hT8⟩
                have HTE := Lib.hid (show St w w8 b g v8 (lvD D1 os (i + 1)) ((jw, ow) :: (Q1 ++ (Q5 ++ (Qa ++ (Q6 ++ (Rx ++ [(jx, ox)])))))) from by
                  have h9 : St w w8 b g v8 (lvD D1 os (i + 1)) ((jx, ox) :: (jw, ow) :: (Q1 ++ (Q5 ++ (Qa ++ (Q6 ++ Rx))))) := hT8.sub ((List.sublist_cons_self _ _).trans (List.sublist_cons_self _ _))
                  have h8 := h9.back
                  simp only [List.cons_append, List.append_assoc, List.nil_append] at h8 ⊢
                  exact h8)
                clear hT8 HW7
                go_wp2
                go_roundw
                case rel => exact ⟨i + 1, v8, Q1, Q5, Qa, Q6, X1, X2 ++ [(jx, ox)], Rx ++ [(jx, ox)], by omega, by omega, by go_num, HTE.out, by rw [HZF.out]; exact HQ1.out, by rw [HZF.out]; exact HX1.out, (fun p hp => List.mem_append_left _ (HM1.out p hp)), by rw [HZT.out, List.length_append, svs_snoc]; exact HQ5.out, by rw [HZT.out]; exact HX2.out.snoc HRx.out, (fun p hp => by rcases List.mem_append.1 hp with hp | hp; exact List.mem_append_left _ (HM2.out p hp); exact List.mem_append_right _ hp), by rw [HZF.out]; exact HQA.out, by rw [HZT.out, List.length_append, fvz_snoc]; exact HQ6.out⟩
                case measure => simp [intOf]; omega
              | false =>
                rw [hb] at hob
                have HAT := Lib.hid (show lvAt os i = 7 by unfold lvAt; rw [hb]; rfl)
                have HZT := Lib.hid (show lvZ os fs false (i + 1) = lvZ os fs false i ++ [(lvF i, ⟨0, 0⟩)] by rw [lvZ, if_pos hb, HFE.out])
                have HZF := Lib.hid (show lvZ os fs true (i + 1) = lvZ os fs true i by rw [lvZ, if_neg (by rw [hb]; decide)])
                have hlt : (lvZ os fs false i).length ≤ 20 := Nat.le_trans (lvZ_le os fs false i) (by omega)
                have HLT := Lib.hid hlt
                clear hb hlt
                go_upto_region 24 with fail
                rw [← hW4, ← hjf]
                clear hW4 hjf
                go_upto_region 25 with (at_builtin; refine wp_appQ HSL.out HISL.out.1 HISL.out.2.1 HISL.out.2.2.1 HISL.out.2.2.2 rfl (by omega) (P := [(jf, o4), (jx, ox), (jw, ow)]) (Q := Q1) (T := Q2 ++ (Qa ++ (Qb ++ Rx))) HT4.out HQ1.out [.slice (some ⟨jx, 0, none⟩) 512 512] rfl (svs_one [(jx, ox)]) (by have := HLT.out; omega) (by have := HLT.out; simp only [maxLen]; omega) _ _ rfl rfl rfl rfl ?_; intro v5 w5 Q5 hq5 hT5; have HQ5 := Lib.hid hq5; have HT5 := Lib.hid (show St w w5 b g v (lvD D1 os i) ((jf, o4) :: (jx, ox) :: (jw, ow) :: (Q5 ++ (Q2 ++ (Qa ++ (Qb ++ Rx))))) from hT5); clear hq5 hT5)
                have hg0 : w5.cell? ⟨jf, 0, none⟩ = some (.int .i64 (0)) := by
                  have h9 := HT5.out.get 0 rfl
                  rw [ho4] at h9
                  exact cell_of_row w5 jf 0 _ _ _ h9
                have hg1 : w5.cell? ⟨jf, 1, none⟩ = some (.int .i64 (0)) := by
                  have h9 := HT5.out.get 0 rfl
                  rw [ho4] at h9
                  exact cell_of_row w5 jf 1 _ _ _ h9
                have HT5b := Lib.hid (show St w w5 b g v (lvD D1 os i) (((jf, o4) :: (jx, ox) :: (jw, ow) :: (Q5 ++ Q2)) ++ (Qa ++ (Qb ++ Rx))) from by
                  have h9 := HT5.out
                  simp only [List.cons_append, List.append_assoc, List.nil_append] at h9 ⊢
                  exact h9)
                go_upto_region 26 with (at_builtin; refine wp_appQ HFT.out HIFT.out.1 HIFT.out.2.1 HIFT.out.2.2.1 HIFT.out.2.2.2 rfl (by omega) (P := (jf, o4) :: (jx, ox) :: (jw, ow) :: (Q5 ++ Q2)) (Q := Qa) (T := Qb ++ Rx) HT5b.out HQA.out [.int .i64 (0), .int .i64 (0)] rfl (by intro u hu; simp at hu; rcases hu with rfl | rfl <;> rfl) (by have := HLT.out; omega) (by have := HLT.out; simp only [maxLen]; omega) _ _ rfl rfl rfl rfl ?_; intro v6 w6 Q6 hq6 hT6; have HQ6 := Lib.hid hq6; have HT6 := Lib.hid hT6; clear hq6 hT6)
                clear hg0 hg1
                have HT6b := Lib.hid (show St w w6 b g v (lvD D1 os i) ((jf, o4) :: (jx, ox) :: (jw, ow) :: (Q5 ++ (Q2 ++ (Q6 ++ (Qb ++ Rx))))) from by
                  have h9 := HT6.out
                  simp only [List.cons_append, List.append_assoc, List.nil_append] at h9 ⊢
                  exact h9)
                have HRD6 := Lib.hid (HT6b.out.rd 1 rfl HRx.out (by omega))
                go_wp2_with (at_builtin; refine wp_app (w0 := w6) w6.heap.size (Own.nil _ _) HRD6.out (Below.refl _ _) (Nat.le_refl _) (by omega) _ _ rfl rfl rfl rfl ?_; intro v7 w7 hO7 hB7 hG7 hA7; have HO7 := Lib.hid hO7; have HB7 := Lib.hid hB7; clear hO7 hB7 hG7 hA7)
                have hO7 := HO7.out
                rw [Nat.zero_add, List.nil_append] at hO7
                obtain ⟨jc, cc, oc, rfl, hrc, hT7⟩ := HT6b.out.newB hO7 HB7.out (by omega)
                have HW7 := Lib.hid (st_Write 0 7 512 hT7 rfl hrc (by omega) (by omega) (by show D1.left < _; rw [HDF.out.2.2.1]; omega) (by show (lvC os i).length ≤ _; rw [lvC_len]; omega) (by show D1.wr + i < _; have := HL1.out.wr; omega))
                have hwr := lv_wr os i HN1.out HDF.out.1 HDF.out.2.1
                rw [HAT.out] at hwr
                rw [show (List.replicate 512 (UInt8.ofNat (17 * i + 3))).take 512 = lvF i from List.take_of_length_le (by simp), show wrD (lvD D1 os i) 7 (lvF i) = (0, lvD D1 os (i + 1)) from hwr] at HW7
                clear hO7 hrc hT7 hwr
                refine HW7.out.mono ?_
                rintro e w8 ⟨rfl, v8, hT8⟩
                have HTE := Lib.hid (show St w w8 b g v8 (lvD D1 os (i + 1)) ((jw, ow) :: (Q5 ++ (Q2 ++ (Q6 ++ (Qb ++ (Rx ++ [(jx, ox)])))))) from by
                  have h9 : St w w8 b g v8 (lvD D1 os (i + 1)) ((jx, ox) :: (jw, ow) :: (Q5 ++ (Q2 ++ (Q6 ++ (Qb ++ Rx))))) := hT8.sub ((List.sublist_cons_self _ _).trans (List.sublist_cons_self _ _))
                  have h8 := h9.back
                  simp only [List.cons_append, List.append_assoc, List.nil_append] at h8 ⊢
                  exact h8)
                clear hT8 HW7
                go_wp2
                go_roundw
                case rel => exact ⟨i + 1, v8, Q5, Q2, Q6, Qb, X1 ++ [(jx, ox)], X2, Rx ++ [(jx, ox)], by omega, by omega, by go_num, HTE.out, by rw [HZT.out, List.length_append, svs_snoc]; exact HQ5.out, by rw [HZT.out]; exact HX1.out.snoc HRx.out, (fun p hp => by rcases List.mem_append.1 hp with hp | hp; exact List.mem_append_left _ (HM1.out p hp); exact List.mem_append_right _ hp), by rw [HZF.out]; exact HQ2.out, by rw [HZF.out]; exact HX2.out, (fun p hp => List.mem_append_left _ (HM2.out p hp)), by rw [HZT.out, List.length_append, fvz_snoc]; exact HQ6.out, by rw [HZF.out]; exact HQB.out⟩
                case measure => simp [intOf]; omega

          · have hend : ¬ ((i : Int) < (n' : Int) ∧ (i : Int) < 20) := by omega
            by_cases hin2 : i < n'
            · have hi7 : ¬ (i : Int) < 20 := by omega
              have hi8 : (i : Int) < (n' : Int) := by omega
              clear hend hin
              obtain ⟨B1, e1, hB1⟩ := HQ1.out.slice
              obtain ⟨B2, e2, hB2⟩ := HQ2.out.slice
              obtain ⟨Ba, ea, hBa⟩ := HQA.out.slice
              obtain ⟨Bb, eb, hBb⟩ := HQB.out.slice
              have HV1 := Lib.hid hB1
              have HV2 := Lib.hid hB2
              have HVA := Lib.hid hBa
              have HVB := Lib.hid hBb
              rw [hB1, hB2, hBa, hBb]
              have HL1n := Lib.hid (show (lvZ os fs false i).length ≤ 1000 from Nat.le_trans (lvZ_le os fs false i) (by omega))
              have HL2n := Lib.hid (show (lvZ os fs true i).length ≤ 1000 from Nat.le_trans (lvZ_le os fs true i) (by omega))
              have HRFw := Lib.hid (HRF.out.ext HT.out.bl)
              obtain ⟨DL, hDL⟩ : ∃ DL, DL = crD (lvD D1 os i) fs := ⟨_, rfl⟩
              have HDN := Lib.hid (show DL.n = 64 by rw [hDL]; exact HN1.out)
              have HDM := Lib.hid (show DL.M = lvM os fs i D1.M by rw [hDL]; rfl)
              have HDC := Lib.hid (show DL.C.length = 0 ∧ DL.down = false by rw [hDL]; exact ⟨rfl, rfl⟩)
              have HDL := Lib.hid hDL
              obtain ⟨L1, hL1⟩ : ∃ L1, L1 = (lvZ os fs false i).length := ⟨_, rfl⟩
              obtain ⟨L2, hL2⟩ : ∃ L2, L2 = (lvZ os fs true i).length := ⟨_, rfl⟩
              rw [← hL1, ← hL2]
              rw [← hL1] at HQ1 HQA HV1 HVA HL1n
              rw [← hL2] at HQ2 HQB HV2 HVB HL2n
              clear hB1 hB2 hBa hBb hDL hL1 hL2
              go_wp2_with (at_builtin; refine wp_appF HRFw.out hz _ _ rfl rfl rfl rfl ?_; intro AF cF w20 hRF hBF hxF; have HTF := Lib.hid (HT.out.below hBF); have HCF := Lib.hid (st_Crash n'' cF AF fs HTF.out (by show (lvC os i).length ≤ _; rw [lvC_len]; omega) hRF (fun _ p hp hm => by (have h7 := HT.out.dv.lt _ hm); (have h8 := hxF p hp); omega)); clear hRF hBF hxF)
              rw [← HDL.out] at HCF
              refine HCF.out.mono ?_
              rintro e w21 ⟨rfl, v21, hT21⟩
              have HT21 := Lib.hid hT21
              have HM21 := Lib.hid (st_Med64 hT21 HDN.out)
              rw [HDM.out] at HM21
              clear hT21 HCF
              go_wp2_with fail
              refine HM21.out.mono ?_
              rintro e w22 ⟨ji, ci, oi, rfl, hri, hT22⟩
              have HRi := Lib.hid hri
              have HT22 := Lib.hid hT22
              have HP22 := Lib.hid (st_PendN hT22 (by rw [HDC.out.1]; omega))
              rw [HDC.out.1] at HP22
              clear hri hT22 HM21
              go_wp2_with fail
              refine HP22.out.mono ?_
              rintro e w23 ⟨Ap, cp, Rp, rfl, _, hT23⟩
              have HT23 := Lib.hid (hT23.sub (List.sublist_append_left _ _))
              have HD23 := Lib.hid (dv_Down w23 b g v21 DL HT23.out.dv)
              rw [HDC.out.2] at HD23
              clear hT23 HP22
              go_wp2_with fail
              refine HD23.out.mono ?_
              rintro e w24 ⟨rfl, rfl⟩
              clear HD23
              have hM7 : ((D1.M.drop 3584).take 512) = blkM D1.M 7 := rfl
              have hM8 : ((D1.M.drop 4096).take 512) = blkM D1.M 8 := rfl
              have HRb1 := Lib.hid ((HT23.out.rd 1 rfl HRW.out (by omega)).cut 3584 512 (by omega))
              rw [hM7] at HRb1
              have HO1 := Lib.hid (l6_over w24 (some ⟨jw, 3584, none⟩) B1 Ba (cw - 3584) L1 e1 ea (blkM D1.M 7) (lvZ os fs false i) HRb1.out
                (lv_slice HV1.out HQ1.out (fun p hp => HT23.out.kp.all p (by simp [hp])) (fun p hp => HT23.out.kp.all p (by simp [HM1.out p hp])) HX1.out HL1n.out)
                (lv_fates HVA.out HQA.out (fun p hp => HT23.out.kp.all p (by simp [hp])) HL1n.out) (lvZ_ok os fs false i))
              have hcw : (32768 : Int) ≤ (cw : Int) ∧ 32768 ≤ cw := by have := HRW.out.cap; omega
              have hci : (32768 : Int) ≤ (ci : Int) ∧ 32768 ≤ ci := by have := HRi.out.cap; omega
              clear hM7
              go_wp2_with fail
              refine HO1.out.mono ?_
              rintro e w25 ⟨u25, rfl, hO25, hB25⟩
              obtain ⟨jo, co, oo1, rfl, hro, hT25⟩ := HT23.out.newB hO25 hB25 (by omega)
              have HRo := Lib.hid hro
              have HT25 := Lib.hid hT25
              have HRb2 := Lib.hid ((hT25.rd 2 rfl HRW.out (by omega)).cut 4096 512 (by omega))
              rw [hM8] at HRb2
              have HO2 := Lib.hid (l6_over w25 (some ⟨jw, 4096, none⟩) B2 Bb (cw - 4096) L2 e2 eb (blkM D1.M 8) (lvZ os fs true i) HRb2.out
                (lv_slice HV2.out HQ2.out (fun p hp => HT25.out.kp.all p (by simp [hp])) (fun p hp => HT25.out.kp.all p (by simp [HM2.out p hp])) HX2.out HL2n.out)
                (lv_fates HVB.out HQB.out (fun p hp => HT25.out.kp.all p (by simp [hp])) HL2n.out) (lvZ_ok os fs true i))
              clear hro hO25 hB25 hT25 hM8 HO1
              go_wp2_with fail
              refine HO2.out.mono ?_
              rintro e w26 ⟨u26, rfl, hO26, hB26⟩
              obtain ⟨jp, cp2, op2, rfl, hrp, hT26⟩ := HT25.out.newB hO26 hB26 (by omega)
              have HRp := Lib.hid hrp
              have HT26 := Lib.hid hT26
              clear hrp hO26 hB26 hT26 HO2
              go_wp2_with fail
              have hmz : D1.M.length = 64 * 512 := HML.out
              have q7 := lvM_blk os fs false D1.M hmz i
              have q8 := lvM_blk os fs true D1.M hmz i
              have k1 := ((HT26.out.drewN 1).rd 2 rfl HRi.out (by omega)).cut 3584 512 (by omega)
              rw [show (((lvM os fs i D1.M).drop 3584).take 512) = blkM (lvM os fs i D1.M) 7 from rfl, show blkM (lvM os fs i D1.M) 7 = ovQ (lvZ os fs false i) (blkM D1.M 7) from q7] at k1
              have k2 := ((HT26.out.drewN 1).rd 2 rfl HRi.out (by omega)).cut 4096 512 (by omega)
              rw [show (((lvM os fs i D1.M).drop 4096).take 512) = blkM (lvM os fs i D1.M) 8 from rfl, show blkM (lvM os fs i D1.M) 8 = ovQ (lvZ os fs true i) (blkM D1.M 8) from q8] at k2
              have k3 := ((HT26.out.drewN 1).rd 2 rfl HRi.out (by omega)).take 3584 (by omega)
              rw [lvM_take os fs D1.M hmz i] at k3
              have k4 := ((HT26.out.drewN 1).rd 2 rfl HRi.out (by omega)).cut 4608 28160 (by omega)
              rw [lvM_drop os fs D1.M hmz i] at k4
              have k5 := ((HT26.out.drewN 1).rd 3 rfl HRW.out (by omega)).take 3584 (by omega)
              have k6 := ((HT26.out.drewN 1).rd 3 rfl HRW.out (by omega)).cut 4608 28160 (by omega)
              have HS1 := Lib.hid (show Calls Try.prog 17 #[.slice (some ⟨ji, 3584, none⟩) 512 (ci - 3584), .slice (some ⟨jo, 0, none⟩) 512 co] w26.drew (fun e w' => e = .returned (.bool true) ∧ w' = w26.drew) from by
                have h9 := l6_same (some ⟨ji, 3584, none⟩) (some ⟨jo, 0, none⟩) 512 (ci - 3584) 512 co _ _ w26.drew k1 ((HT26.out.drewN 1).rd 1 rfl HRo.out (by omega))
                rw [decide_eq_true rfl] at h9
                exact h9)
              have HS2 := Lib.hid (show Calls Try.prog 17 #[.slice (some ⟨ji, 4096, none⟩) 512 (ci - 4096), .slice (some ⟨jp, 0, none⟩) 512 cp2] w26.drew (fun e w' => e = .returned (.bool true) ∧ w' = w26.drew) from by
                have h9 := l6_same (some ⟨ji, 4096, none⟩) (some ⟨jp, 0, none⟩) 512 (ci - 4096) 512 cp2 _ _ w26.drew k2 ((HT26.out.drewN 1).rd 0 rfl HRp.out (by omega))
                rw [decide_eq_true rfl] at h9
                exact h9)
              have HS3 := Lib.hid (show Calls Try.prog 17 #[.slice (some ⟨ji, 0, none⟩) 3584 ci, .slice (some ⟨jw, 0, none⟩) 3584 cw] w26.drew (fun e w' => e = .returned (.bool true) ∧ w' = w26.drew) from by
                have h9 := l6_same (some ⟨ji, 0, none⟩) (some ⟨jw, 0, none⟩) 3584 ci 3584 cw _ _ w26.drew k3 k5
                rw [decide_eq_true rfl] at h9
                exact h9)
              have HS4 := Lib.hid (show Calls Try.prog 17 #[.slice (some ⟨ji, 4608, none⟩) 28160 (ci - 4608), .slice (some ⟨jw, 4608, none⟩) 28160 (cw - 4608)] w26.drew (fun e w' => e = .returned (.bool true) ∧ w' = w26.drew) from by
                have h9 := l6_same (some ⟨ji, 4608, none⟩) (some ⟨jw, 4608, none⟩) 28160 (ci - 4608) 28160 (cw - 4608) _ _ w26.drew k4 k6
                rw [decide_eq_true rfl] at h9
                exact h9)
              clear q7 q8 k1 k2 k3 k4 k5 k6 hmz
              have hcb : ¬ ci = 4608 ∧ ¬ cw = 4608 ∧ ¬ ci = 3584 ∧ ¬ ci = 4096 ∧ (4096 : Int) ≤ (ci : Int) ∧ (4608 : Int) ≤ (ci : Int) ∧ (3584 : Int) ≤ (ci : Int) ∧ (3584 : Int) ≤ (cw : Int) ∧ 3584 ≤ ci ∧ 3584 ≤ cw ∧ 4608 ≤ ci ∧ 4096 ≤ ci := by omega
              go_region_held3 (fun _ => True) (trivial) ((go_at_call 17; first | (refine HS1.out.mono ?_; rintro e w27 ⟨rfl, h27⟩; subst h27; clear HS1) | (refine HS2.out.mono ?_; rintro e w27 ⟨rfl, h27⟩; subst h27; clear HS2) | (refine HS3.out.mono ?_; rintro e w27 ⟨rfl, h27⟩; subst h27; clear HS3) | (refine HS4.out.mono ?_; rintro e w27 ⟨rfl, h27⟩; subst h27; clear HS4)))
              all_goals go_wp2
              go_ret
              exact ⟨by simp, by first | exact HT26.out.bl | exact (HT26.out.drewN _).bl⟩
            · have hi8 : ¬ (i : Int) < (n' : Int) := by omega
              clear hend hin
              obtain ⟨B1, e1, hB1⟩ := HQ1.out.slice
              obtain ⟨B2, e2, hB2⟩ := HQ2.out.slice
              obtain ⟨Ba, ea, hBa⟩ := HQA.out.slice
              obtain ⟨Bb, eb, hBb⟩ := HQB.out.slice
              have HV1 := Lib.hid hB1
              have HV2 := Lib.hid hB2
              have HVA := Lib.hid hBa
              have HVB := Lib.hid hBb
              rw [hB1, hB2, hBa, hBb]
              have HL1n := Lib.hid (show (lvZ os fs false i).length ≤ 1000 from Nat.le_trans (lvZ_le os fs false i) (by omega))
              have HL2n := Lib.hid (show (lvZ os fs true i).length ≤ 1000 from Nat.le_trans (lvZ_le os fs true i) (by omega))
              have HRFw := Lib.hid (HRF.out.ext HT.out.bl)
              obtain ⟨DL, hDL⟩ : ∃ DL, DL = crD (lvD D1 os i) fs := ⟨_, rfl⟩
              have HDN := Lib.hid (show DL.n = 64 by rw [hDL]; exact HN1.out)
              have HDM := Lib.hid (show DL.M = lvM os fs i D1.M by rw [hDL]; rfl)
              have HDC := Lib.hid (show DL.C.length = 0 ∧ DL.down = false by rw [hDL]; exact ⟨rfl, rfl⟩)
              have HDL := Lib.hid hDL
              obtain ⟨L1, hL1⟩ : ∃ L1, L1 = (lvZ os fs false i).length := ⟨_, rfl⟩
              obtain ⟨L2, hL2⟩ : ∃ L2, L2 = (lvZ os fs true i).length := ⟨_, rfl⟩
              rw [← hL1, ← hL2]
              rw [← hL1] at HQ1 HQA HV1 HVA HL1n
              rw [← hL2] at HQ2 HQB HV2 HVB HL2n
              clear hB1 hB2 hBa hBb hDL hL1 hL2
              go_wp2_with (at_builtin; refine wp_appF HRFw.out hz _ _ rfl rfl rfl rfl ?_; intro AF cF w20 hRF hBF hxF; have HTF := Lib.hid (HT.out.below hBF); have HCF := Lib.hid (st_Crash n'' cF AF fs HTF.out (by show (lvC os i).length ≤ _; rw [lvC_len]; omega) hRF (fun _ p hp hm => by (have h7 := HT.out.dv.lt _ hm); (have h8 := hxF p hp); omega)); clear hRF hBF hxF)
              rw [← HDL.out] at HCF
              refine HCF.out.mono ?_
              rintro e w21 ⟨rfl, v21, hT21⟩
              have HT21 := Lib.hid hT21
              have HM21 := Lib.hid (st_Med64 hT21 HDN.out)
              rw [HDM.out] at HM21
              clear hT21 HCF
              go_wp2_with fail
              refine HM21.out.mono ?_
              rintro e w22 ⟨ji, ci, oi, rfl, hri, hT22⟩
              have HRi := Lib.hid hri
              have HT22 := Lib.hid hT22
              have HP22 := Lib.hid (st_PendN hT22 (by rw [HDC.out.1]; omega))
              rw [HDC.out.1] at HP22
              clear hri hT22 HM21
              go_wp2_with fail
              refine HP22.out.mono ?_
              rintro e w23 ⟨Ap, cp, Rp, rfl, _, hT23⟩
              have HT23 := Lib.hid (hT23.sub (List.sublist_append_left _ _))
              have HD23 := Lib.hid (dv_Down w23 b g v21 DL HT23.out.dv)
              rw [HDC.out.2] at HD23
              clear hT23 HP22
              go_wp2_with fail
              refine HD23.out.mono ?_
              rintro e w24 ⟨rfl, rfl⟩
              clear HD23
              have hM7 : ((D1.M.drop 3584).take 512) = blkM D1.M 7 := rfl
              have hM8 : ((D1.M.drop 4096).take 512) = blkM D1.M 8 := rfl
              have HRb1 := Lib.hid ((HT23.out.rd 1 rfl HRW.out (by omega)).cut 3584 512 (by omega))
              rw [hM7] at HRb1
              have HO1 := Lib.hid (l6_over w24 (some ⟨jw, 3584, none⟩) B1 Ba (cw - 3584) L1 e1 ea (blkM D1.M 7) (lvZ os fs false i) HRb1.out
                (lv_slice HV1.out HQ1.out (fun p hp => HT23.out.kp.all p (by simp [hp])) (fun p hp => HT23.out.kp.all p (by simp [HM1.out p hp])) HX1.out HL1n.out)
                (lv_fates HVA.out HQA.out (fun p hp => HT23.out.kp.all p (by simp [hp])) HL1n.out) (lvZ_ok os fs false i))
              have hcw : (32768 : Int) ≤ (cw : Int) ∧ 32768 ≤ cw := by have := HRW.out.cap; omega
              have hci : (32768 : Int) ≤ (ci : Int) ∧ 32768 ≤ ci := by have := HRi.out.cap; omega
              clear hM7
              go_wp2_with fail
              refine HO1.out.mono ?_
              rintro e w25 ⟨u25, rfl, hO25, hB25⟩
              obtain ⟨jo, co, oo1, rfl, hro, hT25⟩ := HT23.out.newB hO25 hB25 (by omega)
              have HRo := Lib.hid hro
              have HT25 := Lib.hid hT25
              have HRb2 := Lib.hid ((hT25.rd 2 rfl HRW.out (by omega)).cut 4096 512 (by omega))
              rw [hM8] at HRb2
              have HO2 := Lib.hid (l6_over w25 (some ⟨jw, 4096, none⟩) B2 Bb (cw - 4096) L2 e2 eb (blkM D1.M 8) (lvZ os fs true i) HRb2.out
                (lv_slice HV2.out HQ2.out (fun p hp => HT25.out.kp.all p (by simp [hp])) (fun p hp => HT25.out.kp.all p (by simp [HM2.out p hp])) HX2.out HL2n.out)
                (lv_fates HVB.out HQB.out (fun p hp => HT25.out.kp.all p (by simp [hp])) HL2n.out) (lvZ_ok os fs true i))
              clear hro hO25 hB25 hT25 hM8 HO1
              go_wp2_with fail
              refine HO2.out.mono ?_
              rintro e w26 ⟨u26, rfl, hO26, hB26⟩
              obtain ⟨jp, cp2, op2, rfl, hrp, hT26⟩ := HT25.out.newB hO26 hB26 (by omega)
              have HRp := Lib.hid hrp
              have HT26 := Lib.hid hT26
              clear hrp hO26 hB26 hT26 HO2
              go_wp2_with fail
              have hmz : D1.M.length = 64 * 512 := HML.out
              have q7 := lvM_blk os fs false D1.M hmz i
              have q8 := lvM_blk os fs true D1.M hmz i
              have k1 := ((HT26.out.drewN 1).rd 2 rfl HRi.out (by omega)).cut 3584 512 (by omega)
              rw [show (((lvM os fs i D1.M).drop 3584).take 512) = blkM (lvM os fs i D1.M) 7 from rfl, show blkM (lvM os fs i D1.M) 7 = ovQ (lvZ os fs false i) (blkM D1.M 7) from q7] at k1
              have k2 := ((HT26.out.drewN 1).rd 2 rfl HRi.out (by omega)).cut 4096 512 (by omega)
              rw [show (((lvM os fs i D1.M).drop 4096).take 512) = blkM (lvM os fs i D1.M) 8 from rfl, show blkM (lvM os fs i D1.M) 8 = ovQ (lvZ os fs true i) (blkM D1.M 8) from q8] at k2
              have k3 := ((HT26.out.drewN 1).rd 2 rfl HRi.out (by omega)).take 3584 (by omega)
              rw [lvM_take os fs D1.M hmz i] at k3
              have k4 := ((HT26.out.drewN 1).rd 2 rfl HRi.out (by omega)).cut 4608 28160 (by omega)
              rw [lvM_drop os fs D1.M hmz i] at k4
              have k5 := ((HT26.out.drewN 1).rd 3 rfl HRW.out (by omega)).take 3584 (by omega)
              have k6 := ((HT26.out.drewN 1).rd 3 rfl HRW.out (by omega)).cut 4608 28160 (by omega)
              have HS1 := Lib.hid (show Calls Try.prog 17 #[.slice (some ⟨ji, 3584, none⟩) 512 (ci - 3584), .slice (some ⟨jo, 0, none⟩) 512 co] w26.drew (fun e w' => e = .returned (.bool true) ∧ w' = w26.drew) from by
                have h9 := l6_same (some ⟨ji, 3584, none⟩) (some ⟨jo, 0, none⟩) 512 (ci - 3584) 512 co _ _ w26.drew k1 ((HT26.out.drewN 1).rd 1 rfl HRo.out (by omega))
                rw [decide_eq_true rfl] at h9
                exact h9)
              have HS2 := Lib.hid (show Calls Try.prog 17 #[.slice (some ⟨ji, 4096, none⟩) 512 (ci - 4096), .slice (some ⟨jp, 0, none⟩) 512 cp2] w26.drew (fun e w' => e = .returned (.bool true) ∧ w' = w26.drew) from by
                have h9 := l6_same (some ⟨ji, 4096, none⟩) (some ⟨jp, 0, none⟩) 512 (ci - 4096) 512 cp2 _ _ w26.drew k2 ((HT26.out.drewN 1).rd 0 rfl HRp.out (by omega))
                rw [decide_eq_true rfl] at h9
                exact h9)
              have HS3 := Lib.hid (show Calls Try.prog 17 #[.slice (some ⟨ji, 0, none⟩) 3584 ci, .slice (some ⟨jw, 0, none⟩) 3584 cw] w26.drew (fun e w' => e = .returned (.bool true) ∧ w' = w26.drew) from by
                have h9 := l6_same (some ⟨ji, 0, none⟩) (some ⟨jw, 0, none⟩) 3584 ci 3584 cw _ _ w26.drew k3 k5
                rw [decide_eq_true rfl] at h9
                exact h9)
              have HS4 := Lib.hid (show Calls Try.prog 17 #[.slice (some ⟨ji, 4608, none⟩) 28160 (ci - 4608), .slice (some ⟨jw, 4608, none⟩) 28160 (cw - 4608)] w26.drew (fun e w' => e = .returned (.bool true) ∧ w' = w26.drew) from by
                have h9 := l6_same (some ⟨ji, 4608, none⟩) (some ⟨jw, 4608, none⟩) 28160 (ci - 4608) 28160 (cw - 4608) _ _ w26.drew k4 k6
                rw [decide_eq_true rfl] at h9
                exact h9)
              clear q7 q8 k1 k2 k3 k4 k5 k6 hmz
              have hcb : ¬ ci = 4608 ∧ ¬ cw = 4608 ∧ ¬ ci = 3584 ∧ ¬ ci = 4096 ∧ (4096 : Int) ≤ (ci : Int) ∧ (4608 : Int) ≤ (ci : Int) ∧ (3584 : Int) ≤ (ci : Int) ∧ (3584 : Int) ≤ (cw : Int) ∧ 3584 ≤ ci ∧ 3584 ≤ cw ∧ 4608 ≤ ci ∧ 4096 ≤ ci := by omega
              go_region_held3 (fun _ => True) (trivial) ((go_at_call 17; first | (refine HS1.out.mono ?_; rintro e w27 ⟨rfl, h27⟩; subst h27; clear HS1) | (refine HS2.out.mono ?_; rintro e w27 ⟨rfl, h27⟩; subst h27; clear HS2) | (refine HS3.out.mono ?_; rintro e w27 ⟨rfl, h27⟩; subst h27; clear HS3) | (refine HS4.out.mono ?_; rintro e w27 ⟨rfl, h27⟩; subst h27; clear HS4)))
              all_goals go_wp2
              go_ret
              exact ⟨by simp, by first | exact HT26.out.bl | exact (HT26.out.drewN _).bl⟩
      · have hi8 : ¬ (i : Int) < (n : Int) := by omega
        clear hend hin
        have HCR := Lib.hid (st_Crash 0 0 none [] HT.out (Nat.le_trans HLE4.out.ca (by omega)) (RdF.nil _) (by simp))
        go_wp2_with fail
        refine HCR.out.mono ?_
        rintro e w8 ⟨rfl, vA, hT8⟩
        obtain ⟨D1, hD1⟩ : ∃ D1, D1 = crD D [] := ⟨_, rfl⟩
        have HN1 := Lib.hid (show D1.n = 64 by rw [hD1]; exact HN.out)
        have HL1 := Lib.hid (show D1.le 401 by rw [hD1]; exact crD_le [] HLE4.out)
        have HDF := Lib.hid (show D1.down = false ∧ D1.armed = false ∧ D1.left = 0 ∧ D1.C = [] by rw [hD1]; exact ⟨rfl, rfl, rfl, rfl⟩)
        rw [← hD1] at hT8
        have HM8 := Lib.hid (st_Med64 hT8 HN1.out)
        have HML := Lib.hid (show D1.M.length = 64 * 512 by rw [hT8.dv.dev.len, HN1.out])
        clear hT8 hD1 HCR
        go_wp2_with fail
        refine HM8.out.mono ?_
        rintro e w9 ⟨jw, cw, ow, rfl, hrw, hT9⟩
        have HRW := Lib.hid hrw
        have HTW := Lib.hid (show St w w9 b g vA (lvD D1 os 0) [(jw, ow)] from by
          have h9 : lvD D1 os 0 = D1 := by
            have := HDF.out.2.2.2
            unfold lvD
            rw [show lvC os 0 = [] from rfl, ← this]; rfl
          rw [h9]; exact hT9)
        clear hrw hT9 HM8
        go_wp2_with fail
        go_loopw [10, 11, 12, 13, 14, 15, 16, 17] (fun v1 v2 va vb x _ _ _ wx => ∃ i : Nat, ∃ v Q1 Q2 Qa Qb X1 X2 Rx, i ≤ n' ∧ i ≤ 20 ∧ x = .int .i64 i ∧ St w wx b g v (lvD D1 os i) ((jw, ow) :: (Q1 ++ (Q2 ++ (Qa ++ (Qb ++ Rx))))) ∧
            QV 29 1 v1 (lvZ os fs false i).length (svs X1) Q1 ∧ RowsX X1 (lvZ os fs false i) ∧ (∀ p ∈ X1, p ∈ Rx) ∧ QV 29 1 v2 (lvZ os fs true i).length (svs X2) Q2 ∧ RowsX X2 (lvZ os fs true i) ∧ (∀ p ∈ X2, p ∈ Rx) ∧
            QV 52 2 va (lvZ os fs false i).length (fv ((lvZ os fs false i).map Prod.snd)) Qa ∧ QV 52 2 vb (lvZ os fs true i).length (fv ((lvZ os fs true i).map Prod.snd)) Qb) (fun _ _ _ _ x _ _ _ _ => 20 - (intOf x).toNat)
        case atStart => exact ⟨0, vA, [], [], [], [], [], [], [], by omega, by omega, rfl, HTW.out, QV.nil _ _, RowsX.nil, by simp, QV.nil _ _, RowsX.nil, by simp, QV.nil _ _, QV.nil _ _⟩
        case round =>
          obtain ⟨i, v, Q1, Q2, Qa, Qb, X1, X2, Rx, hi, hi20, rfl, hT, hq1, hx1, hm1, hq2, hx2, hm2, hqa, hqb⟩ := hrel
          have HT := Lib.hid hT
          have HQ1 := Lib.hid hq1
          have HQ2 := Lib.hid hq2
          have HQA := Lib.hid hqa
          have HQB := Lib.hid hqb
          have HX1 := Lib.hid hx1
          have HX2 := Lib.hid hx2
          have HM1 := Lib.hid hm1
          have HM2 := Lib.hid hm2
          clear hT hq1 hx1 hm1 hq2 hx2 hm2 hqa hqb
          by_cases hin : i < n' ∧ i < 20
          · obtain ⟨hin, hi6⟩ := hin
            have hii : (0 : Int) ≤ (i : Int) ∧ (i : Int) < (n' : Int) ∧ (i : Int) < 20 := by omega
            have hcv := lv_conv i hi6
            have hw17 : IntKind.i64.wrap (17 * (i : Int)) = 17 * (i : Int) := IntWalk.i64_in _ (by omega)
            have hw20 : IntKind.i64.wrap (17 * (i : Int) + 3) = 17 * (i : Int) + 3 := IntWalk.i64_in _ (by omega)
            go_wp2_with fail
            refine (st_full (UInt8.ofNat (17 * i + 3)) HT.out).mono ?_
            rintro e w2 ⟨jx, ox, rfl, hrx, hT2⟩
            have HRx := Lib.hid hrx
            have HT2 := Lib.hid hT2
            clear hrx hT2 hcv hw17 hw20
            obtain ⟨bo, oo, rfl, hco⟩ := (HRB.out.ext HT2.out.bl).at_ (by omega)
            have hob := hco i hin
            clear hco
            have hfl := HRF.out.len
            have hfm := HRF.out.max
            obtain ⟨kd, hkd⟩ : ∃ kd, kd = (fs.getD i default).kind := ⟨_, rfl⟩
            obtain ⟨fa, hfa⟩ : ∃ fa, fa = (fs.getD i default).at_ := ⟨_, rfl⟩
            have HFE := Lib.hid (show fs.getD i default = ⟨kd, fa⟩ by rw [hkd, hfa])
            by_cases hif : i < n''
            · obtain ⟨bf, of, rfl, hcf⟩ := HRF.out.at_ (by omega)
              obtain ⟨hf1, hf2⟩ := hcf i hif
              have hf1 := cell_ext HT2.out.bl hf1
              have hf2 := cell_ext HT2.out.bl hf2
              rw [← hkd] at hf1
              rw [← hfa] at hf2
              have hifi : (i : Int) < (n'' : Int) := by omega
              have hf1 := cell_ext ((Below.refl _ w2).alloc (Nat.le_refl _) (.cells #[.int .i64 0, .int .i64 0] 52)) hf1
              have hf2 := cell_ext ((Below.refl _ w2).alloc (Nat.le_refl _) (.cells #[.int .i64 0, .int .i64 0] 52)) hf2
              have hob := cell_ext ((Below.refl _ w2).alloc (Nat.le_refl _) (.cells #[.int .i64 kd, .int .i64 fa] 52)) hob
              clear hcf hkd hfa
              obtain ⟨o4, ho4⟩ : ∃ o4 : Obj, o4 = (.cells #[.int .i64 (kd), .int .i64 (fa)] 52) := ⟨_, rfl⟩
              obtain ⟨jf, hjf⟩ : ∃ jf, jf = w2.heap.size := ⟨_, rfl⟩
              obtain ⟨W4, hW4⟩ : ∃ W4, W4 = w2.alloc (.cells #[.int .i64 (kd), .int .i64 (fa)] 52) := ⟨_, rfl⟩
              have HT4 := Lib.hid (show St w W4 b g v (lvD D1 os i) ((jf, o4) :: (jx, ox) :: (jw, ow) :: (Q1 ++ (Q2 ++ (Qa ++ (Qb ++ Rx))))) from by
                rw [hW4, hjf, ho4]
                exact HT2.out.new ((Below.refl _ w2).alloc (Nat.le_refl _) _) (Nat.le_refl _) (heap_alloc_new w2 _))
              cases hb : os.getD i false with
              | true =>
                rw [hb] at hob
                have HAT := Lib.hid (show lvAt os i = 8 by unfold lvAt; rw [hb]; rfl)
                have HZT := Lib.hid (show lvZ os fs true (i + 1) = lvZ os fs true i ++ [(lvF i, ⟨kd, fa⟩)] by rw [lvZ, if_pos hb, HFE.out])
                have HZF := Lib.hid (show lvZ os fs false (i + 1) = lvZ os fs false i by rw [lvZ, if_neg (by rw [hb]; decide)])
                have hlt : (lvZ os fs true i).length ≤ 20 := Nat.le_trans (lvZ_le os fs true i) (by omega)
                have HLT := Lib.hid hlt
                clear hb hlt
                go_upto_region 22 with fail
                rw [← hW4, ← hjf]
                clear hW4 hjf
                go_upto_region 23 with (at_builtin; refine wp_appQ HSL.out HISL.out.1 HISL.out.2.1 HISL.out.2.2.1 HISL.out.2.2.2 rfl (by omega) (P := (jf, o4) :: (jx, ox) :: (jw, ow) :: Q1) (Q := Q2) (T := Qa ++ (Qb ++ Rx)) HT4.out HQ2.out [.slice (some ⟨jx, 0, none⟩) 512 512] rfl (svs_one [(jx, ox)]) (by have := HLT.out; omega) (by have := HLT.out; simp only [maxLen]; omega) _ _ rfl rfl rfl rfl ?_; intro v5 w5 Q5 hq5 hT5; have HQ5 := Lib.hid hq5; have HT5 := Lib.hid (show St w w5 b g v (lvD D1 os i) ((jf, o4) :: (jx, ox) :: (jw, ow) :: (Q1 ++ (Q5 ++ (Qa ++ (Qb ++ Rx))))) from hT5); clear hq5 hT5)
                have hg0 : w5.cell? ⟨jf, 0, none⟩ = some (.int .i64 (kd)) := by
                  have h9 := HT5.out.get 0 rfl
                  rw [ho4] at h9
                  exact cell_of_row w5 jf 0 _ _ _ h9
                have hg1 : w5.cell? ⟨jf, 1, none⟩ = some (.int .i64 (fa)) := by
                  have h9 := HT5.out.get 0 rfl
                  rw [ho4] at h9
                  exact cell_of_row w5 jf 1 _ _ _ h9
                have HT5b := Lib.hid (show St w w5 b g v (lvD D1 os i) (((jf, o4) :: (jx, ox) :: (jw, ow) :: (Q1 ++ (Q5 ++ Qa))) ++ (Qb ++ (Rx))) from by
                  have h9 := HT5.out
                  simp only [List.cons_append, List.append_assoc, List.nil_append] at h9 ⊢
                  exact h9)
                go_upto_region 26 with (at_builtin; refine wp_appQ HFT.out HIFT.out.1 HIFT.out.2.1 HIFT.out.2.2.1 HIFT.out.2.2.2 rfl (by omega) (P := (jf, o4) :: (jx, ox) :: (jw, ow) :: (Q1 ++ (Q5 ++ Qa))) (Q := Qb) (T := Rx) HT5b.out HQB.out [.int .i64 (kd), .int .i64 (fa)] rfl (by intro u hu; simp at hu; rcases hu with rfl | rfl <;> rfl) (by have := HLT.out; omega) (by have := HLT.out; simp only [maxLen]; omega) _ _ rfl rfl rfl rfl ?_; intro v6 w6 Q6 hq6 hT6; have HQ6 := Lib.hid hq6; have HT6 := Lib.hid hT6; clear hq6 hT6)
                clear hg0 hg1
                have HT6b := Lib.hid (show St w w6 b g v (lvD D1 os i) ((jf, o4) :: (jx, ox) :: (jw, ow) :: (Q1 ++ (Q5 ++ (Qa ++ (Q6 ++ Rx))))) from by
                  have h9 := HT6.out
                  simp only [List.cons_append, List.append_assoc, List.nil_append] at h9 ⊢
                  exact h9)
                have HRD6 := Lib.hid (HT6b.out.rd 1 rfl HRx.out (by omega))
                go_wp2_with (at_builtin; refine wp_app (w0 := w6) w6.heap.size (Own.nil _ _) HRD6.out (Below.refl _ _) (Nat.le_refl _) (by omega) _ _ rfl rfl rfl rfl ?_; intro v7 w7 hO7 hB7 hG7 hA7; have HO7 := Lib.hid hO7; have HB7 := Lib.hid hB7; clear hO7 hB7 hG7 hA7)
                have hO7 := HO7.out
                rw [Nat.zero_add, List.nil_append] at hO7
                obtain ⟨jc, cc, oc, rfl, hrc, hT7⟩ := HT6b.out.newB hO7 HB7.out (by omega)
                have HW7 := Lib.hid (st_Write 0 8 512 hT7 rfl hrc (by omega) (by omega) (by show D1.left < _; rw [HDF.out.2.2.1]; omega) (by show (lvC os i).length ≤ _; rw [lvC_len]; omega) (by show D1.wr + i < _; have := HL1.out.wr; omega))
                have hwr := lv_wr os i HN1.out HDF.out.1 HDF.out.2.1
                rw [HAT.out] at hwr
                rw [show (List.replicate 512 (UInt8.ofNat (17 * i + 3))).take 512 = lvF i from List.take_of_length_le (by simp), show wrD (lvD D1 os i) 8 (lvF i) = (0, lvD D1 os (i + 1)) from hwr] at HW7
                clear hO7 hrc hT7 hwr
                refine HW7.out.mono ?_
                rintro e w8 ⟨rfl, v8, hT8⟩
                have HTE := Lib.hid (show St w w8 b g v8 (lvD D1 os (i + 1)) ((jw, ow) :: (Q1 ++ (Q5 ++ (Qa ++ (Q6 ++ (Rx ++ [(jx, ox)])))))) from by
                  have h9 : St w w8 b g v8 (lvD D1 os (i + 1)) ((jx, ox) :: (jw, ow) :: (Q1 ++ (Q5 ++ (Qa ++ (Q6 ++ Rx))))) := hT8.sub ((List.sublist_cons_self _ _).trans (List.sublist_cons_self _ _))
                  have h8 := h9.back
                  simp only [List.cons_append, List.append_assoc, List.nil_append] at h8 ⊢
                  exact h8)
                clear hT8 HW7
                go_wp2
                go_roundw
                case rel => exact ⟨i + 1, v8, Q1, Q5, Qa, Q6, X1, X2 ++ [(jx, ox)], Rx ++ [(jx, ox)], by omega, by omega, by go_num, HTE.out, by rw [HZF.out]; exact HQ1.out, by rw [HZF.out]; exact HX1.out, (fun p hp => List.mem_append_left _ (HM1.out p hp)), by rw [HZT.out, List.length_append, svs_snoc]; exact HQ5.out, by rw [HZT.out]; exact HX2.out.snoc HRx.out, (fun p hp => by rcases List.mem_append.1 hp with hp | hp; exact List.mem_append_left _ (HM2.out p hp); exact List.mem_append_right _ hp), by rw [HZF.out]; exact HQA.out, by rw [HZT.out, List.length_append, fvz_snoc]; exact HQ6.out⟩
                case measure => simp [intOf]; omega
              | false =>
                rw [hb] at hob
                have HAT := Lib.hid (show lvAt os i = 7 by unfold lvAt; rw [hb]; rfl)
                have HZT := Lib.hid (show lvZ os fs false (i + 1) = lvZ os fs false i ++ [(lvF i, ⟨kd, fa⟩)] by rw [lvZ, if_pos hb, HFE.out])
                have HZF := Lib.hid (show lvZ os fs true (i + 1) = lvZ os fs true i by rw [lvZ, if_neg (by rw [hb]; decide)])
                have hlt : (lvZ os fs false i).length ≤ 20 := Nat.le_trans (lvZ_le os fs false i) (by omega)
                have HLT := Lib.hid hlt
                clear hb hlt
                go_upto_region 24 with fail
                rw [← hW4, ← hjf]
                clear hW4 hjf
                go_upto_region 25 with (at_builtin; refine wp_appQ HSL.out HISL.out.1 HISL.out.2.1 HISL.out.2.2.1 HISL.out.2.2.2 rfl (by omega) (P := [(jf, o4), (jx, ox), (jw, ow)]) (Q := Q1) (T := Q2 ++ (Qa ++ (Qb ++ Rx))) HT4.out HQ1.out [.slice (some ⟨jx, 0, none⟩) 512 512] rfl (svs_one [(jx, ox)]) (by have := HLT.out; omega) (by have := HLT.out; simp only [maxLen]; omega) _ _ rfl rfl rfl rfl ?_; intro v5 w5 Q5 hq5 hT5; have HQ5 := Lib.hid hq5; have HT5 := Lib.hid (show St w w5 b g v (lvD D1 os i) ((jf, o4) :: (jx, ox) :: (jw, ow) :: (Q5 ++ (Q2 ++ (Qa ++ (Qb ++ Rx))))) from hT5); clear hq5 hT5)
                have hg0 : w5.cell? ⟨jf, 0, none⟩ = some (.int .i64 (kd)) := by
                  have h9 := HT5.out.get 0 rfl
                  rw [ho4] at h9
                  exact cell_of_row w5 jf 0 _ _ _ h9
                have hg1 : w5.cell? ⟨jf, 1, none⟩ = some (.int .i64 (fa)) := by
                  have h9 := HT5.out.get 0 rfl
                  rw [ho4] at h9
                  exact cell_of_row w5 jf 1 _ _ _ h9
                have HT5b := Lib.hid (show St w w5 b g v (lvD D1 os i) (((jf, o4) :: (jx, ox) :: (jw, ow) :: (Q5 ++ Q2)) ++ (Qa ++ (Qb ++ Rx))) from by
                  have h9 := HT5.out
                  simp only [List.cons_append, List.append_assoc, List.nil_append] at h9 ⊢
                  exact h9)
                go_upto_region 26 with (at_builtin; refine wp_appQ HFT.out HIFT.out.1 HIFT.out.2.1 HIFT.out.2.2.1 HIFT.out.2.2.2 rfl (by omega) (P := (jf, o4) :: (jx, ox) :: (jw, ow) :: (Q5 ++ Q2)) (Q := Qa) (T := Qb ++ Rx) HT5b.out HQA.out [.int .i64 (kd), .int .i64 (fa)] rfl (by intro u hu; simp at hu; rcases hu with rfl | rfl <;> rfl) (by have := HLT.out; omega) (by have := HLT.out; simp only [maxLen]; omega) _ _ rfl rfl rfl rfl ?_; intro v6 w6 Q6 hq6 hT6; have HQ6 := Lib.hid hq6; have HT6 := Lib.hid hT6; clear hq6 hT6)
                clear hg0 hg1
                have HT6b := Lib.hid (show St w w6 b g v (lvD D1 os i) ((jf, o4) :: (jx, ox) :: (jw, ow) :: (Q5 ++ (Q2 ++ (Q6 ++ (Qb ++ Rx))))) from by
                  have h9 := HT6.out
                  simp only [List.cons_append, List.append_assoc, List.nil_append] at h9 ⊢
                  exact h9)
                have HRD6 := Lib.hid (HT6b.out.rd 1 rfl HRx.out (by omega))
                go_wp2_with (at_builtin; refine wp_app (w0 := w6) w6.heap.size (Own.nil _ _) HRD6.out (Below.refl _ _) (Nat.le_refl _) (by omega) _ _ rfl rfl rfl rfl ?_; intro v7 w7 hO7 hB7 hG7 hA7; have HO7 := Lib.hid hO7; have HB7 := Lib.hid hB7; clear hO7 hB7 hG7 hA7)
                have hO7 := HO7.out
                rw [Nat.zero_add, List.nil_append] at hO7
                obtain ⟨jc, cc, oc, rfl, hrc, hT7⟩ := HT6b.out.newB hO7 HB7.out (by omega)
                have HW7 := Lib.hid (st_Write 0 7 512 hT7 rfl hrc (by omega) (by omega) (by show D1.left < _; rw [HDF.out.2.2.1]; omega) (by show (lvC os i).length ≤ _; rw [lvC_len]; omega) (by show D1.wr + i < _; have := HL1.out.wr; omega))
                have hwr := lv_wr os i HN1.out HDF.out.1 HDF.out.2.1
                rw [HAT.out] at hwr
                rw [show (List.replicate 512 (UInt8.ofNat (17 * i + 3))).take 512 = lvF i from List.take_of_length_le (by simp), show wrD (lvD D1 os i) 7 (lvF i) = (0, lvD D1 os (i + 1)) from hwr] at HW7
                clear hO7 hrc hT7 hwr
                refine HW7.out.mono ?_
                rintro e w8 ⟨rfl, v8, hT8⟩
                have HTE := Lib.hid (show St w w8 b g v8 (lvD D1 os (i + 1)) ((jw, ow) :: (Q5 ++ (Q2 ++ (Q6 ++ (Qb ++ (Rx ++ [(jx, ox)])))))) from by
                  have h9 : St w w8 b g v8 (lvD D1 os (i + 1)) ((jx, ox) :: (jw, ow) :: (Q5 ++ (Q2 ++ (Q6 ++ (Qb ++ Rx))))) := hT8.sub ((List.sublist_cons_self _ _).trans (List.sublist_cons_self _ _))
                  have h8 := h9.back
                  simp only [List.cons_append, List.append_assoc, List.nil_append] at h8 ⊢
                  exact h8)
                clear hT8 HW7
                go_wp2
                go_roundw
                case rel => exact ⟨i + 1, v8, Q5, Q2, Q6, Qb, X1 ++ [(jx, ox)], X2, Rx ++ [(jx, ox)], by omega, by omega, by go_num, HTE.out, by rw [HZT.out, List.length_append, svs_snoc]; exact HQ5.out, by rw [HZT.out]; exact HX1.out.snoc HRx.out, (fun p hp => by rcases List.mem_append.1 hp with hp | hp; exact List.mem_append_left _ (HM1.out p hp); exact List.mem_append_right _ hp), by rw [HZF.out]; exact HQ2.out, by rw [HZF.out]; exact HX2.out, (fun p hp => List.mem_append_left _ (HM2.out p hp)), by rw [HZT.out, List.length_append, fvz_snoc]; exact HQ6.out, by rw [HZF.out]; exact HQB.out⟩
                case measure => simp [intOf]; omega

            · have HKD := Lib.hid (show kd = 0 ∧ fa = 0 by
                have h9 : fs.getD i default = (default : Ft) := by rw [List.getD_eq_getElem?_getD, List.getElem?_eq_none (by omega)]; rfl
                rw [h9] at hkd hfa
                exact ⟨hkd, hfa⟩)
              have hob := cell_ext ((Below.refl _ w2).alloc (Nat.le_refl _) (.cells #[.int .i64 0, .int .i64 0] 52)) hob
              have hifi : ¬ (i : Int) < (n'' : Int) := by omega
              clear hkd hfa
              obtain ⟨rfl, rfl⟩ := HKD.out
              obtain ⟨o4, ho4⟩ : ∃ o4 : Obj, o4 = (.cells #[.int .i64 (0), .int .i64 (0)] 52) := ⟨_, rfl⟩
              obtain ⟨jf, hjf⟩ : ∃ jf, jf = w2.heap.size := ⟨_, rfl⟩
              obtain ⟨W4, hW4⟩ : ∃ W4, W4 = w2.alloc (.cells #[.int .i64 (0), .int .i64 (0)] 52) := ⟨_, rfl⟩
              have HT4 := Lib.hid (show St w W4 b g v (lvD D1 os i) ((jf, o4) :: (jx, ox) :: (jw, ow) :: (Q1 ++ (Q2 ++ (Qa ++ (Qb ++ Rx))))) from by
                rw [hW4, hjf, ho4]
                exact HT2.out.new ((Below.refl _ w2).alloc (Nat.le_refl _) _) (Nat.le_refl _) (heap_alloc_new w2 _))
              cases hb : os.getD i false with
              | true =>
                rw [hb] at hob
                have HAT := Lib.hid (show lvAt os i = 8 by unfold lvAt; rw [hb]; rfl)
                have HZT := Lib.hid (show lvZ os fs true (i + 1) = lvZ os fs true i ++ [(lvF i, ⟨0, 0⟩)] by rw [lvZ, if_pos hb, HFE.out])
                have HZF := Lib.hid (show lvZ os fs false (i + 1) = lvZ os fs false i by rw [lvZ, if_neg (by rw [hb]; decide)])
                have hlt : (lvZ os fs true i).length ≤ 20 := Nat.le_trans (lvZ_le os fs true i) (by omega)
                have HLT := Lib.hid hlt
                clear hb hlt
                go_upto_region 22 with fail
                rw [← hW4, ← hjf]
                clear hW4 hjf
                go_upto_region 23 with (at_builtin; refine wp_appQ HSL.out HISL.out.1 HISL.out.2.1 HISL.out.2.2.1 HISL.out.2.2.2 rfl (by omega) (P := (jf, o4) :: (jx, ox) :: (jw, ow) :: Q1) (Q := Q2) (T := Qa ++ (Qb ++ Rx)) HT4.out HQ2.out [.slice (some ⟨jx, 0, none⟩) 512 512] rfl (svs_one [(jx, ox)]) (by have := HLT.out; omega) (by have := HLT.out; simp only [maxLen]; omega) _ _ rfl rfl rfl rfl ?_; intro v5 w5 Q5 hq5 hT5; have HQ5 := Lib.hid hq5; have HT5 := Lib.hid (show St w w5 b g v (lvD D1 os i) ((jf, o4) :: (jx, ox) :: (jw, ow) :: (Q1 ++ (Q5 ++ (Qa ++ (Qb ++ Rx))))) from hT5); clear hq5 hT5)
                have hg0 : w5.cell? ⟨jf, 0, none⟩ = some (.int .i64 (0)) := by
                  have h9 := HT5.out.get 0 rfl
                  rw [ho4] at h9
                  exact cell_of_row w5 jf 0 _ _ _ h9
                have hg1 : w5.cell? ⟨jf, 1, none⟩ = some (.int .i64 (0)) := by
                  have h9 := HT5.out.get 0 rfl
                  rw [ho4] at h9
                  exact cell_of_row w5 jf 1 _ _ _ h9
                have HT5b := Lib.hid (show St w w5 b g v (lvD D1 os i) (((jf, o4) :: (jx, ox) :: (jw, ow) :: (Q1 ++ (Q5 ++ Qa))) ++ (Qb ++ (Rx))) from by
                  have h9 := HT5.out
                  simp only [List.cons_append, List.append_assoc, List.nil_append] at h9 ⊢
                  exact h9)
                go_upto_region 26 with (at_builtin; refine wp_appQ HFT.out HIFT.out.1 HIFT.out.2.1 HIFT.out.2.2.1 HIFT.out.2.2.2 rfl (by omega) (P := (jf, o4) :: (jx, ox) :: (jw, ow) :: (Q1 ++ (Q5 ++ Qa))) (Q := Qb) (T := Rx) HT5b.out HQB.out [.int .i64 (0), .int .i64 (0)] rfl (by intro u hu; simp at hu; rcases hu with rfl | rfl <;> rfl) (by have := HLT.out; omega) (by have := HLT.out; simp only [maxLen]; omega) _ _ rfl rfl rfl rfl ?_; intro v6 w6 Q6 hq6 hT6; have HQ6 := Lib.hid hq6; have HT6 := Lib.hid hT6; clear hq6 hT6)
                clear hg0 hg1
                have HT6b := Lib.hid (show St w w6 b g v (lvD D1 os i) ((jf, o4) :: (jx, ox) :: (jw, ow) :: (Q1 ++ (Q5 ++ (Qa ++ (Q6 ++ Rx))))) from by
                  have h9 := HT6.out
                  simp only [List.cons_append, List.append_assoc, List.nil_append] at h9 ⊢
                  exact h9)
                have HRD6 := Lib.hid (HT6b.out.rd 1 rfl HRx.out (by omega))
                go_wp2_with (at_builtin; refine wp_app (w0 := w6) w6.heap.size (Own.nil _ _) HRD6.out (Below.refl _ _) (Nat.le_refl _) (by omega) _ _ rfl rfl rfl rfl ?_; intro v7 w7 hO7 hB7 hG7 hA7; have HO7 := Lib.hid hO7; have HB7 := Lib.hid hB7; clear hO7 hB7 hG7 hA7)
                have hO7 := HO7.out
                rw [Nat.zero_add, List.nil_append] at hO7
                obtain ⟨jc, cc, oc, rfl, hrc, hT7⟩ := HT6b.out.newB hO7 HB7.out (by omega)
                have HW7 := Lib.hid (st_Write 0 8 512 hT7 rfl hrc (by omega) (by omega) (by show D1.left < _; rw [HDF.out.2.2.1]; omega) (by show (lvC os i).length ≤ _; rw [lvC_len]; omega) (by show D1.wr + i < _; have := HL1.out.wr; omega))
                have hwr := lv_wr os i HN1.out HDF.out.1 HDF.out.2.1
                rw [HAT.out] at hwr
                rw [show (List.replicate 512 (UInt8.ofNat (17 * i + 3))).take 512 = lvF i from List.take_of_length_le (by simp), show wrD (lvD D1 os i) 8 (lvF i) = (0, lvD D1 os (i + 1)) from hwr] at HW7
                clear hO7 hrc hT7 hwr
                refine HW7.out.mono ?_
                rintro e w8 ⟨rfl, v8, hT8⟩
                have HTE := Lib.hid (show St w w8 b g v8 (lvD D1 os (i + 1)) ((jw, ow) :: (Q1 ++ (Q5 ++ (Qa ++ (Q6 ++ (Rx ++ [(jx, ox)])))))) from by
                  have h9 : St w w8 b g v8 (lvD D1 os (i + 1)) ((jx, ox) :: (jw, ow) :: (Q1 ++ (Q5 ++ (Qa ++ (Q6 ++ Rx))))) := hT8.sub ((List.sublist_cons_self _ _).trans (List.sublist_cons_self _ _))
                  have h8 := h9.back
                  simp only [List.cons_append, List.append_assoc, List.nil_append] at h8 ⊢
                  exact h8)
                clear hT8 HW7
                go_wp2
                go_roundw
                case rel => exact ⟨i + 1, v8, Q1, Q5, Qa, Q6, X1, X2 ++ [(jx, ox)], Rx ++ [(jx, ox)], by omega, by omega, by go_num, HTE.out, by rw [HZF.out]; exact HQ1.out, by rw [HZF.out]; exact HX1.out, (fun p hp => List.mem_append_left _ (HM1.out p hp)), by rw [HZT.out, List.length_append, svs_snoc]; exact HQ5.out, by rw [HZT.out]; exact HX2.out.snoc HRx.out, (fun p hp => by rcases List.mem_append.1 hp with hp | hp; exact List.mem_append_left _ (HM2.out p hp); exact List.mem_append_right _ hp), by rw [HZF.out]; exact HQA.out, by rw [HZT.out, List.length_append, fvz_snoc]; exact HQ6.out⟩
                case measure => simp [intOf]; omega
              | false =>
                rw [hb] at hob
                have HAT := Lib.hid (show lvAt os i = 7 by unfold lvAt; rw [hb]; rfl)
                have HZT := Lib.hid (show lvZ os fs false (i + 1) = lvZ os fs false i ++ [(lvF i, ⟨0, 0⟩)] by rw [lvZ, if_pos hb, HFE.out])
                have HZF := Lib.hid (show lvZ os fs true (i + 1) = lvZ os fs true i by rw [lvZ, if_neg (by rw [hb]; decide)])
                have hlt : (lvZ os fs false i).length ≤ 20 := Nat.le_trans (lvZ_le os fs false i) (by omega)
                have HLT := Lib.hid hlt
                clear hb hlt
                go_upto_region 24 with fail
                rw [← hW4, ← hjf]
                clear hW4 hjf
                go_upto_region 25 with (at_builtin; refine wp_appQ HSL.out HISL.out.1 HISL.out.2.1 HISL.out.2.2.1 HISL.out.2.2.2 rfl (by omega) (P := [(jf, o4), (jx, ox), (jw, ow)]) (Q := Q1) (T := Q2 ++ (Qa ++ (Qb ++ Rx))) HT4.out HQ1.out [.slice (some ⟨jx, 0, none⟩) 512 512] rfl (svs_one [(jx, ox)]) (by have := HLT.out; omega) (by have := HLT.out; simp only [maxLen]; omega) _ _ rfl rfl rfl rfl ?_; intro v5 w5 Q5 hq5 hT5; have HQ5 := Lib.hid hq5; have HT5 := Lib.hid (show St w w5 b g v (lvD D1 os i) ((jf, o4) :: (jx, ox) :: (jw, ow) :: (Q5 ++ (Q2 ++ (Qa ++ (Qb ++ Rx))))) from hT5); clear hq5 hT5)
                have hg0 : w5.cell? ⟨jf, 0, none⟩ = some (.int .i64 (0)) := by
                  have h9 := HT5.out.get 0 rfl
                  rw [ho4] at h9
                  exact cell_of_row w5 jf 0 _ _ _ h9
                have hg1 : w5.cell? ⟨jf, 1, none⟩ = some (.int .i64 (0)) := by
                  have h9 := HT5.out.get 0 rfl
                  rw [ho4] at h9
                  exact cell_of_row w5 jf 1 _ _ _ h9
                have HT5b := Lib.hid (show St w w5 b g v (lvD D1 os i) (((jf, o4) :: (jx, ox) :: (jw, ow) :: (Q5 ++ Q2)) ++ (Qa ++ (Qb ++ Rx))) from by
                  have h9 := HT5.out
                  simp only [List.cons_append, List.append_assoc, List.nil_append] at h9 ⊢
                  exact h9)
                go_upto_region 26 with (at_builtin; refine wp_appQ HFT.out HIFT.out.1 HIFT.out.2.1 HIFT.out.2.2.1 HIFT.out.2.2.2 rfl (by omega) (P := (jf, o4) :: (jx, ox) :: (jw, ow) :: (Q5 ++ Q2)) (Q := Qa) (T := Qb ++ Rx) HT5b.out HQA.out [.int .i64 (0), .int .i64 (0)] rfl (by intro u hu; simp at hu; rcases hu with rfl | rfl <;> rfl) (by have := HLT.out; omega) (by have := HLT.out; simp only [maxLen]; omega) _ _ rfl rfl rfl rfl ?_; intro v6 w6 Q6 hq6 hT6; have HQ6 := Lib.hid hq6; have HT6 := Lib.hid hT6; clear hq6 hT6)
                clear hg0 hg1
                have HT6b := Lib.hid (show St w w6 b g v (lvD D1 os i) ((jf, o4) :: (jx, ox) :: (jw, ow) :: (Q5 ++ (Q2 ++ (Q6 ++ (Qb ++ Rx))))) from by
                  have h9 := HT6.out
                  simp only [List.cons_append, List.append_assoc, List.nil_append] at h9 ⊢
                  exact h9)
                have HRD6 := Lib.hid (HT6b.out.rd 1 rfl HRx.out (by omega))
                go_wp2_with (at_builtin; refine wp_app (w0 := w6) w6.heap.size (Own.nil _ _) HRD6.out (Below.refl _ _) (Nat.le_refl _) (by omega) _ _ rfl rfl rfl rfl ?_; intro v7 w7 hO7 hB7 hG7 hA7; have HO7 := Lib.hid hO7; have HB7 := Lib.hid hB7; clear hO7 hB7 hG7 hA7)
                have hO7 := HO7.out
                rw [Nat.zero_add, List.nil_append] at hO7
                obtain ⟨jc, cc, oc, rfl, hrc, hT7⟩ := HT6b.out.newB hO7 HB7.out (by omega)
                have HW7 := Lib.hid (st_Write 0 7 512 hT7 rfl hrc (by omega) (by omega) (by show D1.left < _; rw [HDF.out.2.2.1]; omega) (by show (lvC os i).length ≤ _; rw [lvC_len]; omega) (by show D1.wr + i < _; have := HL1.out.wr; omega))
                have hwr := lv_wr os i HN1.out HDF.out.1 HDF.out.2.1
                rw [HAT.out] at hwr
                rw [show (List.replicate 512 (UInt8.ofNat (17 * i + 3))).take 512 = lvF i from List.take_of_length_le (by simp), show wrD (lvD D1 os i) 7 (lvF i) = (0, lvD D1 os (i + 1)) from hwr] at HW7
                clear hO7 hrc hT7 hwr
                refine HW7.out.mono ?_
                rintro e w8 ⟨rfl, v8, hT8⟩
                have HTE := Lib.hid (show St w w8 b g v8 (lvD D1 os (i + 1)) ((jw, ow) :: (Q5 ++ (Q2 ++ (Q6 ++ (Qb ++ (Rx ++ [(jx, ox)])))))) from by
                  have h9 : St w w8 b g v8 (lvD D1 os (i + 1)) ((jx, ox) :: (jw, ow) :: (Q5 ++ (Q2 ++ (Q6 ++ (Qb ++ Rx))))) := hT8.sub ((List.sublist_cons_self _ _).trans (List.sublist_cons_self _ _))
                  have h8 := h9.back
                  simp only [List.cons_append, List.append_assoc, List.nil_append] at h8 ⊢
                  exact h8)
                clear hT8 HW7
                go_wp2
                go_roundw
                case rel => exact ⟨i + 1, v8, Q5, Q2, Q6, Qb, X1 ++ [(jx, ox)], X2, Rx ++ [(jx, ox)], by omega, by omega, by go_num, HTE.out, by rw [HZT.out, List.length_append, svs_snoc]; exact HQ5.out, by rw [HZT.out]; exact HX1.out.snoc HRx.out, (fun p hp => by rcases List.mem_append.1 hp with hp | hp; exact List.mem_append_left _ (HM1.out p hp); exact List.mem_append_right _ hp), by rw [HZF.out]; exact HQ2.out, by rw [HZF.out]; exact HX2.out, (fun p hp => List.mem_append_left _ (HM2.out p hp)), by rw [HZT.out, List.length_append, fvz_snoc]; exact HQ6.out, by rw [HZF.out]; exact HQB.out⟩
                case measure => simp [intOf]; omega

          · have hend : ¬ ((i : Int) < (n' : Int) ∧ (i : Int) < 20) := by omega
            by_cases hin2 : i < n'
            · have hi7 : ¬ (i : Int) < 20 := by omega
              have hi8 : (i : Int) < (n' : Int) := by omega
              clear hend hin
              obtain ⟨B1, e1, hB1⟩ := HQ1.out.slice
              obtain ⟨B2, e2, hB2⟩ := HQ2.out.slice
              obtain ⟨Ba, ea, hBa⟩ := HQA.out.slice
              obtain ⟨Bb, eb, hBb⟩ := HQB.out.slice
              have HV1 := Lib.hid hB1
              have HV2 := Lib.hid hB2
              have HVA := Lib.hid hBa
              have HVB := Lib.hid hBb
              rw [hB1, hB2, hBa, hBb]
              have HL1n := Lib.hid (show (lvZ os fs false i).length ≤ 1000 from Nat.le_trans (lvZ_le os fs false i) (by omega))
              have HL2n := Lib.hid (show (lvZ os fs true i).length ≤ 1000 from Nat.le_trans (lvZ_le os fs true i) (by omega))
              have HRFw := Lib.hid (HRF.out.ext HT.out.bl)
              obtain ⟨DL, hDL⟩ : ∃ DL, DL = crD (lvD D1 os i) fs := ⟨_, rfl⟩
              have HDN := Lib.hid (show DL.n = 64 by rw [hDL]; exact HN1.out)
              have HDM := Lib.hid (show DL.M = lvM os fs i D1.M by rw [hDL]; rfl)
              have HDC := Lib.hid (show DL.C.length = 0 ∧ DL.down = false by rw [hDL]; exact ⟨rfl, rfl⟩)
              have HDL := Lib.hid hDL
              obtain ⟨L1, hL1⟩ : ∃ L1, L1 = (lvZ os fs false i).length := ⟨_, rfl⟩
              obtain ⟨L2, hL2⟩ : ∃ L2, L2 = (lvZ os fs true i).length := ⟨_, rfl⟩
              rw [← hL1, ← hL2]
              rw [← hL1] at HQ1 HQA HV1 HVA HL1n
              rw [← hL2] at HQ2 HQB HV2 HVB HL2n
              clear hB1 hB2 hBa hBb hDL hL1 hL2
              go_wp2_with (at_builtin; refine wp_appF HRFw.out hz _ _ rfl rfl rfl rfl ?_; intro AF cF w20 hRF hBF hxF; have HTF := Lib.hid (HT.out.below hBF); have HCF := Lib.hid (st_Crash n'' cF AF fs HTF.out (by show (lvC os i).length ≤ _; rw [lvC_len]; omega) hRF (fun _ p hp hm => by (have h7 := HT.out.dv.lt _ hm); (have h8 := hxF p hp); omega)); clear hRF hBF hxF)
              rw [← HDL.out] at HCF
              refine HCF.out.mono ?_
              rintro e w21 ⟨rfl, v21, hT21⟩
              have HT21 := Lib.hid hT21
              have HM21 := Lib.hid (st_Med64 hT21 HDN.out)
              rw [HDM.out] at HM21
              clear hT21 HCF
              go_wp2_with fail
              refine HM21.out.mono ?_
              rintro e w22 ⟨ji, ci, oi, rfl, hri, hT22⟩
              have HRi := Lib.hid hri
              have HT22 := Lib.hid hT22
              have HP22 := Lib.hid (st_PendN hT22 (by rw [HDC.out.1]; omega))
              rw [HDC.out.1] at HP22
              clear hri hT22 HM21
              go_wp2_with fail
              refine HP22.out.mono ?_
              rintro e w23 ⟨Ap, cp, Rp, rfl, _, hT23⟩
              have HT23 := Lib.hid (hT23.sub (List.sublist_append_left _ _))
              have HD23 := Lib.hid (dv_Down w23 b g v21 DL HT23.out.dv)
              rw [HDC.out.2] at HD23
              clear hT23 HP22
              go_wp2_with fail
              refine HD23.out.mono ?_
              rintro e w24 ⟨rfl, rfl⟩
              clear HD23
              have hM7 : ((D1.M.drop 3584).take 512) = blkM D1.M 7 := rfl
              have hM8 : ((D1.M.drop 4096).take 512) = blkM D1.M 8 := rfl
              have HRb1 := Lib.hid ((HT23.out.rd 1 rfl HRW.out (by omega)).cut 3584 512 (by omega))
              rw [hM7] at HRb1
              have HO1 := Lib.hid (l6_over w24 (some ⟨jw, 3584, none⟩) B1 Ba (cw - 3584) L1 e1 ea (blkM D1.M 7) (lvZ os fs false i) HRb1.out
                (lv_slice HV1.out HQ1.out (fun p hp => HT23.out.kp.all p (by simp [hp])) (fun p hp => HT23.out.kp.all p (by simp [HM1.out p hp])) HX1.out HL1n.out)
                (lv_fates HVA.out HQA.out (fun p hp => HT23.out.kp.all p (by simp [hp])) HL1n.out) (lvZ_ok os fs false i))
              have hcw : (32768 : Int) ≤ (cw : Int) ∧ 32768 ≤ cw := by have := HRW.out.cap; omega
              have hci : (32768 : Int) ≤ (ci : Int) ∧ 32768 ≤ ci := by have := HRi.out.cap; omega
              clear hM7
              go_wp2_with fail
              refine HO1.out.mono ?_
              rintro e w25 ⟨u25, rfl, hO25, hB25⟩
              obtain ⟨jo, co, oo1, rfl, hro, hT25⟩ := HT23.out.newB hO25 hB25 (by omega)
              have HRo := Lib.hid hro
              have HT25 := Lib.hid hT25
              have HRb2 := Lib.hid ((hT25.rd 2 rfl HRW.out (by omega)).cut 4096 512 (by omega))
              rw [hM8] at HRb2
              have HO2 := Lib.hid (l6_over w25 (some ⟨jw, 4096, none⟩) B2 Bb (cw - 4096) L2 e2 eb (blkM D1.M 8) (lvZ os fs true i) HRb2.out
                (lv_slice HV2.out HQ2.out (fun p hp => HT25.out.kp.all p (by simp [hp])) (fun p hp => HT25.out.kp.all p (by simp [HM2.out p hp])) HX2.out HL2n.out)
                (lv_fates HVB.out HQB.out (fun p hp => HT25.out.kp.all p (by simp [hp])) HL2n.out) (lvZ_ok os fs true i))
              clear hro hO25 hB25 hT25 hM8 HO1
              go_wp2_with fail
              refine HO2.out.mono ?_
              rintro e w26 ⟨u26, rfl, hO26, hB26⟩
              obtain ⟨jp, cp2, op2, rfl, hrp, hT26⟩ := HT25.out.newB hO26 hB26 (by omega)
              have HRp := Lib.hid hrp
              have HT26 := Lib.hid hT26
              clear hrp hO26 hB26 hT26 HO2
              go_wp2_with fail
              have hmz : D1.M.length = 64 * 512 := HML.out
              have q7 := lvM_blk os fs false D1.M hmz i
              have q8 := lvM_blk os fs true D1.M hmz i
              have k1 := ((HT26.out.drewN 1).rd 2 rfl HRi.out (by omega)).cut 3584 512 (by omega)
              rw [show (((lvM os fs i D1.M).drop 3584).take 512) = blkM (lvM os fs i D1.M) 7 from rfl, show blkM (lvM os fs i D1.M) 7 = ovQ (lvZ os fs false i) (blkM D1.M 7) from q7] at k1
              have k2 := ((HT26.out.drewN 1).rd 2 rfl HRi.out (by omega)).cut 4096 512 (by omega)
              rw [show (((lvM os fs i D1.M).drop 4096).take 512) = blkM (lvM os fs i D1.M) 8 from rfl, show blkM (lvM os fs i D1.M) 8 = ovQ (lvZ os fs true i) (blkM D1.M 8) from q8] at k2
              have k3 := ((HT26.out.drewN 1).rd 2 rfl HRi.out (by omega)).take 3584 (by omega)
              rw [lvM_take os fs D1.M hmz i] at k3
              have k4 := ((HT26.out.drewN 1).rd 2 rfl HRi.out (by omega)).cut 4608 28160 (by omega)
              rw [lvM_drop os fs D1.M hmz i] at k4
              have k5 := ((HT26.out.drewN 1).rd 3 rfl HRW.out (by omega)).take 3584 (by omega)
              have k6 := ((HT26.out.drewN 1).rd 3 rfl HRW.out (by omega)).cut 4608 28160 (by omega)
              have HS1 := Lib.hid (show Calls Try.prog 17 #[.slice (some ⟨ji, 3584, none⟩) 512 (ci - 3584), .slice (some ⟨jo, 0, none⟩) 512 co] w26.drew (fun e w' => e = .returned (.bool true) ∧ w' = w26.drew) from by
                have h9 := l6_same (some ⟨ji, 3584, none⟩) (some ⟨jo, 0, none⟩) 512 (ci - 3584) 512 co _ _ w26.drew k1 ((HT26.out.drewN 1).rd 1 rfl HRo.out (by omega))
                rw [decide_eq_true rfl] at h9
                exact h9)
              have HS2 := Lib.hid (show Calls Try.prog 17 #[.slice (some ⟨ji, 4096, none⟩) 512 (ci - 4096), .slice (some ⟨jp, 0, none⟩) 512 cp2] w26.drew (fun e w' => e = .returned (.bool true) ∧ w' = w26.drew) from by
                have h9 := l6_same (some ⟨ji, 4096, none⟩) (some ⟨jp, 0, none⟩) 512 (ci - 4096) 512 cp2 _ _ w26.drew k2 ((HT26.out.drewN 1).rd 0 rfl HRp.out (by omega))
                rw [decide_eq_true rfl] at h9
                exact h9)
              have HS3 := Lib.hid (show Calls Try.prog 17 #[.slice (some ⟨ji, 0, none⟩) 3584 ci, .slice (some ⟨jw, 0, none⟩) 3584 cw] w26.drew (fun e w' => e = .returned (.bool true) ∧ w' = w26.drew) from by
                have h9 := l6_same (some ⟨ji, 0, none⟩) (some ⟨jw, 0, none⟩) 3584 ci 3584 cw _ _ w26.drew k3 k5
                rw [decide_eq_true rfl] at h9
                exact h9)
              have HS4 := Lib.hid (show Calls Try.prog 17 #[.slice (some ⟨ji, 4608, none⟩) 28160 (ci - 4608), .slice (some ⟨jw, 4608, none⟩) 28160 (cw - 4608)] w26.drew (fun e w' => e = .returned (.bool true) ∧ w' = w26.drew) from by
                have h9 := l6_same (some ⟨ji, 4608, none⟩) (some ⟨jw, 4608, none⟩) 28160 (ci - 4608) 28160 (cw - 4608) _ _ w26.drew k4 k6
                rw [decide_eq_true rfl] at h9
                exact h9)
              clear q7 q8 k1 k2 k3 k4 k5 k6 hmz
              have hcb : ¬ ci = 4608 ∧ ¬ cw = 4608 ∧ ¬ ci = 3584 ∧ ¬ ci = 4096 ∧ (4096 : Int) ≤ (ci : Int) ∧ (4608 : Int) ≤ (ci : Int) ∧ (3584 : Int) ≤ (ci : Int) ∧ (3584 : Int) ≤ (cw : Int) ∧ 3584 ≤ ci ∧ 3584 ≤ cw ∧ 4608 ≤ ci ∧ 4096 ≤ ci := by omega
              go_region_held3 (fun _ => True) (trivial) ((go_at_call 17; first | (refine HS1.out.mono ?_; rintro e w27 ⟨rfl, h27⟩; subst h27; clear HS1) | (refine HS2.out.mono ?_; rintro e w27 ⟨rfl, h27⟩; subst h27; clear HS2) | (refine HS3.out.mono ?_; rintro e w27 ⟨rfl, h27⟩; subst h27; clear HS3) | (refine HS4.out.mono ?_; rintro e w27 ⟨rfl, h27⟩; subst h27; clear HS4)))
              all_goals go_wp2
              go_ret
              exact ⟨by simp, by first | exact HT26.out.bl | exact (HT26.out.drewN _).bl⟩
            · have hi8 : ¬ (i : Int) < (n' : Int) := by omega
              clear hend hin
              obtain ⟨B1, e1, hB1⟩ := HQ1.out.slice
              obtain ⟨B2, e2, hB2⟩ := HQ2.out.slice
              obtain ⟨Ba, ea, hBa⟩ := HQA.out.slice
              obtain ⟨Bb, eb, hBb⟩ := HQB.out.slice
              have HV1 := Lib.hid hB1
              have HV2 := Lib.hid hB2
              have HVA := Lib.hid hBa
              have HVB := Lib.hid hBb
              rw [hB1, hB2, hBa, hBb]
              have HL1n := Lib.hid (show (lvZ os fs false i).length ≤ 1000 from Nat.le_trans (lvZ_le os fs false i) (by omega))
              have HL2n := Lib.hid (show (lvZ os fs true i).length ≤ 1000 from Nat.le_trans (lvZ_le os fs true i) (by omega))
              have HRFw := Lib.hid (HRF.out.ext HT.out.bl)
              obtain ⟨DL, hDL⟩ : ∃ DL, DL = crD (lvD D1 os i) fs := ⟨_, rfl⟩
              have HDN := Lib.hid (show DL.n = 64 by rw [hDL]; exact HN1.out)
              have HDM := Lib.hid (show DL.M = lvM os fs i D1.M by rw [hDL]; rfl)
              have HDC := Lib.hid (show DL.C.length = 0 ∧ DL.down = false by rw [hDL]; exact ⟨rfl, rfl⟩)
              have HDL := Lib.hid hDL
              obtain ⟨L1, hL1⟩ : ∃ L1, L1 = (lvZ os fs false i).length := ⟨_, rfl⟩
              obtain ⟨L2, hL2⟩ : ∃ L2, L2 = (lvZ os fs true i).length := ⟨_, rfl⟩
              rw [← hL1, ← hL2]
              rw [← hL1] at HQ1 HQA HV1 HVA HL1n
              rw [← hL2] at HQ2 HQB HV2 HVB HL2n
              clear hB1 hB2 hBa hBb hDL hL1 hL2
              go_wp2_with (at_builtin; refine wp_appF HRFw.out hz _ _ rfl rfl rfl rfl ?_; intro AF cF w20 hRF hBF hxF; have HTF := Lib.hid (HT.out.below hBF); have HCF := Lib.hid (st_Crash n'' cF AF fs HTF.out (by show (lvC os i).length ≤ _; rw [lvC_len]; omega) hRF (fun _ p hp hm => by (have h7 := HT.out.dv.lt _ hm); (have h8 := hxF p hp); omega)); clear hRF hBF hxF)
              rw [← HDL.out] at HCF
              refine HCF.out.mono ?_
              rintro e w21 ⟨rfl, v21, hT21⟩
              have HT21 := Lib.hid hT21
              have HM21 := Lib.hid (st_Med64 hT21 HDN.out)
              rw [HDM.out] at HM21
              clear hT21 HCF
              go_wp2_with fail
              refine HM21.out.mono ?_
              rintro e w22 ⟨ji, ci, oi, rfl, hri, hT22⟩
              have HRi := Lib.hid hri
              have HT22 := Lib.hid hT22
              have HP22 := Lib.hid (st_PendN hT22 (by rw [HDC.out.1]; omega))
              rw [HDC.out.1] at HP22
              clear hri hT22 HM21
              go_wp2_with fail
              refine HP22.out.mono ?_
              rintro e w23 ⟨Ap, cp, Rp, rfl, _, hT23⟩
              have HT23 := Lib.hid (hT23.sub (List.sublist_append_left _ _))
              have HD23 := Lib.hid (dv_Down w23 b g v21 DL HT23.out.dv)
              rw [HDC.out.2] at HD23
              clear hT23 HP22
              go_wp2_with fail
              refine HD23.out.mono ?_
              rintro e w24 ⟨rfl, rfl⟩
              clear HD23
              have hM7 : ((D1.M.drop 3584).take 512) = blkM D1.M 7 := rfl
              have hM8 : ((D1.M.drop 4096).take 512) = blkM D1.M 8 := rfl
              have HRb1 := Lib.hid ((HT23.out.rd 1 rfl HRW.out (by omega)).cut 3584 512 (by omega))
              rw [hM7] at HRb1
              have HO1 := Lib.hid (l6_over w24 (some ⟨jw, 3584, none⟩) B1 Ba (cw - 3584) L1 e1 ea (blkM D1.M 7) (lvZ os fs false i) HRb1.out
                (lv_slice HV1.out HQ1.out (fun p hp => HT23.out.kp.all p (by simp [hp])) (fun p hp => HT23.out.kp.all p (by simp [HM1.out p hp])) HX1.out HL1n.out)
                (lv_fates HVA.out HQA.out (fun p hp => HT23.out.kp.all p (by simp [hp])) HL1n.out) (lvZ_ok os fs false i))
              have hcw : (32768 : Int) ≤ (cw : Int) ∧ 32768 ≤ cw := by have := HRW.out.cap; omega
              have hci : (32768 : Int) ≤ (ci : Int) ∧ 32768 ≤ ci := by have := HRi.out.cap; omega
              clear hM7
              go_wp2_with fail
              refine HO1.out.mono ?_
              rintro e w25 ⟨u25, rfl, hO25, hB25⟩
              obtain ⟨jo, co, oo1, rfl, hro, hT25⟩ := HT23.out.newB hO25 hB25 (by omega)
              have HRo := Lib.hid hro
              have HT25 := Lib.hid hT25
              have HRb2 := Lib.hid ((hT25.rd 2 rfl HRW.out (by omega)).cut 4096 512 (by omega))
              rw [hM8] at HRb2
              have HO2 := Lib.hid (l6_over w25 (some ⟨jw, 4096, none⟩) B2 Bb (cw - 4096) L2 e2 eb (blkM D1.M 8) (lvZ os fs true i) HRb2.out
                (lv_slice HV2.out HQ2.out (fun p hp => HT25.out.kp.all p (by simp [hp])) (fun p hp => HT25.out.kp.all p (by simp [HM2.out p hp])) HX2.out HL2n.out)
                (lv_fates HVB.out HQB.out (fun p hp => HT25.out.kp.all p (by simp [hp])) HL2n.out) (lvZ_ok os fs true i))
              clear hro hO25 hB25 hT25 hM8 HO1
              go_wp2_with fail
              refine HO2.out.mono ?_
              rintro e w26 ⟨u26, rfl, hO26, hB26⟩
              obtain ⟨jp, cp2, op2, rfl, hrp, hT26⟩ := HT25.out.newB hO26 hB26 (by omega)
              have HRp := Lib.hid hrp
              have HT26 := Lib.hid hT26
              clear hrp hO26 hB26 hT26 HO2
              go_wp2_with fail
              have hmz : D1.M.length = 64 * 512 := HML.out
              have q7 := lvM_blk os fs false D1.M hmz i
              have q8 := lvM_blk os fs true D1.M hmz i
              have k1 := ((HT26.out.drewN 1).rd 2 rfl HRi.out (by omega)).cut 3584 512 (by omega)
              rw [show (((lvM os fs i D1.M).drop 3584).take 512) = blkM (lvM os fs i D1.M) 7 from rfl, show blkM (lvM os fs i D1.M) 7 = ovQ (lvZ os fs false i) (blkM D1.M 7) from q7] at k1
              have k2 := ((HT26.out.drewN 1).rd 2 rfl HRi.out (by omega)).cut 4096 512 (by omega)
              rw [show (((lvM os fs i D1.M).drop 4096).take 512) = blkM (lvM os fs i D1.M) 8 from rfl, show blkM (lvM os fs i D1.M) 8 = ovQ (lvZ os fs true i) (blkM D1.M 8) from q8] at k2
              have k3 := ((HT26.out.drewN 1).rd 2 rfl HRi.out (by omega)).take 3584 (by omega)
              rw [lvM_take os fs D1.M hmz i] at k3
              have k4 := ((HT26.out.drewN 1).rd 2 rfl HRi.out (by omega)).cut 4608 28160 (by omega)
              rw [lvM_drop os fs D1.M hmz i] at k4
              have k5 := ((HT26.out.drewN 1).rd 3 rfl HRW.out (by omega)).take 3584 (by omega)
              have k6 := ((HT26.out.drewN 1).rd 3 rfl HRW.out (by omega)).cut 4608 28160 (by omega)
              have HS1 := Lib.hid (show Calls Try.prog 17 #[.slice (some ⟨ji, 3584, none⟩) 512 (ci - 3584), .slice (some ⟨jo, 0, none⟩) 512 co] w26.drew (fun e w' => e = .returned (.bool true) ∧ w' = w26.drew) from by
                have h9 := l6_same (some ⟨ji, 3584, none⟩) (some ⟨jo, 0, none⟩) 512 (ci - 3584) 512 co _ _ w26.drew k1 ((HT26.out.drewN 1).rd 1 rfl HRo.out (by omega))
                rw [decide_eq_true rfl] at h9
                exact h9)
              have HS2 := Lib.hid (show Calls Try.prog 17 #[.slice (some ⟨ji, 4096, none⟩) 512 (ci - 4096), .slice (some ⟨jp, 0, none⟩) 512 cp2] w26.drew (fun e w' => e = .returned (.bool true) ∧ w' = w26.drew) from by
                have h9 := l6_same (some ⟨ji, 4096, none⟩) (some ⟨jp, 0, none⟩) 512 (ci - 4096) 512 cp2 _ _ w26.drew k2 ((HT26.out.drewN 1).rd 0 rfl HRp.out (by omega))
                rw [decide_eq_true rfl] at h9
                exact h9)
              have HS3 := Lib.hid (show Calls Try.prog 17 #[.slice (some ⟨ji, 0, none⟩) 3584 ci, .slice (some ⟨jw, 0, none⟩) 3584 cw] w26.drew (fun e w' => e = .returned (.bool true) ∧ w' = w26.drew) from by
                have h9 := l6_same (some ⟨ji, 0, none⟩) (some ⟨jw, 0, none⟩) 3584 ci 3584 cw _ _ w26.drew k3 k5
                rw [decide_eq_true rfl] at h9
                exact h9)
              have HS4 := Lib.hid (show Calls Try.prog 17 #[.slice (some ⟨ji, 4608, none⟩) 28160 (ci - 4608), .slice (some ⟨jw, 4608, none⟩) 28160 (cw - 4608)] w26.drew (fun e w' => e = .returned (.bool true) ∧ w' = w26.drew) from by
                have h9 := l6_same (some ⟨ji, 4608, none⟩) (some ⟨jw, 4608, none⟩) 28160 (ci - 4608) 28160 (cw - 4608) _ _ w26.drew k4 k6
                rw [decide_eq_true rfl] at h9
                exact h9)
              clear q7 q8 k1 k2 k3 k4 k5 k6 hmz
              have hcb : ¬ ci = 4608 ∧ ¬ cw = 4608 ∧ ¬ ci = 3584 ∧ ¬ ci = 4096 ∧ (4096 : Int) ≤ (ci : Int) ∧ (4608 : Int) ≤ (ci : Int) ∧ (3584 : Int) ≤ (ci : Int) ∧ (3584 : Int) ≤ (cw : Int) ∧ 3584 ≤ ci ∧ 3584 ≤ cw ∧ 4608 ≤ ci ∧ 4096 ≤ ci := by omega
              go_region_held3 (fun _ => True) (trivial) ((go_at_call 17; first | (refine HS1.out.mono ?_; rintro e w27 ⟨rfl, h27⟩; subst h27; clear HS1) | (refine HS2.out.mono ?_; rintro e w27 ⟨rfl, h27⟩; subst h27; clear HS2) | (refine HS3.out.mono ?_; rintro e w27 ⟨rfl, h27⟩; subst h27; clear HS3) | (refine HS4.out.mono ?_; rintro e w27 ⟨rfl, h27⟩; subst h27; clear HS4)))
              all_goals go_wp2
              go_ret
              exact ⟨by simp, by first | exact HT26.out.bl | exact (HT26.out.drewN _).bl⟩
end Go.Proofs.Ytjbffahmjhbpjaa
