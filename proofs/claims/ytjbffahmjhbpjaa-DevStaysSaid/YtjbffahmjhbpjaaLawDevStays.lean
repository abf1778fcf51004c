/- The walk of DevStays. -/
import Derived.Test.YtjbffahmjhbpjaaDvs1
set_option linter.unusedVariables false
set_option linter.unusedSimpArgs false
set_option maxRecDepth 100000
namespace Go.Proofs.Ytjbffahmjhbpjaa
open Go.RowKit
theorem rd_le {D : DS} {m : Nat} (h : D.le m) : ({ D with rd := D.rd + 1 } : DS).le (m + 1) := ⟨h.left, Nat.le_succ_of_le h.ca, Nat.le_succ_of_le h.wr, Nat.le_succ_of_le h.fl, Nat.succ_le_succ h.rd⟩
set_option maxHeartbeats 4000000 in
theorem walk_DevStays (A : Option Addr) (n c : Nat) (l : List OpD) (A' : Option Addr) (n' c' : Nat) (l' : List OpD) (at_ : Int) (w : World) (hr : RdO w A n c l) (hr' : RdO w A' n' c' l') (hat : -9223372036854775808 ≤ at_ ∧ at_ < 9223372036854775808) :
    Calls Try.prog 7 #[.slice A n c, .slice A' n' c', .int .i64 at_] w fun e w' => e = .returned (.bool true) ∧ Below w.heap.size w w' := by
  have HRO := Lib.hid hr
  have hmx := hr.max
  have HRO' := Lib.hid hr'
  have hmx' := hr'.max
  obtain ⟨k, hk, hka, hkm⟩ := i64_and63 at_
  clear hkm
  have hki : (0 : Int) ≤ (k : Int) ∧ (k : Int) < 64 := by omega
  clear hr hr' hat
  go_enter Try.func7, Try.ntmps7
  go_wp2_with fail
  refine (st_lives w).mono ?_
  rintro e w1 ⟨b, g, vc, rfl, hT⟩
  have HT1 := Lib.hid hT
  clear hT
  go_wp2_with fail
  go_loopw [8] (fun x wx => ∃ i : Nat, ∃ v D, i ≤ n ∧ i ≤ 400 ∧ x = .int .i64 i ∧ D.le (i + 1) ∧ D.n = 64 ∧ St w wx b g v D []) (fun x _ => 400 - (intOf x).toNat)
  case atStart => exact ⟨0, vc, liveD, by omega, by omega, rfl, liveD_le, rfl, HT1.out⟩
  case round =>
    obtain ⟨i, v, D, hi, hi60, rfl, hle, hn, hT⟩ := hrel
    have HT := Lib.hid hT
    have HLE := Lib.hid hle
    have HN := Lib.hid hn
    clear hT hle hn
    by_cases hin : i < n ∧ i < 400
    · obtain ⟨hin, hi6⟩ := hin
      have hii : (0 : Int) ≤ (i : Int) ∧ (i : Int) < (n : Int) ∧ (i : Int) < 400 := by omega
      obtain ⟨bb, oo, rfl, hca⟩ := HRO.out.at_ (by omega)
      have hop := (hca i hin).ext HT.out.bl
      obtain ⟨x, hxx⟩ : ∃ x, x = l.getD i default := ⟨_, rfl⟩
      rw [← hxx] at hop
      obtain ⟨hok, q0, q1, q2, q3, q4, q5, ⟨A6, n6, c6, q6, hr6⟩, ⟨A7, n7, c7, q7, hr7⟩⟩ := hop
      have HPL := Lib.hid (st_play x A6 A7 n6 c6 n7 c7 HT.out hok (HLE.out.mono (by omega)) hr6 hr7)
      have HLE2 := Lib.hid (plD_le x hok HLE.out)
      have HN2 := Lib.hid (show (plD D x).2.n = 64 by rw [plD_n, HN.out])
      clear hca hxx hok hr6 hr7
      go_wp2_with fail
      refine HPL.out.mono ?_
      rintro e w6 ⟨rfl, v6, hT6⟩
      have HT6 := Lib.hid hT6
      clear hT6 HPL q0 q1 q2 q3 q4 q5 q6 q7
      go_wp2
      go_roundw
      case rel => exact ⟨i + 1, v6, _, by omega, by omega, by go_num, HLE2.out, HN2.out, HT6.out⟩
      case measure => simp [intOf]; omega
    · have hend : ¬ ((i : Int) < (n : Int) ∧ (i : Int) < 400) := by omega
      have HLE4 := Lib.hid (HLE.out.mono (show i + 1 ≤ 401 by omega))
      have HDN := Lib.hid (dv_Down _ b g v D HT.out.dv)
      by_cases hin2 : i < n
      · have hi7 : ¬ (i : Int) < 400 := by omega
        have hi8 : (i : Int) < (n : Int) := by omega
        clear hend hin
        cases hdn : D.down with
        | false =>
          rw [hdn] at HDN
          obtain ⟨D1, hD1⟩ : ∃ D1, D1 = D := ⟨_, rfl⟩
          rw [← hD1] at hdn HT HLE4 HN
          have HDa := Lib.hid hdn
          have HLa := HLE4
          have HNa := HN
          have HTa := HT
          clear hdn hD1
          go_wp2_with fail
          refine HDN.out.mono ?_
          rintro e w7 ⟨rfl, rfl⟩
          go_wp2_with fail
          refine (st_Read k HTa.out (by rw [HNa.out]; exact hk) HDa.out (Nat.lt_of_le_of_lt HLa.out.rd (by omega)) (Nat.le_trans HLa.out.ca (by omega))).mono ?_
          rintro e w8 ⟨jb, ob, rfl, hrb, hT8⟩
          have HRb := Lib.hid hrb
          obtain ⟨B, hB⟩ : ∃ B, B = rdB D1 k := ⟨_, rfl⟩
          rw [← hB] at HRb
          obtain ⟨D2, hD2⟩ : ∃ D2, D2 = ({ D1 with rd := D1.rd + 1 } : DS) := ⟨_, rfl⟩
          rw [← hD2] at hT8
          have HT8 := Lib.hid hT8
          have HL2 := Lib.hid (show D2.le 402 by rw [hD2]; exact rd_le HLa.out)
          have HN2 := Lib.hid (show D2.n = 64 by rw [hD2]; exact HNa.out)
          have HB2 := Lib.hid (show rdB D2 k = B by rw [hD2, hB]; rfl)
          have HFL := Lib.hid (st_Flush hT8 HL2.out.left (Nat.le_trans HL2.out.ca (by omega)) (Nat.lt_of_le_of_lt HL2.out.fl (by omega)))
          have HS2 := Lib.hid (fun h => fl_stays (k := k) hT8.dv.dev.len hT8.dv.ca.1 h)
          have HFN := Lib.hid (show (flD D2).2.n = 64 by rw [flD_n, HN2.out])
          have HFE := Lib.hid (flD_le HL2.out)
          clear hrb hT8 hB hD2
          go_wp2_with fail
          refine HFL.out.mono ?_
          rintro e w9 ⟨rfl, v9, hT9⟩
          have HT9 := Lib.hid hT9
          clear hT9 HFL
          by_cases hf0 : (flD D2).1 = 0
          · obtain ⟨hs1, hs2⟩ := HS2.out hf0
            rw [HB2.out] at hs2
            obtain ⟨D3, hD3⟩ : ∃ D3, D3 = (flD D2).2 := ⟨_, rfl⟩
            rw [← hD3] at hs1 hs2 HT9 HFN HFE
            rw [hf0]
            have HS1 := Lib.hid hs1
            have HS3 := Lib.hid hs2
            clear hs1 hs2 hD3 hf0
            go_wp2_with fail
            go_loopw [11, 12, 13, 14] (fun x _ _ _ wx => ∃ i : Nat, ∃ v D, i ≤ n' ∧ i ≤ 400 ∧ x = .int .i64 i ∧ D.le (403 + i) ∧ D.n = 64 ∧ (∀ y ∈ D.C, y.num ≠ k) ∧ blkM D.M k = B ∧ St w wx b g v D [(jb, ob)]) (fun x _ _ _ _ => 400 - (intOf x).toNat)
            case atStart => exact ⟨0, v9, D3, by omega, by omega, rfl, HFE.out, HFN.out, HS1.out, HS3.out, HT9.out⟩
            case round =>
              obtain ⟨i, v, D, hi, hi60, rfl, hle, hn, hne, hbk, hT⟩ := hrel
              have HT := Lib.hid hT
              have HLE := Lib.hid hle
              have HN := Lib.hid hn
              have HNE := Lib.hid hne
              have HBK := Lib.hid hbk
              clear hT hle hn hne hbk
              by_cases hin : i < n' ∧ i < 400
              · obtain ⟨hin, hi6⟩ := hin
                have hii : (0 : Int) ≤ (i : Int) ∧ (i : Int) < (n' : Int) ∧ (i : Int) < 400 := by omega
                obtain ⟨bb, oo, rfl, hca⟩ := HRO'.out.at_ (by omega)
                have hop := (hca i hin).ext HT.out.bl
                obtain ⟨x, hxx⟩ : ∃ x, x = l'.getD i default := ⟨_, rfl⟩
                rw [← hxx] at hop
                obtain ⟨hok, q0, q1, q2, q3, q4, q5, ⟨A6, n6, c6, q6, hr6⟩, ⟨A7, n7, c7, q7, hr7⟩⟩ := hop
                obtain ⟨two, kd, blk, num, ln, fill, BB, F⟩ := x
                have hB0 := (Below.refl _ wr).alloc (Nat.le_refl _) (.cells #[.bool two, .int .i64 kd, .int .i64 blk, .int .i64 num, .int .i64 ln, .int .u8 (fill.toNat : Int), .slice A6 n6 c6, .slice A7 n7 c7] 48)
                have HT5 := Lib.hid (HT.out.below hB0)
                have HPL := Lib.hid (st_play ⟨two, kd, blk, num, ln, fill, BB, F⟩ A6 A7 n6 c6 n7 c7 HT5.out hok (HLE.out.mono (by omega)) (hr6.ext hB0) (hr7.ext hB0))
                have HLE2 := Lib.hid (plD_le ⟨two, kd, blk, num, ln, fill, BB, F⟩ hok HLE.out)
                have HN2 := Lib.hid (show (plD D ⟨two, kd, blk, num, ln, fill, BB, F⟩).2.n = 64 by rw [plD_n, HN.out])
                have HKE := Lib.hid (fun hs => plD_keep (k := k) ⟨two, kd, blk, num, ln, fill, BB, F⟩ HT.out.dv.dev.len HT.out.dv.ca.1 (by rw [HN.out]; exact hk) HNE.out hs)
                clear hca hxx hok hr6 hr7 hB0
                by_cases k3 : kd = 3
                · subst k3
                  by_cases kb : blk = (k : Int)
                  · subst kb
                    go_wp2
                    go_roundw
                    case rel => exact ⟨i + 1, v, D, by omega, by omega, by go_num, HLE.out.mono (by omega), HN.out, HNE.out, HBK.out, HT5.out⟩
                    case measure => simp [intOf]; omega
                  · have eb : (blk == (k : Int)) = false := by simp [kb]
                    have HOFF := Lib.hid (show offK ⟨two, 3, blk, num, ln, fill, BB, F⟩ k from fun h => kb h.2)
                    clear kb
                    go_wp2_with fail
                    refine HPL.out.mono ?_
                    rintro e w6 ⟨rfl, v6, hT6⟩
                    obtain ⟨hk1, hk2⟩ := HKE.out HOFF.out
                    rw [HBK.out] at hk2
                    have HRW := Lib.hid (st_Raw k hT6 (by rw [HN2.out]; exact hk))
                    rw [hk2] at HRW
                    have HT6 := Lib.hid hT6
                    have HK1 := Lib.hid hk1
                    have HK2 := Lib.hid hk2
                    clear hT6 HPL q0 q1 q2 q3 q4 q5 q6 q7 hk1 hk2
                    go_wp2_with fail
                    refine HRW.out.mono ?_
                    rintro e w7 ⟨j7, o7, rfl, hr7, hT7⟩
                    have HSM := Lib.hid (l6_same _ _ 512 512 512 512 _ _ w7 (hT7.rd 1 rfl HRb.out (by omega)) (hT7.rd 0 rfl hr7 (by omega)))
                    rw [decide_eq_true rfl] at HSM
                    have HT7 := Lib.hid (hT7.sub (List.sublist_cons_self _ _))
                    clear hr7 hT7 HRW
                    go_wp2_with fail
                    refine HSM.out.mono ?_
                    rintro e w8 ⟨rfl, rfl⟩
                    go_wp2
                    go_roundw
                    case rel => exact ⟨i + 1, v6, _, by omega, by omega, by go_num, HLE2.out, HN2.out, HK1.out, HK2.out, HT7.out⟩
                    case measure => simp [intOf]; omega
                · by_cases k9 : kd = 9
                  · subst k9
                    clear k3
                    by_cases kb : blk = (k : Int)
                    · subst kb
                      go_wp2
                      go_roundw
                      case rel => exact ⟨i + 1, v, D, by omega, by omega, by go_num, HLE.out.mono (by omega), HN.out, HNE.out, HBK.out, HT5.out⟩
                      case measure => simp [intOf]; omega
                    · have eb : (blk == (k : Int)) = false := by simp [kb]
                      have HOFF := Lib.hid (show offK ⟨two, 9, blk, num, ln, fill, BB, F⟩ k from fun h => kb h.2)
                      clear kb
                      go_wp2_with fail
                      refine HPL.out.mono ?_
                      rintro e w6 ⟨rfl, v6, hT6⟩
                      obtain ⟨hk1, hk2⟩ := HKE.out HOFF.out
                      rw [HBK.out] at hk2
                      have HRW := Lib.hid (st_Raw k hT6 (by rw [HN2.out]; exact hk))
                      rw [hk2] at HRW
                      have HT6 := Lib.hid hT6
                      have HK1 := Lib.hid hk1
                      have HK2 := Lib.hid hk2
                      clear hT6 HPL q0 q1 q2 q3 q4 q5 q6 q7 hk1 hk2
                      go_wp2_with fail
                      refine HRW.out.mono ?_
                      rintro e w7 ⟨j7, o7, rfl, hr7, hT7⟩
                      have HSM := Lib.hid (l6_same _ _ 512 512 512 512 _ _ w7 (hT7.rd 1 rfl HRb.out (by omega)) (hT7.rd 0 rfl hr7 (by omega)))
                      rw [decide_eq_true rfl] at HSM
                      have HT7 := Lib.hid (hT7.sub (List.sublist_cons_self _ _))
                      clear hr7 hT7 HRW
                      go_wp2_with fail
                      refine HSM.out.mono ?_
                      rintro e w8 ⟨rfl, rfl⟩
                      go_wp2
                      go_roundw
                      case rel => exact ⟨i + 1, v6, _, by omega, by omega, by go_num, HLE2.out, HN2.out, HK1.out, HK2.out, HT7.out⟩
                      case measure => simp [intOf]; omega
                  · have e3 : (kd == 3) = false := by simp [k3]
                    have e9 : (kd == 9) = false := by simp [k9]
                    have HOFF := Lib.hid (show offK ⟨two, kd, blk, num, ln, fill, BB, F⟩ k from fun h => by
                      rcases h.1 with h | h
                      · exact k3 h
                      · exact k9 h)
                    clear k3 k9
                    go_wp2_with fail
                    refine HPL.out.mono ?_
                    rintro e w6 ⟨rfl, v6, hT6⟩
                    obtain ⟨hk1, hk2⟩ := HKE.out HOFF.out
                    rw [HBK.out] at hk2
                    have HRW := Lib.hid (st_Raw k hT6 (by rw [HN2.out]; exact hk))
                    rw [hk2] at HRW
                    have HT6 := Lib.hid hT6
                    have HK1 := Lib.hid hk1
                    have HK2 := Lib.hid hk2
                    clear hT6 HPL q0 q1 q2 q3 q4 q5 q6 q7 hk1 hk2
                    go_wp2_with fail
                    refine HRW.out.mono ?_
                    rintro e w7 ⟨j7, o7, rfl, hr7, hT7⟩
                    have HSM := Lib.hid (l6_same _ _ 512 512 512 512 _ _ w7 (hT7.rd 1 rfl HRb.out (by omega)) (hT7.rd 0 rfl hr7 (by omega)))
                    rw [decide_eq_true rfl] at HSM
                    have HT7 := Lib.hid (hT7.sub (List.sublist_cons_self _ _))
                    clear hr7 hT7 HRW
                    go_wp2_with fail
                    refine HSM.out.mono ?_
                    rintro e w8 ⟨rfl, rfl⟩
                    go_wp2
                    go_roundw
                    case rel => exact ⟨i + 1, v6, _, by omega, by omega, by go_num, HLE2.out, HN2.out, HK1.out, HK2.out, HT7.out⟩
                    case measure => simp [intOf]; omega
              · have hend : ¬ ((i : Int) < (n' : Int) ∧ (i : Int) < 400) := by omega
                by_cases hin2 : i < n'
                · have hi7 : ¬ (i : Int) < 400 := by omega
                  have hi8 : (i : Int) < (n' : Int) := by omega
                  clear hend hin
                  go_wp2
                  go_ret
                  exact ⟨by simp, HT.out.bl⟩
                · have hi8 : ¬ (i : Int) < (n' : Int) := by omega
                  clear hend hin
                  go_wp2
                  go_ret
                  exact ⟨by simp, HT.out.bl⟩
          · have hfb : ((flD D2).1 != 0) = true := by simp [hf0]
            have HDD := Lib.hid (fl_down D2 hf0)
            have HDW := Lib.hid (dv_Down w9 b g v9 (flD D2).2 HT9.out.dv)
            rw [HDD.out] at HDW
            generalize (flD D2).1 = E at hfb hf0 ⊢
            clear hf0
            go_wp2_with fail
            refine HDW.out.mono ?_
            rintro e w10 ⟨rfl, rfl⟩
            go_wp2
            go_ret
            exact ⟨by simp, HT9.out.bl⟩
        | true =>
          rw [hdn] at HDN
          have HCR := Lib.hid (st_Crash 0 0 none [] HT.out (Nat.le_trans HLE4.out.ca (by omega)) (RdF.nil _) (by simp))
          clear hdn
          go_wp2_with fail
          refine HDN.out.mono ?_
          rintro e w7 ⟨rfl, rfl⟩
          go_wp2_with fail
          refine HCR.out.mono ?_
          rintro e wa ⟨rfl, va, hTa⟩
          obtain ⟨D1, hD1⟩ : ∃ D1, D1 = crD D [] := ⟨_, rfl⟩
          rw [← hD1] at hTa
          have HTa := Lib.hid hTa
          have HDa := Lib.hid (show D1.down = false by rw [hD1]; rfl)
          have HLa := Lib.hid (show D1.le 401 by rw [hD1]; exact crD_le [] HLE4.out)
          have HNa := Lib.hid (show D1.n = 64 by rw [hD1]; exact HN.out)
          clear hTa hD1 HCR
          go_wp2_with fail
          refine (st_Read k HTa.out (by rw [HNa.out]; exact hk) HDa.out (Nat.lt_of_le_of_lt HLa.out.rd (by omega)) (Nat.le_trans HLa.out.ca (by omega))).mono ?_
          rintro e w8 ⟨jb, ob, rfl, hrb, hT8⟩
          have HRb := Lib.hid hrb
          obtain ⟨B, hB⟩ : ∃ B, B = rdB D1 k := ⟨_, rfl⟩
          rw [← hB] at HRb
          obtain ⟨D2, hD2⟩ : ∃ D2, D2 = ({ D1 with rd := D1.rd + 1 } : DS) := ⟨_, rfl⟩
          rw [← hD2] at hT8
          have HT8 := Lib.hid hT8
          have HL2 := Lib.hid (show D2.le 402 by rw [hD2]; exact rd_le HLa.out)
          have HN2 := Lib.hid (show D2.n = 64 by rw [hD2]; exact HNa.out)
          have HB2 := Lib.hid (show rdB D2 k = B by rw [hD2, hB]; rfl)
          have HFL := Lib.hid (st_Flush hT8 HL2.out.left (Nat.le_trans HL2.out.ca (by omega)) (Nat.lt_of_le_of_lt HL2.out.fl (by omega)))
          have HS2 := Lib.hid (fun h => fl_stays (k := k) hT8.dv.dev.len hT8.dv.ca.1 h)
          have HFN := Lib.hid (show (flD D2).2.n = 64 by rw [flD_n, HN2.out])
          have HFE := Lib.hid (flD_le HL2.out)
          clear hrb hT8 hB hD2
          go_wp2_with fail
          refine HFL.out.mono ?_
          rintro e w9 ⟨rfl, v9, hT9⟩
          have HT9 := Lib.hid hT9
          clear hT9 HFL
          by_cases hf0 : (flD D2).1 = 0
          · obtain ⟨hs1, hs2⟩ := HS2.out hf0
            rw [HB2.out] at hs2
            obtain ⟨D3, hD3⟩ : ∃ D3, D3 = (flD D2).2 := ⟨_, rfl⟩
            rw [← hD3] at hs1 hs2 HT9 HFN HFE
            rw [hf0]
            have HS1 := Lib.hid hs1
            have HS3 := Lib.hid hs2
            clear hs1 hs2 hD3 hf0
            go_wp2_with fail
            go_loopw [11, 12, 13, 14] (fun x _ _ _ wx => ∃ i : Nat, ∃ v D, i ≤ n' ∧ i ≤ 400 ∧ x = .int .i64 i ∧ D.le (403 + i) ∧ D.n = 64 ∧ (∀ y ∈ D.C, y.num ≠ k) ∧ blkM D.M k = B ∧ St w wx b g v D [(jb, ob)]) (fun x _ _ _ _ => 400 - (intOf x).toNat)
            case atStart => exact ⟨0, v9, D3, by omega, by omega, rfl, HFE.out, HFN.out, HS1.out, HS3.out, HT9.out⟩
            case round =>
              obtain ⟨i, v, D, hi, hi60, rfl, hle, hn, hne, hbk, hT⟩ := hrel
              have HT := Lib.hid hT
              have HLE := Lib.hid hle
              have HN := Lib.hid hn
              have HNE := Lib.hid hne
              have HBK := Lib.hid hbk
              clear hT hle hn hne hbk
              by_cases hin : i < n' ∧ i < 400
              · obtain ⟨hin, hi6⟩ := hin
                have hii : (0 : Int) ≤ (i : Int) ∧ (i : Int) < (n' : Int) ∧ (i : Int) < 400 := by omega
                obtain ⟨bb, oo, rfl, hca⟩ := HRO'.out.at_ (by omega)
                have hop := (hca i hin).ext HT.out.bl
                obtain ⟨x, hxx⟩ : ∃ x, x = l'.getD i default := ⟨_, rfl⟩
                rw [← hxx] at hop
                obtain ⟨hok, q0, q1, q2, q3, q4, q5, ⟨A6, n6, c6, q6, hr6⟩, ⟨A7, n7, c7, q7, hr7⟩⟩ := hop
                obtain ⟨two, kd, blk, num, ln, fill, BB, F⟩ := x
                have hB0 := (Below.refl _ wr).alloc (Nat.le_refl _) (.cells #[.bool two, .int .i64 kd, .int .i64 blk, .int .i64 num, .int .i64 ln, .int .u8 (fill.toNat : Int), .slice A6 n6 c6, .slice A7 n7 c7] 48)
                have HT5 := Lib.hid (HT.out.below hB0)
                have HPL := Lib.hid (st_play ⟨two, kd, blk, num, ln, fill, BB, F⟩ A6 A7 n6 c6 n7 c7 HT5.out hok (HLE.out.mono (by omega)) (hr6.ext hB0) (hr7.ext hB0))
                have HLE2 := Lib.hid (plD_le ⟨two, kd, blk, num, ln, fill, BB, F⟩ hok HLE.out)
                have HN2 := Lib.hid (show (plD D ⟨two, kd, blk, num, ln, fill, BB, F⟩).2.n = 64 by rw [plD_n, HN.out])
                have HKE := Lib.hid (fun hs => plD_keep (k := k) ⟨two, kd, blk, num, ln, fill, BB, F⟩ HT.out.dv.dev.len HT.out.dv.ca.1 (by rw [HN.out]; exact hk) HNE.out hs)
                clear hca hxx hok hr6 hr7 hB0
                by_cases k3 : kd = 3
                · subst k3
                  by_cases kb : blk = (k : Int)
                  · subst kb
                    go_wp2
                    go_roundw
                    case rel => exact ⟨i + 1, v, D, by omega, by omega, by go_num, HLE.out.mono (by omega), HN.out, HNE.out, HBK.out, HT5.out⟩
                    case measure => simp [intOf]; omega
                  · have eb : (blk == (k : Int)) = false := by simp [kb]
                    have HOFF := Lib.hid (show offK ⟨two, 3, blk, num, ln, fill, BB, F⟩ k from fun h => kb h.2)
                    clear kb
                    go_wp2_with fail
                    refine HPL.out.mono ?_
                    rintro e w6 ⟨rfl, v6, hT6⟩
                    obtain ⟨hk1, hk2⟩ := HKE.out HOFF.out
                    rw [HBK.out] at hk2
                    have HRW := Lib.hid (st_Raw k hT6 (by rw [HN2.out]; exact hk))
                    rw [hk2] at HRW
                    have HT6 := Lib.hid hT6
                    have HK1 := Lib.hid hk1
                    have HK2 := Lib.hid hk2
                    clear hT6 HPL q0 q1 q2 q3 q4 q5 q6 q7 hk1 hk2
                    go_wp2_with fail
                    refine HRW.out.mono ?_
                    rintro e w7 ⟨j7, o7, rfl, hr7, hT7⟩
                    have HSM := Lib.hid (l6_same _ _ 512 512 512 512 _ _ w7 (hT7.rd 1 rfl HRb.out (by omega)) (hT7.rd 0 rfl hr7 (by omega)))
                    rw [decide_eq_true rfl] at HSM
                    have HT7 := Lib.hid (hT7.sub (List.sublist_cons_self _ _))
                    clear hr7 hT7 HRW
                    go_wp2_with fail
                    refine HSM.out.mono ?_
                    rintro e w8 ⟨rfl, rfl⟩
                    go_wp2
                    go_roundw
                    case rel => exact ⟨i + 1, v6, _, by omega, by omega, by go_num, HLE2.out, HN2.out, HK1.out, HK2.out, HT7.out⟩
                    case measure => simp [intOf]; omega
                · by_cases k9 : kd = 9
                  · subst k9
                    clear k3
                    by_cases kb : blk = (k : Int)
                    · subst kb
                      go_wp2
                      go_roundw
                      case rel => exact ⟨i + 1, v, D, by omega, by omega, by go_num, HLE.out.mono (by omega), HN.out, HNE.out, HBK.out, HT5.out⟩
                      case measure => simp [intOf]; omega
                    · have eb : (blk == (k : Int)) = false := by simp [kb]
                      have HOFF := Lib.hid (show offK ⟨two, 9, blk, num, ln, fill, BB, F⟩ k from fun h => kb h.2)
                      clear kb
                      go_wp2_with fail
                      refine HPL.out.mono ?_
                      rintro e w6 ⟨rfl, v6, hT6⟩
                      obtain ⟨hk1, hk2⟩ := HKE.out HOFF.out
                      rw [HBK.out] at hk2
                      have HRW := Lib.hid (st_Raw k hT6 (by rw [HN2.out]; exact hk))
                      rw [hk2] at HRW
                      have HT6 := Lib.hid hT6
                      have HK1 := Lib.hid hk1
                      have HK2 := Lib.hid hk2
                      clear hT6 HPL q0 q1 q2 q3 q4 q5 q6 q7 hk1 hk2
                      go_wp2_with fail
                      refine HRW.out.mono ?_
                      rintro e w7 ⟨j7, o7, rfl, hr7, hT7⟩
                      have HSM := Lib.hid (l6_same _ _ 512 512 512 512 _ _ w7 (hT7.rd 1 rfl HRb.out (by omega)) (hT7.rd 0 rfl hr7 (by omega)))
                      rw [decide_eq_true rfl] at HSM
                      have HT7 := Lib.hid (hT7.sub (List.sublist_cons_self _ _))
                      clear hr7 hT7 HRW
                      go_wp2_with fail
                      refine HSM.out.mono ?_
                      rintro e w8 ⟨rfl, rfl⟩
                      go_wp2
                      go_roundw
                      case rel => exact ⟨i + 1, v6, _, by omega, by omega, by go_num, HLE2.out, HN2.out, HK1.out, HK2.out, HT7.out⟩
                      case measure => simp [intOf]; omega
                  · have e3 : (kd == 3) = false := by simp [k3]
                    have e9 : (kd == 9) = false := by simp [k9]
                    have HOFF := Lib.hid (show offK ⟨two, kd, blk, num, ln, fill, BB, F⟩ k from fun h => by
                      rcases h.1 with h | h
                      · exact k3 h
                      · exact k9 h)
                    clear k3 k9
                    go_wp2_with fail
                    refine HPL.out.mono ?_
                    rintro e w6 ⟨rfl, v6, hT6⟩
                    obtain ⟨hk1, hk2⟩ := HKE.out HOFF.out
                    rw [HBK.out] at hk2
                    have HRW := Lib.hid (st_Raw k hT6 (by rw [HN2.out]; exact hk))
                    rw [hk2] at HRW
                    have HT6 := Lib.hid hT6
                    have HK1 := Lib.hid hk1
                    have HK2 := Lib.hid hk2
                    clear hT6 HPL q0 q1 q2 q3 q4 q5 q6 q7 hk1 hk2
                    go_wp2_with fail
                    refine HRW.out.mono ?_
                    rintro e w7 ⟨j7, o7, rfl, hr7, hT7⟩
                    have HSM := Lib.hid (l6_same _ _ 512 512 512 512 _ _ w7 (hT7.rd 1 rfl HRb.out (by omega)) (hT7.rd 0 rfl hr7 (by omega)))
                    rw [decide_eq_true rfl] at HSM
                    have HT7 := Lib.hid (hT7.sub (List.sublist_cons_self _ _))
                    clear hr7 hT7 HRW
                    go_wp2_with fail
                    refine HSM.out.mono ?_
                    rintro e w8 ⟨rfl, rfl⟩
                    go_wp2
                    go_roundw
                    case rel => exact ⟨i + 1, v6, _, by omega, by omega, by go_num, HLE2.out, HN2.out, HK1.out, HK2.out, HT7.out⟩
                    case measure => simp [intOf]; omega
              · have hend : ¬ ((i : Int) < (n' : Int) ∧ (i : Int) < 400) := by omega
                by_cases hin2 : i < n'
                · have hi7 : ¬ (i : Int) < 400 := by omega
                  have hi8 : (i : Int) < (n' : Int) := by omega
                  clear hend hin
                  go_wp2
                  go_ret
                  exact ⟨by simp, HT.out.bl⟩
                · have hi8 : ¬ (i : Int) < (n' : Int) := by omega
                  clear hend hin
                  go_wp2
                  go_ret
                  exact ⟨by simp, HT.out.bl⟩
          · have hfb : ((flD D2).1 != 0) = true := by simp [hf0]
            have HDD := Lib.hid (fl_down D2 hf0)
            have HDW := Lib.hid (dv_Down w9 b g v9 (flD D2).2 HT9.out.dv)
            rw [HDD.out] at HDW
            generalize (flD D2).1 = E at hfb hf0 ⊢
            clear hf0
            go_wp2_with fail
            refine HDW.out.mono ?_
            rintro e w10 ⟨rfl, rfl⟩
            go_wp2
            go_ret
            exact ⟨by simp, HT9.out.bl⟩

      · have hi8 : ¬ (i : Int) < (n : Int) := by omega
        clear hend hin
        cases hdn : D.down with
        | false =>
          rw [hdn] at HDN
          obtain ⟨D1, hD1⟩ : ∃ D1, D1 = D := ⟨_, rfl⟩
          rw [← hD1] at hdn HT HLE4 HN
          have HDa := Lib.hid hdn
          have HLa := HLE4
          have HNa := HN
          have HTa := HT
          clear hdn hD1
          go_wp2_with fail
          refine HDN.out.mono ?_
          rintro e w7 ⟨rfl, rfl⟩
          go_wp2_with fail
          refine (st_Read k HTa.out (by rw [HNa.out]; exact hk) HDa.out (Nat.lt_of_le_of_lt HLa.out.rd (by omega)) (Nat.le_trans HLa.out.ca (by omega))).mono ?_
          rintro e w8 ⟨jb, ob, rfl, hrb, hT8⟩
          have HRb := Lib.hid hrb
          obtain ⟨B, hB⟩ : ∃ B, B = rdB D1 k := ⟨_, rfl⟩
          rw [← hB] at HRb
          obtain ⟨D2, hD2⟩ : ∃ D2, D2 = ({ D1 with rd := D1.rd + 1 } : DS) := ⟨_, rfl⟩
          rw [← hD2] at hT8
          have HT8 := Lib.hid hT8
          have HL2 := Lib.hid (show D2.le 402 by rw [hD2]; exact rd_le HLa.out)
          have HN2 := Lib.hid (show D2.n = 64 by rw [hD2]; exact HNa.out)
          have HB2 := Lib.hid (show rdB D2 k = B by rw [hD2, hB]; rfl)
          have HFL := Lib.hid (st_Flush hT8 HL2.out.left (Nat.le_trans HL2.out.ca (by omega)) (Nat.lt_of_le_of_lt HL2.out.fl (by omega)))
          have HS2 := Lib.hid (fun h => fl_stays (k := k) hT8.dv.dev.len hT8.dv.ca.1 h)
          have HFN := Lib.hid (show (flD D2).2.n = 64 by rw [flD_n, HN2.out])
          have HFE := Lib.hid (flD_le HL2.out)
          clear hrb hT8 hB hD2
          go_wp2_with fail
          refine HFL.out.mono ?_
          rintro e w9 ⟨rfl, v9, hT9⟩
          have HT9 := Lib.hid hT9
          clear hT9 HFL
          by_cases hf0 : (flD D2).1 = 0
          · obtain ⟨hs1, hs2⟩ := HS2.out hf0
            rw [HB2.out] at hs2
            obtain ⟨D3, hD3⟩ : ∃ D3, D3 = (flD D2).2 := ⟨_, rfl⟩
            rw [← hD3] at hs1 hs2 HT9 HFN HFE
            rw [hf0]
            have HS1 := Lib.hid hs1
            have HS3 := Lib.hid hs2
            clear hs1 hs2 hD3 hf0
            go_wp2_with fail
            go_loopw [11, 12, 13, 14] (fun x _ _ _ wx => ∃ i : Nat, ∃ v D, i ≤ n' ∧ i ≤ 400 ∧ x = .int .i64 i ∧ D.le (403 + i) ∧ D.n = 64 ∧ (∀ y ∈ D.C, y.num ≠ k) ∧ blkM D.M k = B ∧ St w wx b g v D [(jb, ob)]) (fun x _ _ _ _ => 400 - (intOf x).toNat)
            case atStart => exact ⟨0, v9, D3, by omega, by omega, rfl, HFE.out, HFN.out, HS1.out, HS3.out, HT9.out⟩
            case round =>
              obtain ⟨i, v, D, hi, hi60, rfl, hle, hn, hne, hbk, hT⟩ := hrel
              have HT := Lib.hid hT
              have HLE := Lib.hid hle
              have HN := Lib.hid hn
              have HNE := Lib.hid hne
              have HBK := Lib.hid hbk
              clear hT hle hn hne hbk
              by_cases hin : i < n' ∧ i < 400
              · obtain ⟨hin, hi6⟩ := hin
                have hii : (0 : Int) ≤ (i : Int) ∧ (i : Int) < (n' : Int) ∧ (i : Int) < 400 := by omega
                obtain ⟨bb, oo, rfl, hca⟩ := HRO'.out.at_ (by omega)
                have hop := (hca i hin).ext HT.out.bl
                obtain ⟨x, hxx⟩ : ∃ x, x = l'.getD i default := ⟨_, rfl⟩
                rw [← hxx] at hop
                obtain ⟨hok, q0, q1, q2, q3, q4, q5, ⟨A6, n6, c6, q6, hr6⟩, ⟨A7, n7, c7, q7, hr7⟩⟩ := hop
                obtain ⟨two, kd, blk, num, ln, fill, BB, F⟩ := x
                have hB0 := (Below.refl _ wr).alloc (Nat.le_refl _) (.cells #[.bool two, .int .i64 kd, .int .i64 blk, .int .i64 num, .int .i64 ln, .int .u8 (fill.toNat : Int), .slice A6 n6 c6, .slice A7 n7 c7] 48)
                have HT5 := Lib.hid (HT.out.below hB0)
                have HPL := Lib.hid (st_play ⟨two, kd, blk, num, ln, fill, BB, F⟩ A6 A7 n6 c6 n7 c7 HT5.out hok (HLE.out.mono (by omega)) (hr6.ext hB0) (hr7.ext hB0))
                have HLE2 := Lib.hid (plD_le ⟨two, kd, blk, num, ln, fill, BB, F⟩ hok HLE.out)
                have HN2 := Lib.hid (show (plD D ⟨two, kd, blk, num, ln, fill, BB, F⟩).2.n = 64 by rw [plD_n, HN.out])
                have HKE := Lib.hid (fun hs => plD_keep (k := k) ⟨two, kd, blk, num, ln, fill, BB, F⟩ HT.out.dv.dev.len HT.out.dv.ca.1 (by rw [HN.out]; exact hk) HNE.out hs)
                clear hca hxx hok hr6 hr7 hB0
                by_cases k3 : kd = 3
                · subst k3
                  by_cases kb : blk = (k : Int)
                  · subst kb
                    go_wp2
                    go_roundw
                    case rel => exact ⟨i + 1, v, D, by omega, by omega, by go_num, HLE.out.mono (by omega), HN.out, HNE.out, HBK.out, HT5.out⟩
                    case measure => simp [intOf]; omega
                  · have eb : (blk == (k : Int)) = false := by simp [kb]
                    have HOFF := Lib.hid (show offK ⟨two, 3, blk, num, ln, fill, BB, F⟩ k from fun h => kb h.2)
                    clear kb
                    go_wp2_with fail
                    refine HPL.out.mono ?_
                    rintro e w6 ⟨rfl, v6, hT6⟩
                    obtain ⟨hk1, hk2⟩ := HKE.out HOFF.out
                    rw [HBK.out] at hk2
                    have HRW := Lib.hid (st_Raw k hT6 (by rw [HN2.out]; exact hk))
                    rw [hk2] at HRW
                    have HT6 := Lib.hid hT6
                    have HK1 := Lib.hid hk1
                    have HK2 := Lib.hid hk2
                    clear hT6 HPL q0 q1 q2 q3 q4 q5 q6 q7 hk1 hk2
                    go_wp2_with fail
                    refine HRW.out.mono ?_
                    rintro e w7 ⟨j7, o7, rfl, hr7, hT7⟩
                    have HSM := Lib.hid (l6_same _ _ 512 512 512 512 _ _ w7 (hT7.rd 1 rfl HRb.out (by omega)) (hT7.rd 0 rfl hr7 (by omega)))
                    rw [decide_eq_true rfl] at HSM
                    have HT7 := Lib.hid (hT7.sub (List.sublist_cons_self _ _))
                    clear hr7 hT7 HRW
                    go_wp2_with fail
                    refine HSM.out.mono ?_
                    rintro e w8 ⟨rfl, rfl⟩
                    go_wp2
                    go_roundw
                    case rel => exact ⟨i + 1, v6, _, by omega, by omega, by go_num, HLE2.out, HN2.out, HK1.out, HK2.out, HT7.out⟩
                    case measure => simp [intOf]; omega
                · by_cases k9 : kd = 9
                  · subst k9
                    clear k3
                    by_cases kb : blk = (k : Int)
                    · subst kb
                      go_wp2
                      go_roundw
                      case rel => exact ⟨i + 1, v, D, by omega, by omega, by go_num, HLE.out.mono (by omega), HN.out, HNE.out, HBK.out, HT5.out⟩
                      case measure => simp [intOf]; omega
                    · have eb : (blk == (k : Int)) = false := by simp [kb]
                      have HOFF := Lib.hid (show offK ⟨two, 9, blk, num, ln, fill, BB, F⟩ k from fun h => kb h.2)
                      clear kb
                      go_wp2_with fail
                      refine HPL.out.mono ?_
                      rintro e w6 ⟨rfl, v6, hT6⟩
                      obtain ⟨hk1, hk2⟩ := HKE.out HOFF.out
                      rw [HBK.out] at hk2
                      have HRW := Lib.hid (st_Raw k hT6 (by rw [HN2.out]; exact hk))
                      rw [hk2] at HRW
                      have HT6 := Lib.hid hT6
                      have HK1 := Lib.hid hk1
                      have HK2 := Lib.hid hk2
                      clear hT6 HPL q0 q1 q2 q3 q4 q5 q6 q7 hk1 hk2
                      go_wp2_with fail
                      refine HRW.out.mono ?_
                      rintro e w7 ⟨j7, o7, rfl, hr7, hT7⟩
                      have HSM := Lib.hid (l6_same _ _ 512 512 512 512 _ _ w7 (hT7.rd 1 rfl HRb.out (by omega)) (hT7.rd 0 rfl hr7 (by omega)))
                      rw [decide_eq_true rfl] at HSM
                      have HT7 := Lib.hid (hT7.sub (List.sublist_cons_self _ _))
                      clear hr7 hT7 HRW
                      go_wp2_with fail
                      refine HSM.out.mono ?_
                      rintro e w8 ⟨rfl, rfl⟩
                      go_wp2
                      go_roundw
                      case rel => exact ⟨i + 1, v6, _, by omega, by omega, by go_num, HLE2.out, HN2.out, HK1.out, HK2.out, HT7.out⟩
                      case measure => simp [intOf]; omega
                  · have e3 : (kd == 3) = false := by simp [k3]
                    have e9 : (kd == 9) = false := by simp [k9]
                    have HOFF := Lib.hid (show offK ⟨two, kd, blk, num, ln, fill, BB, F⟩ k from fun h => by
                      rcases h.1 with h | h
                      · exact k3 h
                      · exact k9 h)
                    clear k3 k9
                    go_wp2_with fail
                    refine HPL.out.mono ?_
                    rintro e w6 ⟨rfl, v6, hT6⟩
                    obtain ⟨hk1, hk2⟩ := HKE.out HOFF.out
                    rw [HBK.out] at hk2
                    have HRW := Lib.hid (st_Raw k hT6 (by rw [HN2.out]; exact hk))
                    rw [hk2] at HRW
                    have HT6 := Lib.hid hT6
                    have HK1 := Lib.hid hk1
                    have HK2 := Lib.hid hk2
                    clear hT6 HPL q0 q1 q2 q3 q4 q5 q6 q7 hk1 hk2
                    go_wp2_with fail
                    refine HRW.out.mono ?_
                    rintro e w7 ⟨j7, o7, rfl, hr7, hT7⟩
                    have HSM := Lib.hid (l6_same _ _ 512 512 512 512 _ _ w7 (hT7.rd 1 rfl HRb.out (by omega)) (hT7.rd 0 rfl hr7 (by omega)))
                    rw [decide_eq_true rfl] at HSM
                    have HT7 := Lib.hid (hT7.sub (List.sublist_cons_self _ _))
                    clear hr7 hT7 HRW
                    go_wp2_with fail
                    refine HSM.out.mono ?_
                    rintro e w8 ⟨rfl, rfl⟩
                    go_wp2
                    go_roundw
                    case rel => exact ⟨i + 1, v6, _, by omega, by omega, by go_num, HLE2.out, HN2.out, HK1.out, HK2.out, HT7.out⟩
                    case measure => simp [intOf]; omega
              · have hend : ¬ ((i : Int) < (n' : Int) ∧ (i : Int) < 400) := by omega
                by_cases hin2 : i < n'
                · have hi7 : ¬ (i : Int) < 400 := by omega
                  have hi8 : (i : Int) < (n' : Int) := by omega
                  clear hend hin
                  go_wp2
                  go_ret
                  exact ⟨by simp, HT.out.bl⟩
                · have hi8 : ¬ (i : Int) < (n' : Int) := by omega
                  clear hend hin
                  go_wp2
                  go_ret
                  exact ⟨by simp, HT.out.bl⟩
          · have hfb : ((flD D2).1 != 0) = true := by simp [hf0]
            have HDD := Lib.hid (fl_down D2 hf0)
            have HDW := Lib.hid (dv_Down w9 b g v9 (flD D2).2 HT9.out.dv)
            rw [HDD.out] at HDW
            generalize (flD D2).1 = E at hfb hf0 ⊢
            clear hf0
            go_wp2_with fail
            refine HDW.out.mono ?_
            rintro e w10 ⟨rfl, rfl⟩
            go_wp2
            go_ret
            exact ⟨by simp, HT9.out.bl⟩
        | true =>
          rw [hdn] at HDN
          have HCR := Lib.hid (st_Crash 0 0 none [] HT.out (Nat.le_trans HLE4.out.ca (by omega)) (RdF.nil _) (by simp))
          clear hdn
          go_wp2_with fail
          refine HDN.out.mono ?_
          rintro e w7 ⟨rfl, rfl⟩
          go_wp2_with fail
          refine HCR.out.mono ?_
          rintro e wa ⟨rfl, va, hTa⟩
          obtain ⟨D1, hD1⟩ : ∃ D1, D1 = crD D [] := ⟨_, rfl⟩
          rw [← hD1] at hTa
          have HTa := Lib.hid hTa
          have HDa := Lib.hid (show D1.down = false by rw [hD1]; rfl)
          have HLa := Lib.hid (show D1.le 401 by rw [hD1]; exact crD_le [] HLE4.out)
          have HNa := Lib.hid (show D1.n = 64 by rw [hD1]; exact HN.out)
          clear hTa hD1 HCR
          go_wp2_with fail
          refine (st_Read k HTa.out (by rw [HNa.out]; exact hk) HDa.out (Nat.lt_of_le_of_lt HLa.out.rd (by omega)) (Nat.le_trans HLa.out.ca (by omega))).mono ?_
          rintro e w8 ⟨jb, ob, rfl, hrb, hT8⟩
          have HRb := Lib.hid hrb
          obtain ⟨B, hB⟩ : ∃ B, B = rdB D1 k := ⟨_, rfl⟩
          rw [← hB] at HRb
          obtain ⟨D2, hD2⟩ : ∃ D2, D2 = ({ D1 with rd := D1.rd + 1 } : DS) := ⟨_, rfl⟩
          rw [← hD2] at hT8
          have HT8 := Lib.hid hT8
          have HL2 := Lib.hid (show D2.le 402 by rw [hD2]; exact rd_le HLa.out)
          have HN2 := Lib.hid (show D2.n = 64 by rw [hD2]; exact HNa.out)
          have HB2 := Lib.hid (show rdB D2 k = B by rw [hD2, hB]; rfl)
          have HFL := Lib.hid (st_Flush hT8 HL2.out.left (Nat.le_trans HL2.out.ca (by omega)) (Nat.lt_of_le_of_lt HL2.out.fl (by omega)))
          have HS2 := Lib.hid (fun h => fl_stays (k := k) hT8.dv.dev.len hT8.dv.ca.1 h)
          have HFN := Lib.hid (show (flD D2).2.n = 64 by rw [flD_n, HN2.out])
          have HFE := Lib.hid (flD_le HL2.out)
          clear hrb hT8 hB hD2
          go_wp2_with fail
          refine HFL.out.mono ?_
          rintro e w9 ⟨rfl, v9, hT9⟩
          have HT9 := Lib.hid hT9
          clear hT9 HFL
          by_cases hf0 : (flD D2).1 = 0
          · obtain ⟨hs1, hs2⟩ := HS2.out hf0
            rw [HB2.out] at hs2
            obtain ⟨D3, hD3⟩ : ∃ D3, D3 = (flD D2).2 := ⟨_, rfl⟩
            rw [← hD3] at hs1 hs2 HT9 HFN HFE
            rw [hf0]
            have HS1 := Lib.hid hs1
            have HS3 := Lib.hid hs2
            clear hs1 hs2 hD3 hf0
            go_wp2_with fail
            go_loopw [11, 12, 13, 14] (fun x _ _ _ wx => ∃ i : Nat, ∃ v D, i ≤ n' ∧ i ≤ 400 ∧ x = .int .i64 i ∧ D.le (403 + i) ∧ D.n = 64 ∧ (∀ y ∈ D.C, y.num ≠ k) ∧ blkM D.M k = B ∧ St w wx b g v D [(jb, ob)]) (fun x _ _ _ _ => 400 - (intOf x).toNat)
            case atStart => exact ⟨0, v9, D3, by omega, by omega, rfl, HFE.out, HFN.out, HS1.out, HS3.out, HT9.out⟩
            case round =>
              obtain ⟨i, v, D, hi, hi60, rfl, hle, hn, hne, hbk, hT⟩ := hrel
              have HT := Lib.hid hT
              have HLE := Lib.hid hle
              have HN := Lib.hid hn
              have HNE := Lib.hid hne
              have HBK := Lib.hid hbk
              clear hT hle hn hne hbk
              by_cases hin : i < n' ∧ i < 400
              · obtain ⟨hin, hi6⟩ := hin
                have hii : (0 : Int) ≤ (i : Int) ∧ (i : Int) < (n' : Int) ∧ (i : Int) < 400 := by omega
                obtain ⟨bb, oo, rfl, hca⟩ := HRO'.out.at_ (by omega)
                have hop := (hca i hin).ext HT.out.bl
                obtain ⟨x, hxx⟩ : ∃ x, x = l'.getD i default := ⟨_, rfl⟩
                rw [← hxx] at hop
                obtain ⟨hok, q0, q1, q2, q3, q4, q5, ⟨A6, n6, c6, q6, hr6⟩, ⟨A7, n7, c7, q7, hr7⟩⟩ := hop
                obtain ⟨two, kd, blk, num, ln, fill, BB, F⟩ := x
                have hB0 := (Below.refl _ wr).alloc (Nat.le_refl _) (.cells #[.bool two, .int .i64 kd, .int .i64 blk, .int .i64 num, .int .i64 ln, .int .u8 (fill.toNat : Int), .slice A6 n6 c6, .slice A7 n7 c7] 48)
                have HT5 := Lib.hid (HT.out.below hB0)
                have HPL := Lib.hid (st_play ⟨two, kd, blk, num, ln, fill, BB, F⟩ A6 A7 n6 c6 n7 c7 HT5.out hok (HLE.out.mono (by omega)) (hr6.ext hB0) (hr7.ext hB0))
                have HLE2 := Lib.hid (plD_le ⟨two, kd, blk, num, ln, fill, BB, F⟩ hok HLE.out)
                have HN2 := Lib.hid (show (plD D ⟨two, kd, blk, num, ln, fill, BB, F⟩).2.n = 64 by rw [plD_n, HN.out])
                have HKE := Lib.hid (fun hs => plD_keep (k := k) ⟨two, kd, blk, num, ln, fill, BB, F⟩ HT.out.dv.dev.len HT.out.dv.ca.1 (by rw [HN.out]; exact hk) HNE.out hs)
                clear hca hxx hok hr6 hr7 hB0
                by_cases k3 : kd = 3
                · subst k3
                  by_cases kb : blk = (k : Int)
                  · subst kb
                    go_wp2
                    go_roundw
                    case rel => exact ⟨i + 1, v, D, by omega, by omega, by go_num, HLE.out.mono (by omega), HN.out, HNE.out, HBK.out, HT5.out⟩
                    case measure => simp [intOf]; omega
                  · have eb : (blk == (k : Int)) = false := by simp [kb]
                    have HOFF := Lib.hid (show offK ⟨two, 3, blk, num, ln, fill, BB, F⟩ k from fun h => kb h.2)
                    clear kb
                    go_wp2_with fail
                    refine HPL.out.mono ?_
                    rintro e w6 ⟨rfl, v6, hT6⟩
                    obtain ⟨hk1, hk2⟩ := HKE.out HOFF.out
                    rw [HBK.out] at hk2
                    have HRW := Lib.hid (st_Raw k hT6 (by rw [HN2.out]; exact hk))
                    rw [hk2] at HRW
                    have HT6 := Lib.hid hT6
                    have HK1 := Lib.hid hk1
                    have HK2 := Lib.hid hk2
                    clear hT6 HPL q0 q1 q2 q3 q4 q5 q6 q7 hk1 hk2
                    go_wp2_with fail
                    refine HRW.out.mono ?_
                    rintro e w7 ⟨j7, o7, rfl, hr7, hT7⟩
                    have HSM := Lib.hid (l6_same _ _ 512 512 512 512 _ _ w7 (hT7.rd 1 rfl HRb.out (by omega)) (hT7.rd 0 rfl hr7 (by omega)))
                    rw [decide_eq_true rfl] at HSM
                    have HT7 := Lib.hid (hT7.sub (List.sublist_cons_self _ _))
                    clear hr7 hT7 HRW
                    go_wp2_with fail
                    refine HSM.out.mono ?_
                    rintro e w8 ⟨rfl, rfl⟩
                    go_wp2
                    go_roundw
                    case rel => exact ⟨i + 1, v6, _, by omega, by omega, by go_num, HLE2.out, HN2.out, HK1.out, HK2.out, HT7.out⟩
                    case measure => simp [intOf]; omega
                · by_cases k9 : kd = 9
                  · subst k9
                    clear k3
                    by_cases kb : blk = (k : Int)
                    · subst kb
                      go_wp2
                      go_roundw
                      case rel => exact ⟨i + 1, v, D, by omega, by omega, by go_num, HLE.out.mono (by omega), HN.out, HNE.out, HBK.out, HT5.out⟩
                      case measure => simp [intOf]; omega
                    · have eb : (blk == (k : Int)) = false := by simp [kb]
                      have HOFF := Lib.hid (show offK ⟨two, 9, blk, num, ln, fill, BB, F⟩ k from fun h => kb h.2)
                      clear kb
                      go_wp2_with fail
                      refine HPL.out.mono ?_
                      rintro e w6 ⟨rfl, v6, hT6⟩
                      obtain ⟨hk1, hk2⟩ := HKE.out HOFF.out
                      rw [HBK.out] at hk2
                      have HRW := Lib.hid (st_Raw k hT6 (by rw [HN2.out]; exact hk))
                      rw [hk2] at HRW
                      have HT6 := Lib.hid hT6
                      have HK1 := Lib.hid hk1
                      have HK2 := Lib.hid hk2
                      clear hT6 HPL q0 q1 q2 q3 q4 q5 q6 q7 hk1 hk2
                      go_wp2_with fail
                      refine HRW.out.mono ?_
                      rintro e w7 ⟨j7, o7, rfl, hr7, hT7⟩
                      have HSM := Lib.hid (l6_same _ _ 512 512 512 512 _ _ w7 (hT7.rd 1 rfl HRb.out (by omega)) (hT7.rd 0 rfl hr7 (by omega)))
                      rw [decide_eq_true rfl] at HSM
                      have HT7 := Lib.hid (hT7.sub (List.sublist_cons_self _ _))
                      clear hr7 hT7 HRW
                      go_wp2_with fail
                      refine HSM.out.mono ?_
                      rintro e w8 ⟨rfl, rfl⟩
                      go_wp2
                      go_roundw
                      case rel => exact ⟨i + 1, v6, _, by omega, by omega, by go_num, HLE2.out, HN2.out, HK1.out, HK2.out, HT7.out⟩
                      case measure => simp [intOf]; omega
                  · have e3 : (kd == 3) = false := by simp [k3]
                    have e9 : (kd == 9) = false := by simp [k9]
                    have HOFF := Lib.hid (show offK ⟨two, kd, blk, num, ln, fill, BB, F⟩ k from fun h => by
                      rcases h.1 with h | h
                      · exact k3 h
                      · exact k9 h)
                    clear k3 k9
                    go_wp2_with fail
                    refine HPL.out.mono ?_
                    rintro e w6 ⟨rfl, v6, hT6⟩
                    obtain ⟨hk1, hk2⟩ := HKE.out HOFF.out
                    rw [HBK.out] at hk2
                    have HRW := Lib.hid (st_Raw k hT6 (by rw [HN2.out]; exact hk))
                    rw [hk2] at HRW
                    have HT6 := Lib.hid hT6
                    have HK1 := Lib.hid hk1
                    have HK2 := Lib.hid hk2
                    clear hT6 HPL q0 q1 q2 q3 q4 q5 q6 q7 hk1 hk2
                    go_wp2_with fail
                    refine HRW.out.mono ?_
                    rintro e w7 ⟨j7, o7, rfl, hr7, hT7⟩
                    have HSM := Lib.hid (l6_same _ _ 512 512 512 512 _ _ w7 (hT7.rd 1 rfl HRb.out (by omega)) (hT7.rd 0 rfl hr7 (by omega)))
                    rw [decide_eq_true rfl] at HSM
                    have HT7 := Lib.hid (hT7.sub (List.sublist_cons_self _ _))
                    clear hr7 hT7 HRW
                    go_wp2_with fail
                    refine HSM.out.mono ?_
                    rintro e w8 ⟨rfl, rfl⟩
                    go_wp2
                    go_roundw
                    case rel => exact ⟨i + 1, v6, _, by omega, by omega, by go_num, HLE2.out, HN2.out, HK1.out, HK2.out, HT7.out⟩
                    case measure => simp [intOf]; omega
              · have hend : ¬ ((i : Int) < (n' : Int) ∧ (i : Int) < 400) := by omega
                by_cases hin2 : i < n'
                · have hi7 : ¬ (i : Int) < 400 := by omega
                  have hi8 : (i : Int) < (n' : Int) := by omega
                  clear hend hin
                  go_wp2
                  go_ret
                  exact ⟨by simp, HT.out.bl⟩
                · have hi8 : ¬ (i : Int) < (n' : Int) := by omega
                  clear hend hin
                  go_wp2
                  go_ret
                  exact ⟨by simp, HT.out.bl⟩
          · have hfb : ((flD D2).1 != 0) = true := by simp [hf0]
            have HDD := Lib.hid (fl_down D2 hf0)
            have HDW := Lib.hid (dv_Down w9 b g v9 (flD D2).2 HT9.out.dv)
            rw [HDD.out] at HDW
            generalize (flD D2).1 = E at hfb hf0 ⊢
            clear hf0
            go_wp2_with fail
            refine HDW.out.mono ?_
            rintro e w10 ⟨rfl, rfl⟩
            go_wp2
            go_ret
            exact ⟨by simp, HT9.out.bl⟩

end Go.Proofs.Ytjbffahmjhbpjaa
