/- The walk of DevCarried. -/
import Derived.Test.YtjbffahmjhbpjaaDvs2
set_option linter.unusedVariables false
set_option linter.unusedSimpArgs false
set_option maxRecDepth 100000
namespace Go.Proofs.Ytjbffahmjhbpjaa
open Go.RowKit
set_option maxHeartbeats 4000000 in
theorem walk_DevCarried (A : Option Addr) (n c : Nat) (l : List OpD) (A' : Option Addr) (n' c' : Nat) (l' : List OpD) (w : World) (hr : RdO w A n c l) (hr' : RdO w A' n' c' l') :
    Calls Try.prog 10 #[.slice A n c, .slice A' n' c'] w fun e w' => e = .returned (.bool true) ∧ Below w.heap.size w w' := by
  have HRO := Lib.hid hr
  have hmx := hr.max
  have HRO' := Lib.hid hr'
  have hmx' := hr'.max
  clear hr hr'
  go_enter Try.func10, Try.ntmps10
  go_wp2_with fail
  refine (st_lives w).mono ?_
  rintro e w1 ⟨b, g, vc, rfl, hT⟩
  have HT1 := Lib.hid hT
  clear hT
  go_wp2_with fail
  go_loopw [6] (fun x wx => ∃ i : Nat, ∃ v D, i ≤ n ∧ i ≤ 400 ∧ x = .int .i64 i ∧ D.le (1 + i) ∧ D.n = 64 ∧ St w wx b g v D []) (fun x _ => 400 - (intOf x).toNat)
  case atStart => exact ⟨0, vc, liveD, by omega, by omega, rfl, liveD_le, rfl, HT1.out⟩
  case round =>
    obtain ⟨i, v, D, hi, hi60, rfl, hle, hn, hT⟩ := hrel
    have HT := Lib.hid hT
    have HLE := Lib.hid hle
    have HN := Lib.hid hn
    clear hT hle hn
    by_cases hin : i < n ∧ i < 400
    · obtain ⟨hin, hi6⟩ := hin
      have hii : (0 : Int) ≤ (i : Int) ∧ (i : Int) < (n : Int) ∧ (i : Int) < 400 := by omega
      obtain ⟨bb, oo, rfl, hca⟩ := HRO.out.at_ (by omega)
      have hop := (hca i hin).ext HT.out.bl
      obtain ⟨x, hxx⟩ : ∃ x, x = l.getD i default := ⟨_, rfl⟩
      rw [← hxx] at hop
      obtain ⟨hok, q0, q1, q2, q3, q4, q5, ⟨A6, n6, c6, q6, hr6⟩, ⟨A7, n7, c7, q7, hr7⟩⟩ := hop
      have HPL := Lib.hid (st_play x A6 A7 n6 c6 n7 c7 HT.out hok (HLE.out.mono (by omega)) hr6 hr7)
      have HLE2 := Lib.hid (plD_le x hok HLE.out)
      have HN2 := Lib.hid (show (plD D x).2.n = 64 by rw [plD_n, HN.out])
      clear hca hxx hok hr6 hr7
      go_wp2_with fail
      refine HPL.out.mono ?_
      rintro e w6 ⟨rfl, v6, hT6⟩
      have HT6 := Lib.hid hT6
      clear hT6 HPL q0 q1 q2 q3 q4 q5 q6 q7
      go_wp2
      go_roundw
      case rel => exact ⟨i + 1, v6, _, by omega, by omega, by go_num, HLE2.out, HN2.out, HT6.out⟩
      case measure => simp [intOf]; omega
    · have hend : ¬ ((i : Int) < (n : Int) ∧ (i : Int) < 400) := by omega
      have HLE4 := Lib.hid (HLE.out.mono (show 1 + i ≤ 401 by omega))
      by_cases hin2 : i < n
      · have hi7 : ¬ (i : Int) < 400 := by omega
        have hi8 : (i : Int) < (n : Int) := by omega
        clear hend hin
        go_wp2_with fail
        refine (st_Med64 HT.out HN.out).mono ?_
        rintro e w8 ⟨jm, cm, om, rfl, hrm, hT8⟩
        obtain ⟨LM, hLM⟩ : ∃ LM, LM = D.M := ⟨_, rfl⟩
        have HLM := Lib.hid (show LM.length = 32768 by rw [hLM, HT.out.dv.dev.len, HN.out])
        have HCM := Lib.hid (show (crD D []).M = LM by rw [hLM]; exact crD_nil_M HT.out.dv.dev.len HT.out.dv.ca.1)
        rw [← hLM] at hrm
        have HRm := Lib.hid hrm
        have HT8 := Lib.hid hT8
        have HRD8 := Lib.hid (hT8.rd 0 rfl hrm (by omega))
        clear hrm hT8 hLM
        go_wp2_with (at_builtin; refine wp_app (w0 := w8) w8.heap.size (Own.nil _ _) HRD8.out (Below.refl _ _) (Nat.le_refl _) (by omega) _ _ rfl rfl rfl rfl ?_; intro v9 w9 hO9 hB9 hG9 hA9; have HO9 := Lib.hid hO9; have HB9 := Lib.hid hB9; clear hO9 hB9 hG9 hA9)
        have hO9 := HO9.out
        rw [Nat.zero_add, List.nil_append] at hO9
        obtain ⟨jk, ck, ok, rfl, hrk, hT9⟩ := HT8.out.newB hO9 HB9.out (by omega)
        have HRk := Lib.hid hrk
        have HT9 := Lib.hid hT9
        clear hO9 hrk hT9
        have HOF := Lib.hid (st_Of 1 HT9.out rfl HRm.out)
        refine HOF.out.mono ?_
        rintro e w10 ⟨b2, g2, rfl, hT10, hne⟩
        have HT10 := Lib.hid hT10
        have HNE := Lib.hid hne
        have HSM10 := Lib.hid (l6_same _ _ 32768 cm 32768 ck _ _ w10 (hT10.rd 3 rfl HRm.out (by omega)) (hT10.rd 2 rfl HRk.out (by omega)))
        rw [decide_eq_true rfl] at HSM10
        clear hT10 hne
        go_wp2_with fail
        refine HSM10.out.mono ?_
        rintro e w11 ⟨rfl, rfl⟩
        have HCR := Lib.hid (st_Crash 0 0 none [] HT10.out (Nat.le_trans HLE4.out.ca (by omega)) (RdF.nil _) (by simp))
        clear HSM10
        go_wp2_with fail
        refine HCR.out.mono ?_
        rintro e w12 ⟨rfl, v12, hT12⟩
        have HM12 := Lib.hid (st_Med64 hT12 (show (crD D []).n = 64 from HN.out))
        rw [HCM.out] at HM12
        have HT12 := Lib.hid hT12
        clear hT12 HCR
        go_wp2_with fail
        refine HM12.out.mono ?_
        rintro e w13 ⟨j13, c13, o13, rfl, hr13, hT13⟩
        have HSM13 := Lib.hid (l6_same _ _ 32768 c13 32768 ck _ _ w13 (hT13.rd 0 rfl hr13 (by omega)) (hT13.rd 3 rfl HRk.out (by omega)))
        rw [decide_eq_true rfl] at HSM13
        have HT13 := Lib.hid (hT13.sub (List.sublist_cons_self _ _))
        clear hr13 hT13 HM12
        go_wp2_with fail
        refine HSM13.out.mono ?_
        rintro e w14 ⟨rfl, rfl⟩
        obtain ⟨D1, hD1⟩ : ∃ D1, D1 = crD D [] := ⟨_, rfl⟩
        rw [← hD1] at HT13
        have HL1 := Lib.hid (show D1.le 401 by rw [hD1]; exact crD_le [] HLE4.out)
        have HN1 := Lib.hid (show D1.n = 64 by rw [hD1]; exact HN.out)
        clear HSM13 hD1
        go_wp2_with fail
        go_loopw [11] (fun x wx => ∃ j : Nat, ∃ o' L', j ≤ 32768 ∧ x = .int .i64 j ∧ RowB o' 32768 cm L' ∧ St w wx b g v12 D1 [(b2, ofO g2), (g2, ofM2 LM), (jk, ok), (jm, o')]) (fun x _ => 32768 - (intOf x).toNat)
        case atStart => exact ⟨0, om, LM, by omega, rfl, HRm.out, HT13.out⟩
        case round =>
          obtain ⟨j, o', L', hj, rfl, hr, hT⟩ := hrel
          have HR := Lib.hid hr
          have HTj := Lib.hid hT
          by_cases hj2 : j < 32768
          · have hcell := hT.cell 3 rfl hr j (by omega)
            have hfree := hr.free (hT.get 3 rfl) j
            obtain ⟨y, hy⟩ : ∃ y, y = L'.getD j 0 := ⟨_, rfl⟩
            rw [← hy] at hcell
            obtain ⟨z, hz⟩ : ∃ z, z = y + 1 := ⟨_, rfl⟩
            have hm1 : ((y.toNat : Int) + 1) % 256 = (z.toNat : Int) := by rw [hz]; exact u8_mod y 1 (by omega)
            have hp1 : IntKind.u8.wrap ((y.toNat : Int) + 1) = (z.toNat : Int) := by rw [hz]; exact u8_plus y 1 (by omega)
            obtain ⟨o2, ho2, hr2⟩ := hr.store (hT.get 3 rfl) j z
            have HN3 := Lib.hid (And.intro hr2 (hT.store 3 j _ rfl ho2))
            have hji : (0 : Int) ≤ (j : Int) ∧ (j : Int) < 32768 := by omega
            have HJ := Lib.hid hj2
            clear hr hT ho2 hr2 hj hj2 hy hz
            go_wp2
            go_roundw
            case rel => exact ⟨j + 1, o2, _, HJ.out, by go_num, HN3.out.1, HN3.out.2⟩
            case measure => have := HJ.out; simp [intOf]; omega
          · obtain rfl : j = 32768 := by omega
            clear hr hT
            go_wp2_with fail
            (try rw [show ((32768 : Nat) : Int) = 32768 from rfl])
            go_loopw [12] (fun x wx => ∃ i : Nat, ∃ v D, i ≤ n' ∧ i ≤ 400 ∧ x = .int .i64 i ∧ D.le (402 + i) ∧ D.n = 64 ∧ St w wx b g v D [(b2, ofO g2), (g2, ofM2 LM), (jk, ok), (jm, o')]) (fun x _ => 400 - (intOf x).toNat)
            case atStart => exact ⟨0, v12, D1, by omega, by omega, rfl, HL1.out.mono (by omega), HN1.out, HTj.out⟩
            case round =>
              obtain ⟨i, v, D, hi, hi60, rfl, hle, hn, hT⟩ := hrel
              have HT := Lib.hid hT
              have HLE := Lib.hid hle
              have HN := Lib.hid hn
              clear hT hle hn
              by_cases hin : i < n' ∧ i < 400
              · obtain ⟨hin, hi6⟩ := hin
                have hii : (0 : Int) ≤ (i : Int) ∧ (i : Int) < (n' : Int) ∧ (i : Int) < 400 := by omega
                obtain ⟨bb, oo, rfl, hca⟩ := HRO'.out.at_ (by omega)
                have hop := (hca i hin).ext HT.out.bl
                obtain ⟨x, hxx⟩ : ∃ x, x = l'.getD i default := ⟨_, rfl⟩
                rw [← hxx] at hop
                obtain ⟨hok, q0, q1, q2, q3, q4, q5, ⟨A6, n6, c6, q6, hr6⟩, ⟨A7, n7, c7, q7, hr7⟩⟩ := hop
                have HPL := Lib.hid (st_play x A6 A7 n6 c6 n7 c7 HT.out hok (HLE.out.mono (by omega)) hr6 hr7)
                have HLE2 := Lib.hid (plD_le x hok HLE.out)
                have HN2 := Lib.hid (show (plD D x).2.n = 64 by rw [plD_n, HN.out])
                clear hca hxx hok hr6 hr7
                go_wp2_with fail
                refine HPL.out.mono ?_
                rintro e w6 ⟨rfl, v6, hT6⟩
                have HT6 := Lib.hid hT6
                clear hT6 HPL q0 q1 q2 q3 q4 q5 q6 q7
                go_wp2
                go_roundw
                case rel => exact ⟨i + 1, v6, _, by omega, by omega, by go_num, HLE2.out, HN2.out, HT6.out⟩
                case measure => simp [intOf]; omega
              · have hend : ¬ ((i : Int) < (n' : Int) ∧ (i : Int) < 400) := by omega
                have HX := Lib.hid ((St.swap HT.out (ofV (HT.out.get 0 rfl) (HT.out.get 1 rfl) HLM.out HNE.out)).sub (R' := [(jk, ok)]) (by simp))
                by_cases hin2 : i < n'
                · have hi7 : ¬ (i : Int) < 400 := by omega
                  have hi8 : (i : Int) < (n' : Int) := by omega
                  clear hend hin
                  go_wp2_with fail
                  have hNi : ((64 : Nat) : Int) = 64 := rfl
                  refine (dv_BlocksV wr _ _ _ _ HX.out.dv).mono ?_
                  rintro e w30 ⟨rfl, rfl⟩
                  have HDX := Lib.hid (dv_Down w30 _ _ _ _ HX.out.dv)
                  have HPX := Lib.hid (st_PendN HX.out (by show 0 ≤ _; omega))
                  rw [show (ofD LM 0).C.length = 0 from rfl] at HPX
                  rw [show (ofD LM 0).down = false from rfl] at HDX
                  rw [show (((ofD LM 0).n : Nat) : Int) = 64 from rfl]
                  clear hNi
                  go_wp2_with fail
                  refine HDX.out.mono ?_
                  rintro e w31 ⟨rfl, rfl⟩
                  go_wp2_with fail
                  refine HPX.out.mono ?_
                  rintro e w32 ⟨A32, c32, R32, rfl, _, hX32⟩
                  have HX32 := Lib.hid (hX32.sub (R' := [(jk, ok)]) (List.sublist_append_left _ _))
                  clear hX32 HDX HPX
                  go_wp2_with fail
                  refine (dv_Counts w32 _ _ _ _ HX32.out.dv).mono ?_
                  rintro e w33 ⟨rfl, hB33⟩
                  have HX33 := Lib.hid (HX32.out.below hB33)
                  rw [show cntV (ofD LM 0) = .agg #[.int .i64 0, .int .i64 0, .int .i64 0] from rfl]
                  clear hB33
                  go_wp2_with fail
                  go_loopw [13, 14, 15] (fun x _ _ wx => ∃ j : Nat, j ≤ 64 ∧ x = .int .i64 j ∧ St w wx b2 g2 (.slice none 0 0) (ofD LM j) [(jk, ok)]) (fun x _ _ _ => 64 - (intOf x).toNat)
                  case atStart => exact ⟨0, by omega, rfl, HX33.out⟩
                  case round =>
                    obtain ⟨j, hj, rfl, hX⟩ := hrel
                    have HXj := Lib.hid hX
                    clear hX
                    by_cases hj2 : j < 64
                    · have hji : (0 : Int) ≤ (j : Int) ∧ (j : Int) < 64 := by omega
                      have hw1 : IntKind.i64.wrap (512 * (j : Int)) = 512 * (j : Int) := IntWalk.i64_in _ (by omega)
                      have hw2 : IntKind.i64.wrap (512 * (j : Int) + 512) = 512 * (j : Int) + 512 := IntWalk.i64_in _ (by omega)
                      obtain ⟨An, hcut, hrn⟩ := cut_mid (some ⟨jk, 0, none⟩) 32768 ck (512 * j) (512 * j + 512) (by omega) (by omega) HRk.out.cap
                      rw [show 512 * j + 512 - 512 * j = 512 by omega, show ((512 * j : Nat) : Int) = 512 * (j : Int) by omega, show ((512 * j + 512 : Nat) : Int) = 512 * (j : Int) + 512 by omega] at hcut
                      rw [show 512 * j + 512 - 512 * j = 512 by omega] at hrn
                      have HCN := Lib.hid hrn
                      have HJ := Lib.hid hj2
                      have HRX := Lib.hid (st_Read j HXj.out hj2 rfl (by show j < _; omega) (by show 0 ≤ _; omega))
                      clear hrn hj2 hj
                      go_wp2_with fail
                      refine HRX.out.mono ?_
                      rintro e w40 ⟨j40, o40, rfl, hr40, hX40⟩
                      have HSM := Lib.hid (l6_same _ _ 512 512 512 (ck - 512 * j) _ _ w40 (hX40.rd 0 rfl hr40 (by omega)) (HCN.out w40 _ (hX40.rd 1 rfl HRk.out (by omega))))
                      rw [decide_eq_true (show rdB (ofD LM j) j = (LM.drop (512 * j)).take 512 by rw [Nat.mul_comm]; rfl)] at HSM
                      have HX40 := Lib.hid (hX40.sub (List.sublist_cons_self _ _))
                      clear hr40 hX40 HRX
                      go_wp2_with fail
                      refine HSM.out.mono ?_
                      rintro e w41 ⟨rfl, rfl⟩
                      go_wp2
                      go_roundw
                      case rel => exact ⟨j + 1, HJ.out, by go_num, HX40.out⟩
                      case measure => have := HJ.out; simp [intOf]; omega
                    · obtain rfl : j = 64 := by omega
                      go_wp2_with fail
                      refine (st_Med64 HXj.out rfl).mono ?_
                      rintro e w50 ⟨j50, c50, o50, rfl, hr50, hX50⟩
                      have HSM := Lib.hid (l6_same _ _ 32768 c50 32768 ck _ _ w50 (hX50.rd 0 rfl hr50 (by omega)) (hX50.rd 1 rfl HRk.out (by omega)))
                      rw [decide_eq_true (show (ofD LM 64).M = LM from rfl)] at HSM
                      have HX50 := Lib.hid hX50
                      clear hr50 hX50
                      go_wp2_with fail
                      refine HSM.out.mono ?_
                      rintro e w51 ⟨rfl, rfl⟩
                      go_wp2_with fail
                      refine (dv_Counts w51 _ _ _ _ HX50.out.dv).mono ?_
                      rintro e w52 ⟨rfl, hB52⟩
                      have HX52 := Lib.hid (HX50.out.below hB52)
                      rw [show cntV (ofD LM 64) = .agg #[.int .i64 64, .int .i64 0, .int .i64 0] from rfl]
                      clear hB52
                      go_wp2
                      go_ret
                      exact ⟨by simp, HX52.out.bl⟩
                · have hi8 : ¬ (i : Int) < (n' : Int) := by omega
                  clear hend hin
                  go_wp2_with fail
                  have hNi : ((64 : Nat) : Int) = 64 := rfl
                  refine (dv_BlocksV wr _ _ _ _ HX.out.dv).mono ?_
                  rintro e w30 ⟨rfl, rfl⟩
                  have HDX := Lib.hid (dv_Down w30 _ _ _ _ HX.out.dv)
                  have HPX := Lib.hid (st_PendN HX.out (by show 0 ≤ _; omega))
                  rw [show (ofD LM 0).C.length = 0 from rfl] at HPX
                  rw [show (ofD LM 0).down = false from rfl] at HDX
                  rw [show (((ofD LM 0).n : Nat) : Int) = 64 from rfl]
                  clear hNi
                  go_wp2_with fail
                  refine HDX.out.mono ?_
                  rintro e w31 ⟨rfl, rfl⟩
                  go_wp2_with fail
                  refine HPX.out.mono ?_
                  rintro e w32 ⟨A32, c32, R32, rfl, _, hX32⟩
                  have HX32 := Lib.hid (hX32.sub (R' := [(jk, ok)]) (List.sublist_append_left _ _))
                  clear hX32 HDX HPX
                  go_wp2_with fail
                  refine (dv_Counts w32 _ _ _ _ HX32.out.dv).mono ?_
                  rintro e w33 ⟨rfl, hB33⟩
                  have HX33 := Lib.hid (HX32.out.below hB33)
                  rw [show cntV (ofD LM 0) = .agg #[.int .i64 0, .int .i64 0, .int .i64 0] from rfl]
                  clear hB33
                  go_wp2_with fail
                  go_loopw [13, 14, 15] (fun x _ _ wx => ∃ j : Nat, j ≤ 64 ∧ x = .int .i64 j ∧ St w wx b2 g2 (.slice none 0 0) (ofD LM j) [(jk, ok)]) (fun x _ _ _ => 64 - (intOf x).toNat)
                  case atStart => exact ⟨0, by omega, rfl, HX33.out⟩
                  case round =>
                    obtain ⟨j, hj, rfl, hX⟩ := hrel
                    have HXj := Lib.hid hX
                    clear hX
                    by_cases hj2 : j < 64
                    · have hji : (0 : Int) ≤ (j : Int) ∧ (j : Int) < 64 := by omega
                      have hw1 : IntKind.i64.wrap (512 * (j : Int)) = 512 * (j : Int) := IntWalk.i64_in _ (by omega)
                      have hw2 : IntKind.i64.wrap (512 * (j : Int) + 512) = 512 * (j : Int) + 512 := IntWalk.i64_in _ (by omega)
                      obtain ⟨An, hcut, hrn⟩ := cut_mid (some ⟨jk, 0, none⟩) 32768 ck (512 * j) (512 * j + 512) (by omega) (by omega) HRk.out.cap
                      rw [show 512 * j + 512 - 512 * j = 512 by omega, show ((512 * j : Nat) : Int) = 512 * (j : Int) by omega, show ((512 * j + 512 : Nat) : Int) = 512 * (j : Int) + 512 by omega] at hcut
                      rw [show 512 * j + 512 - 512 * j = 512 by omega] at hrn
                      have HCN := Lib.hid hrn
                      have HJ := Lib.hid hj2
                      have HRX := Lib.hid (st_Read j HXj.out hj2 rfl (by show j < _; omega) (by show 0 ≤ _; omega))
                      clear hrn hj2 hj
                      go_wp2_with fail
                      refine HRX.out.mono ?_
                      rintro e w40 ⟨j40, o40, rfl, hr40, hX40⟩
                      have HSM := Lib.hid (l6_same _ _ 512 512 512 (ck - 512 * j) _ _ w40 (hX40.rd 0 rfl hr40 (by omega)) (HCN.out w40 _ (hX40.rd 1 rfl HRk.out (by omega))))
                      rw [decide_eq_true (show rdB (ofD LM j) j = (LM.drop (512 * j)).take 512 by rw [Nat.mul_comm]; rfl)] at HSM
                      have HX40 := Lib.hid (hX40.sub (List.sublist_cons_self _ _))
                      clear hr40 hX40 HRX
                      go_wp2_with fail
                      refine HSM.out.mono ?_
                      rintro e w41 ⟨rfl, rfl⟩
                      go_wp2
                      go_roundw
                      case rel => exact ⟨j + 1, HJ.out, by go_num, HX40.out⟩
                      case measure => have := HJ.out; simp [intOf]; omega
                    · obtain rfl : j = 64 := by omega
                      go_wp2_with fail
                      refine (st_Med64 HXj.out rfl).mono ?_
                      rintro e w50 ⟨j50, c50, o50, rfl, hr50, hX50⟩
                      have HSM := Lib.hid (l6_same _ _ 32768 c50 32768 ck _ _ w50 (hX50.rd 0 rfl hr50 (by omega)) (hX50.rd 1 rfl HRk.out (by omega)))
                      rw [decide_eq_true (show (ofD LM 64).M = LM from rfl)] at HSM
                      have HX50 := Lib.hid hX50
                      clear hr50 hX50
                      go_wp2_with fail
                      refine HSM.out.mono ?_
                      rintro e w51 ⟨rfl, rfl⟩
                      go_wp2_with fail
                      refine (dv_Counts w51 _ _ _ _ HX50.out.dv).mono ?_
                      rintro e w52 ⟨rfl, hB52⟩
                      have HX52 := Lib.hid (HX50.out.below hB52)
                      rw [show cntV (ofD LM 64) = .agg #[.int .i64 64, .int .i64 0, .int .i64 0] from rfl]
                      clear hB52
                      go_wp2
                      go_ret
                      exact ⟨by simp, HX52.out.bl⟩
      · have hi8 : ¬ (i : Int) < (n : Int) := by omega
        clear hend hin
        go_wp2_with fail
        refine (st_Med64 HT.out HN.out).mono ?_
        rintro e w8 ⟨jm, cm, om, rfl, hrm, hT8⟩
        obtain ⟨LM, hLM⟩ : ∃ LM, LM = D.M := ⟨_, rfl⟩
        have HLM := Lib.hid (show LM.length = 32768 by rw [hLM, HT.out.dv.dev.len, HN.out])
        have HCM := Lib.hid (show (crD D []).M = LM by rw [hLM]; exact crD_nil_M HT.out.dv.dev.len HT.out.dv.ca.1)
        rw [← hLM] at hrm
        have HRm := Lib.hid hrm
        have HT8 := Lib.hid hT8
        have HRD8 := Lib.hid (hT8.rd 0 rfl hrm (by omega))
        clear hrm hT8 hLM
        go_wp2_with (at_builtin; refine wp_app (w0 := w8) w8.heap.size (Own.nil _ _) HRD8.out (Below.refl _ _) (Nat.le_refl _) (by omega) _ _ rfl rfl rfl rfl ?_; intro v9 w9 hO9 hB9 hG9 hA9; have HO9 := Lib.hid hO9; have HB9 := Lib.hid hB9; clear hO9 hB9 hG9 hA9)
        have hO9 := HO9.out
        rw [Nat.zero_add, List.nil_append] at hO9
        obtain ⟨jk, ck, ok, rfl, hrk, hT9⟩ := HT8.out.newB hO9 HB9.out (by omega)
        have HRk := Lib.hid hrk
        have HT9 := Lib.hid hT9
        clear hO9 hrk hT9
        have HOF := Lib.hid (st_Of 1 HT9.out rfl HRm.out)
        refine HOF.out.mono ?_
        rintro e w10 ⟨b2, g2, rfl, hT10, hne⟩
        have HT10 := Lib.hid hT10
        have HNE := Lib.hid hne
        have HSM10 := Lib.hid (l6_same _ _ 32768 cm 32768 ck _ _ w10 (hT10.rd 3 rfl HRm.out (by omega)) (hT10.rd 2 rfl HRk.out (by omega)))
        rw [decide_eq_true rfl] at HSM10
        clear hT10 hne
        go_wp2_with fail
        refine HSM10.out.mono ?_
        rintro e w11 ⟨rfl, rfl⟩
        have HCR := Lib.hid (st_Crash 0 0 none [] HT10.out (Nat.le_trans HLE4.out.ca (by omega)) (RdF.nil _) (by simp))
        clear HSM10
        go_wp2_with fail
        refine HCR.out.mono ?_
        rintro e w12 ⟨rfl, v12, hT12⟩
        have HM12 := Lib.hid (st_Med64 hT12 (show (crD D []).n = 64 from HN.out))
        rw [HCM.out] at HM12
        have HT12 := Lib.hid hT12
        clear hT12 HCR
        go_wp2_with fail
        refine HM12.out.mono ?_
        rintro e w13 ⟨j13, c13, o13, rfl, hr13, hT13⟩
        have HSM13 := Lib.hid (l6_same _ _ 32768 c13 32768 ck _ _ w13 (hT13.rd 0 rfl hr13 (by omega)) (hT13.rd 3 rfl HRk.out (by omega)))
        rw [decide_eq_true rfl] at HSM13
        have HT13 := Lib.hid (hT13.sub (List.sublist_cons_self _ _))
        clear hr13 hT13 HM12
        go_wp2_with fail
        refine HSM13.out.mono ?_
        rintro e w14 ⟨rfl, rfl⟩
        obtain ⟨D1, hD1⟩ : ∃ D1, D1 = crD D [] := ⟨_, rfl⟩
        rw [← hD1] at HT13
        have HL1 := Lib.hid (show D1.le 401 by rw [hD1]; exact crD_le [] HLE4.out)
        have HN1 := Lib.hid (show D1.n = 64 by rw [hD1]; exact HN.out)
        clear HSM13 hD1
        go_wp2_with fail
        go_loopw [11] (fun x wx => ∃ j : Nat, ∃ o' L', j ≤ 32768 ∧ x = .int .i64 j ∧ RowB o' 32768 cm L' ∧ St w wx b g v12 D1 [(b2, ofO g2), (g2, ofM2 LM), (jk, ok), (jm, o')]) (fun x _ => 32768 - (intOf x).toNat)
        case atStart => exact ⟨0, om, LM, by omega, rfl, HRm.out, HT13.out⟩
        case round =>
          obtain ⟨j, o', L', hj, rfl, hr, hT⟩ := hrel
          have HR := Lib.hid hr
          have HTj := Lib.hid hT
          by_cases hj2 : j < 32768
          · have hcell := hT.cell 3 rfl hr j (by omega)
            have hfree := hr.free (hT.get 3 rfl) j
            obtain ⟨y, hy⟩ : ∃ y, y = L'.getD j 0 := ⟨_, rfl⟩
            rw [← hy] at hcell
            obtain ⟨z, hz⟩ : ∃ z, z = y + 1 := ⟨_, rfl⟩
            have hm1 : ((y.toNat : Int) + 1) % 256 = (z.toNat : Int) := by rw [hz]; exact u8_mod y 1 (by omega)
            have hp1 : IntKind.u8.wrap ((y.toNat : Int) + 1) = (z.toNat : Int) := by rw [hz]; exact u8_plus y 1 (by omega)
            obtain ⟨o2, ho2, hr2⟩ := hr.store (hT.get 3 rfl) j z
            have HN3 := Lib.hid (And.intro hr2 (hT.store 3 j _ rfl ho2))
            have hji : (0 : Int) ≤ (j : Int) ∧ (j : Int) < 32768 := by omega
            have HJ := Lib.hid hj2
            clear hr hT ho2 hr2 hj hj2 hy hz
            go_wp2
            go_roundw
            case rel => exact ⟨j + 1, o2, _, HJ.out, by go_num, HN3.out.1, HN3.out.2⟩
            case measure => have := HJ.out; simp [intOf]; omega
          · obtain rfl : j = 32768 := by omega
            clear hr hT
            go_wp2_with fail
            (try rw [show ((32768 : Nat) : Int) = 32768 from rfl])
            go_loopw [12] (fun x wx => ∃ i : Nat, ∃ v D, i ≤ n' ∧ i ≤ 400 ∧ x = .int .i64 i ∧ D.le (402 + i) ∧ D.n = 64 ∧ St w wx b g v D [(b2, ofO g2), (g2, ofM2 LM), (jk, ok), (jm, o')]) (fun x _ => 400 - (intOf x).toNat)
            case atStart => exact ⟨0, v12, D1, by omega, by omega, rfl, HL1.out.mono (by omega), HN1.out, HTj.out⟩
            case round =>
              obtain ⟨i, v, D, hi, hi60, rfl, hle, hn, hT⟩ := hrel
              have HT := Lib.hid hT
              have HLE := Lib.hid hle
              have HN := Lib.hid hn
              clear hT hle hn
              by_cases hin : i < n' ∧ i < 400
              · obtain ⟨hin, hi6⟩ := hin
                have hii : (0 : Int) ≤ (i : Int) ∧ (i : Int) < (n' : Int) ∧ (i : Int) < 400 := by omega
                obtain ⟨bb, oo, rfl, hca⟩ := HRO'.out.at_ (by omega)
                have hop := (hca i hin).ext HT.out.bl
                obtain ⟨x, hxx⟩ : ∃ x, x = l'.getD i default := ⟨_, rfl⟩
                rw [← hxx] at hop
                obtain ⟨hok, q0, q1, q2, q3, q4, q5, ⟨A6, n6, c6, q6, hr6⟩, ⟨A7, n7, c7, q7, hr7⟩⟩ := hop
                have HPL := Lib.hid (st_play x A6 A7 n6 c6 n7 c7 HT.out hok (HLE.out.mono (by omega)) hr6 hr7)
                have HLE2 := Lib.hid (plD_le x hok HLE.out)
                have HN2 := Lib.hid (show (plD D x).2.n = 64 by rw [plD_n, HN.out])
                clear hca hxx hok hr6 hr7
                go_wp2_with fail
                refine HPL.out.mono ?_
                rintro e w6 ⟨rfl, v6, hT6⟩
                have HT6 := Lib.hid hT6
                clear hT6 HPL q0 q1 q2 q3 q4 q5 q6 q7
                go_wp2
                go_roundw
                case rel => exact ⟨i + 1, v6, _, by omega, by omega, by go_num, HLE2.out, HN2.out, HT6.out⟩
                case measure => simp [intOf]; omega
              · have hend : ¬ ((i : Int) < (n' : Int) ∧ (i : Int) < 400) := by omega
                have HX := Lib.hid ((St.swap HT.out (ofV (HT.out.get 0 rfl) (HT.out.get 1 rfl) HLM.out HNE.out)).sub (R' := [(jk, ok)]) (by simp))
                by_cases hin2 : i < n'
                · have hi7 : ¬ (i : Int) < 400 := by omega
                  have hi8 : (i : Int) < (n' : Int) := by omega
                  clear hend hin
                  go_wp2_with fail
                  have hNi : ((64 : Nat) : Int) = 64 := rfl
                  refine (dv_BlocksV wr _ _ _ _ HX.out.dv).mono ?_
                  rintro e w30 ⟨rfl, rfl⟩
                  have HDX := Lib.hid (dv_Down w30 _ _ _ _ HX.out.dv)
                  have HPX := Lib.hid (st_PendN HX.out (by show 0 ≤ _; omega))
                  rw [show (ofD LM 0).C.length = 0 from rfl] at HPX
                  rw [show (ofD LM 0).down = false from rfl] at HDX
                  rw [show (((ofD LM 0).n : Nat) : Int) = 64 from rfl]
                  clear hNi
                  go_wp2_with fail
                  refine HDX.out.mono ?_
                  rintro e w31 ⟨rfl, rfl⟩
                  go_wp2_with fail
                  refine HPX.out.mono ?_
                  rintro e w32 ⟨A32, c32, R32, rfl, _, hX32⟩
                  have HX32 := Lib.hid (hX32.sub (R' := [(jk, ok)]) (List.sublist_append_left _ _))
                  clear hX32 HDX HPX
                  go_wp2_with fail
                  refine (dv_Counts w32 _ _ _ _ HX32.out.dv).mono ?_
                  rintro e w33 ⟨rfl, hB33⟩
                  have HX33 := Lib.hid (HX32.out.below hB33)
                  rw [show cntV (ofD LM 0) = .agg #[.int .i64 0, .int .i64 0, .int .i64 0] from rfl]
                  clear hB33
                  go_wp2_with fail
                  go_loopw [13, 14, 15] (fun x _ _ wx => ∃ j : Nat, j ≤ 64 ∧ x = .int .i64 j ∧ St w wx b2 g2 (.slice none 0 0) (ofD LM j) [(jk, ok)]) (fun x _ _ _ => 64 - (intOf x).toNat)
                  case atStart => exact ⟨0, by omega, rfl, HX33.out⟩
                  case round =>
                    obtain ⟨j, hj, rfl, hX⟩ := hrel
                    have HXj := Lib.hid hX
                    clear hX
                    by_cases hj2 : j < 64
                    · have hji : (0 : Int) ≤ (j : Int) ∧ (j : Int) < 64 := by omega
                      have hw1 : IntKind.i64.wrap (512 * (j : Int)) = 512 * (j : Int) := IntWalk.i64_in _ (by omega)
                      have hw2 : IntKind.i64.wrap (512 * (j : Int) + 512) = 512 * (j : Int) + 512 := IntWalk.i64_in _ (by omega)
                      obtain ⟨An, hcut, hrn⟩ := cut_mid (some ⟨jk, 0, none⟩) 32768 ck (512 * j) (512 * j + 512) (by omega) (by omega) HRk.out.cap
                      rw [show 512 * j + 512 - 512 * j = 512 by omega, show ((512 * j : Nat) : Int) = 512 * (j : Int) by omega, show ((512 * j + 512 : Nat) : Int) = 512 * (j : Int) + 512 by omega] at hcut
                      rw [show 512 * j + 512 - 512 * j = 512 by omega] at hrn
                      have HCN := Lib.hid hrn
                      have HJ := Lib.hid hj2
                      have HRX := Lib.hid (st_Read j HXj.out hj2 rfl (by show j < _; omega) (by show 0 ≤ _; omega))
                      clear hrn hj2 hj
                      go_wp2_with fail
                      refine HRX.out.mono ?_
                      rintro e w40 ⟨j40, o40, rfl, hr40, hX40⟩
                      have HSM := Lib.hid (l6_same _ _ 512 512 512 (ck - 512 * j) _ _ w40 (hX40.rd 0 rfl hr40 (by omega)) (HCN.out w40 _ (hX40.rd 1 rfl HRk.out (by omega))))
                      rw [decide_eq_true (show rdB (ofD LM j) j = (LM.drop (512 * j)).take 512 by rw [Nat.mul_comm]; rfl)] at HSM
                      have HX40 := Lib.hid (hX40.sub (List.sublist_cons_self _ _))
                      clear hr40 hX40 HRX
                      go_wp2_with fail
                      refine HSM.out.mono ?_
                      rintro e w41 ⟨rfl, rfl⟩
                      go_wp2
                      go_roundw
                      case rel => exact ⟨j + 1, HJ.out, by go_num, HX40.out⟩
                      case measure => have := HJ.out; simp [intOf]; omega
                    · obtain rfl : j = 64 := by omega
                      go_wp2_with fail
                      refine (st_Med64 HXj.out rfl).mono ?_
                      rintro e w50 ⟨j50, c50, o50, rfl, hr50, hX50⟩
                      have HSM := Lib.hid (l6_same _ _ 32768 c50 32768 ck _ _ w50 (hX50.rd 0 rfl hr50 (by omega)) (hX50.rd 1 rfl HRk.out (by omega)))
                      rw [decide_eq_true (show (ofD LM 64).M = LM from rfl)] at HSM
                      have HX50 := Lib.hid hX50
                      clear hr50 hX50
                      go_wp2_with fail
                      refine HSM.out.mono ?_
                      rintro e w51 ⟨rfl, rfl⟩
                      go_wp2_with fail
                      refine (dv_Counts w51 _ _ _ _ HX50.out.dv).mono ?_
                      rintro e w52 ⟨rfl, hB52⟩
                      have HX52 := Lib.hid (HX50.out.below hB52)
                      rw [show cntV (ofD LM 64) = .agg #[.int .i64 64, .int .i64 0, .int .i64 0] from rfl]
                      clear hB52
                      go_wp2
                      go_ret
                      exact ⟨by simp, HX52.out.bl⟩
                · have hi8 : ¬ (i : Int) < (n' : Int) := by omega
                  clear hend hin
                  go_wp2_with fail
                  have hNi : ((64 : Nat) : Int) = 64 := rfl
                  refine (dv_BlocksV wr _ _ _ _ HX.out.dv).mono ?_
                  rintro e w30 ⟨rfl, rfl⟩
                  have HDX := Lib.hid (dv_Down w30 _ _ _ _ HX.out.dv)
                  have HPX := Lib.hid (st_PendN HX.out (by show 0 ≤ _; omega))
                  rw [show (ofD LM 0).C.length = 0 from rfl] at HPX
                  rw [show (ofD LM 0).down = false from rfl] at HDX
                  rw [show (((ofD LM 0).n : Nat) : Int) = 64 from rfl]
                  clear hNi
                  go_wp2_with fail
                  refine HDX.out.mono ?_
                  rintro e w31 ⟨rfl, rfl⟩
                  go_wp2_with fail
                  refine HPX.out.mono ?_
                  rintro e w32 ⟨A32, c32, R32, rfl, _, hX32⟩
                  have HX32 := Lib.hid (hX32.sub (R' := [(jk, ok)]) (List.sublist_append_left _ _))
                  clear hX32 HDX HPX
                  go_wp2_with fail
                  refine (dv_Counts w32 _ _ _ _ HX32.out.dv).mono ?_
                  rintro e w33 ⟨rfl, hB33⟩
                  have HX33 := Lib.hid (HX32.out.below hB33)
                  rw [show cntV (ofD LM 0) = .agg #[.int .i64 0, .int .i64 0, .int .i64 0] from rfl]
                  clear hB33
                  go_wp2_with fail
                  go_loopw [13, 14, 15] (fun x _ _ wx => ∃ j : Nat, j ≤ 64 ∧ x = .int .i64 j ∧ St w wx b2 g2 (.slice none 0 0) (ofD LM j) [(jk, ok)]) (fun x _ _ _ => 64 - (intOf x).toNat)
                  case atStart => exact ⟨0, by omega, rfl, HX33.out⟩
                  case round =>
                    obtain ⟨j, hj, rfl, hX⟩ := hrel
                    have HXj := Lib.hid hX
                    clear hX
                    by_cases hj2 : j < 64
                    · have hji : (0 : Int) ≤ (j : Int) ∧ (j : Int) < 64 := by omega
                      have hw1 : IntKind.i64.wrap (512 * (j : Int)) = 512 * (j : Int) := IntWalk.i64_in _ (by omega)
                      have hw2 : IntKind.i64.wrap (512 * (j : Int) + 512) = 512 * (j : Int) + 512 := IntWalk.i64_in _ (by omega)
                      obtain ⟨An, hcut, hrn⟩ := cut_mid (some ⟨jk, 0, none⟩) 32768 ck (512 * j) (512 * j + 512) (by omega) (by omega) HRk.out.cap
                      rw [show 512 * j + 512 - 512 * j = 512 by omega, show ((512 * j : Nat) : Int) = 512 * (j : Int) by omega, show ((512 * j + 512 : Nat) : Int) = 512 * (j : Int) + 512 by omega] at hcut
                      rw [show 512 * j + 512 - 512 * j = 512 by omega] at hrn
                      have HCN := Lib.hid hrn
                      have HJ := Lib.hid hj2
                      have HRX := Lib.hid (st_Read j HXj.out hj2 rfl (by show j < _; omega) (by show 0 ≤ _; omega))
                      clear hrn hj2 hj
                      go_wp2_with fail
                      refine HRX.out.mono ?_
                      rintro e w40 ⟨j40, o40, rfl, hr40, hX40⟩
                      have HSM := Lib.hid (l6_same _ _ 512 512 512 (ck - 512 * j) _ _ w40 (hX40.rd 0 rfl hr40 (by omega)) (HCN.out w40 _ (hX40.rd 1 rfl HRk.out (by omega))))
                      rw [decide_eq_true (show rdB (ofD LM j) j = (LM.drop (512 * j)).take 512 by rw [Nat.mul_comm]; rfl)] at HSM
                      have HX40 := Lib.hid (hX40.sub (List.sublist_cons_self _ _))
                      clear hr40 hX40 HRX
                      go_wp2_with fail
                      refine HSM.out.mono ?_
                      rintro e w41 ⟨rfl, rfl⟩
                      go_wp2
                      go_roundw
                      case rel => exact ⟨j + 1, HJ.out, by go_num, HX40.out⟩
                      case measure => have := HJ.out; simp [intOf]; omega
                    · obtain rfl : j = 64 := by omega
                      go_wp2_with fail
                      refine (st_Med64 HXj.out rfl).mono ?_
                      rintro e w50 ⟨j50, c50, o50, rfl, hr50, hX50⟩
                      have HSM := Lib.hid (l6_same _ _ 32768 c50 32768 ck _ _ w50 (hX50.rd 0 rfl hr50 (by omega)) (hX50.rd 1 rfl HRk.out (by omega)))
                      rw [decide_eq_true (show (ofD LM 64).M = LM from rfl)] at HSM
                      have HX50 := Lib.hid hX50
                      clear hr50 hX50
                      go_wp2_with fail
                      refine HSM.out.mono ?_
                      rintro e w51 ⟨rfl, rfl⟩
                      go_wp2_with fail
                      refine (dv_Counts w51 _ _ _ _ HX50.out.dv).mono ?_
                      rintro e w52 ⟨rfl, hB52⟩
                      have HX52 := Lib.hid (HX50.out.below hB52)
                      rw [show cntV (ofD LM 64) = .agg #[.int .i64 64, .int .i64 0, .int .i64 0] from rfl]
                      clear hB52
                      go_wp2
                      go_ret
                      exact ⟨by simp, HX52.out.bl⟩
end Go.Proofs.Ytjbffahmjhbpjaa
