/- The walk of DevArmed. -/
import Derived.Test.YtjbffahmjhbpjaaDvm1
import Derived.Test.YtjbffahmjhbpjaaRdB
import Derived.IntWalk
set_option linter.unusedVariables false
set_option linter.unusedSimpArgs false
set_option maxRecDepth 100000
namespace Go.Proofs.Ytjbffahmjhbpjaa
open Go.RowKit
set_option maxHeartbeats 4000000 in
theorem walk_DevArmed (n : Int) (A : Option Addr) (m cf : Nat) (fl : List Bool) (w : World) (hn : -9223372036854775808 ≤ n ∧ n < 9223372036854775808) (hr : RdB w A m cf fl) :
    Calls Try.prog 8 #[.int .i64 n, .slice A m cf] w fun e w' => e = .returned (.bool true) ∧ Below w.heap.size w w' := by
  have HRB := Lib.hid hr
  clear hr
  rcases (by omega : n < 0 ∨ 40 < n ∨ (0 ≤ n ∧ n ≤ 40)) with hn1 | hn1 | ⟨hn1, hn2⟩
  · go_enter Try.func8, Try.ntmps8
    go_wp2_with fail
    refine (st_lives w).mono ?_
    rintro e w1 ⟨b, g, vc, rfl, hT⟩
    have HA := Lib.hid (st_Arm n hT)
    rw [am_armN liveD n hn1] at HA
    have h40 : ¬ 40 < n := by omega
    clear hT
    go_wp2_with fail
    refine HA.out.mono ?_
    rintro e w2 ⟨rfl, hT2⟩
    have HT2 := Lib.hid hT2
    clear hT2
    go_wp2
    go_ret
    exact ⟨by simp, HT2.out.bl⟩
  · go_enter Try.func8, Try.ntmps8
    go_wp2_with fail
    refine (st_lives w).mono ?_
    rintro e w1 ⟨b, g, vc, rfl, hT⟩
    have HT := Lib.hid hT
    have h0 : ¬ n < 0 := by omega
    clear hT
    go_wp2
    go_ret
    exact ⟨by simp, HT.out.bl⟩
  · obtain ⟨n, rfl⟩ : ∃ q : Nat, n = q := ⟨n.toNat, by omega⟩
    have hn3 : n ≤ 40 := by omega
    clear hn hn1 hn2
    go_enter Try.func8, Try.ntmps8
    go_wp2_with fail
    refine (st_lives w).mono ?_
    rintro e w1 ⟨b, g, vc, rfl, hT⟩
    have HA := Lib.hid (st_Arm n hT)
    rw [am_arm0 n] at HA
    clear hT
    go_wp2_with fail
    refine HA.out.mono ?_
    rintro e w2 ⟨rfl, hT2⟩
    have HT2 := Lib.hid hT2
    clear hT2 HA
    go_wp2_with fail
    go_loopw [6, 7] (fun x _ wx => ∃ i : Nat, ∃ v, i ≤ n ∧ x = .int .i64 i ∧ St w wx b g v (amD n i) []) (fun x _ _ => n - (intOf x).toNat)
    case atStart => exact ⟨0, vc, by omega, rfl, HT2.out⟩
    case round =>
      obtain ⟨i, v, hi, rfl, hT⟩ := hrel
      have HT := Lib.hid hT
      clear hT
      by_cases hin : i < n
      · have hcv : IntKind.u8.wrap (i : Int) = ((UInt8.ofNat i).toNat : Int) := by
          rw [UInt8.toNat_ofNat']
          simp only [IntKind.wrap, IntKind.signed, IntKind.bits]
          simp
        have hb0 : (0 : Int) ≤ (i : Int) ∧ (i : Int) < (n : Int) ∧ (n : Int) ≤ 40 := by omega
        go_wp2_with fail
        refine (st_full 1 HT.out).mono ?_
        rintro e w3 ⟨j3, o3, rfl, hr3, hT3⟩
        have HW3 := Lib.hid (st_Write 0 64 512 hT3 rfl hr3 (by omega) (by omega) (by show n - i < _; omega) (by show (amC i).length ≤ _; rw [amC_len]; omega) (by show 1 + i < _; omega))
        rw [am_w64 (amD n i) rfl _ 64 (by omega)] at HW3
        clear hr3 hT3
        go_wp2_with fail
        refine HW3.out.mono ?_
        rintro e w4 ⟨rfl, v4, hT4⟩
        have HW4 := Lib.hid (st_WriteNil 1 hT4 (by show n - i < _; omega) (by show (amC i).length ≤ _; rw [amC_len]; omega) (by show 1 + i < _; omega))
        rw [am_wnil (amD n i) rfl] at HW4
        clear hT4 HW3
        go_wp2_with fail
        refine HW4.out.mono ?_
        rintro e w5 ⟨rfl, v5, hT5⟩
        have HT5 := Lib.hid (hT5.sub (R' := []) (by simp))
        have HDN := Lib.hid (dv_Down w5 b g v5 (amD n i) hT5.dv)
        clear hT5 HW4
        go_wp2_with fail
        refine HDN.out.mono ?_
        rintro e w6 ⟨rfl, rfl⟩
        rw [show (amD n i).down = false from rfl]
        clear HDN
        go_wp2_with fail
        refine (st_full (UInt8.ofNat i) HT5.out).mono ?_
        rintro e w7 ⟨j7, o7, rfl, hr7, hT7⟩
        have HW7 := Lib.hid (st_Write 0 i 512 hT7 rfl hr7 (by omega) (by omega) (by show n - i < _; omega) (by show (amC i).length ≤ _; rw [amC_len]; omega) (by show 1 + i < _; omega))
        rw [show (List.replicate 512 (UInt8.ofNat i)).take 512 = amF i from List.take_of_length_le (by simp), am_wr n i hin hn3] at HW7
        clear hr7 hT7
        go_wp2_with fail
        refine HW7.out.mono ?_
        rintro e w8 ⟨rfl, v8, hT8⟩
        have HT8 := Lib.hid (hT8.sub (R' := []) (by simp))
        clear hT8 HW7
        have hml := HRB.out.len
        have hmx := HRB.out.max
        by_cases him : i < m
        · obtain ⟨bb, oo, rfl, hcb⟩ := (HRB.out.ext HT8.out.bl).at_ (by omega)
          have hcell := hcb i him
          clear hcb
          cases hbi : fl.getD i false with
          | true =>
            rw [hbi] at hcell
            have hw1 : IntKind.i64.wrap ((n : Int) - (i : Int)) = (n : Int) - (i : Int) := IntWalk.i64_in _ (by omega)
            have hw2 : IntKind.i64.wrap ((n : Int) - (i : Int) - 1) = (n : Int) - (i : Int) - 1 := IntWalk.i64_in _ (by omega)
            have HA8 := Lib.hid (st_Arm ((n : Int) - (i : Int) - 1) HT8.out)
            rw [am_arm n i hin] at HA8
            have him2 : (0 : Int) ≤ (i : Int) ∧ (i : Int) < (m : Int) := by omega
            clear hbi
            go_wp2_with fail
            refine HA8.out.mono ?_
            rintro e w9 ⟨rfl, hT9⟩
            have HT9 := Lib.hid hT9
            clear hT9 hcell
            go_wp2
            go_roundw
            case rel => exact ⟨i + 1, v8, by omega, by go_num, HT9.out⟩
            case measure => simp [intOf]; omega
          | false =>
            rw [hbi] at hcell
            have him2 : (0 : Int) ≤ (i : Int) ∧ (i : Int) < (m : Int) := by omega
            clear hbi
            go_wp2
            go_roundw
            case rel => exact ⟨i + 1, v8, by omega, by go_num, HT8.out⟩
            case measure => simp [intOf]; omega
        · have him2 : ¬ (i : Int) < (m : Int) := by omega
          go_wp2
          go_roundw
          case rel => exact ⟨i + 1, v8, by omega, by go_num, HT8.out⟩
          case measure => simp [intOf]; omega
      · obtain rfl : i = n := by omega
        go_wp2_with fail
        refine (st_Med64 HT.out rfl).mono ?_
        rintro e w3 ⟨jm, cm, om, rfl, hrm, hT3⟩
        have HRm := Lib.hid hrm
        have HP3 := Lib.hid (st_PendN hT3 (by show (amC i).length ≤ _; rw [amC_len]; omega))
        rw [show (amD i i).C.length = i from amC_len i] at HP3
        clear hrm hT3
        go_wp2_with fail
        refine HP3.out.mono ?_
        rintro e w4 ⟨Ap, cp, R1, rfl, hrp, hT4⟩
        have HRp := Lib.hid hrp
        have HT4 := Lib.hid hT4
        have HD4 := Lib.hid (dv_Down w4 b g v (amD i i) hT4.dv)
        clear hrp hT4 HP3
        go_wp2_with fail
        refine HD4.out.mono ?_
        rintro e w5 ⟨rfl, rfl⟩
        rw [show (amD i i).down = false from rfl]
        have HF5 := Lib.hid (st_Flush HT4.out (by show i - i < _; omega) (by show (amC i).length ≤ _; rw [amC_len]; omega) (by show 1 < _; omega))
        rw [am_fl i] at HF5
        clear HD4
        go_wp2_with fail
        refine HF5.out.mono ?_
        rintro e w6 ⟨rfl, v6, hT6⟩
        have HT6 := Lib.hid hT6
        have HD6 := Lib.hid (dv_Down w6 b g v6 (amX i) hT6.dv)
        clear hT6 HF5
        go_wp2_with fail
        refine HD6.out.mono ?_
        rintro e w7 ⟨rfl, rfl⟩
        rw [show (amX i).down = true from rfl]
        clear HD6
        go_wp2_with fail
        refine (st_full 1 HT6.out).mono ?_
        rintro e w8 ⟨j8, o8, rfl, hr8, hT8⟩
        have HW8 := Lib.hid (st_Write 0 1 512 hT8 rfl hr8 (by omega) (by omega) (by show 0 < _; omega) (by show (amC i).length ≤ _; rw [amC_len]; omega) (by show 1 + i < _; omega))
        rw [show (List.replicate 512 1 : List UInt8).take 512 = amF 1 from List.take_of_length_le (by simp), am_wX i] at HW8
        clear hr8 hT8
        go_wp2_with fail
        refine HW8.out.mono ?_
        rintro e w9 ⟨rfl, v9, hT9⟩
        have HW9 := Lib.hid (st_WriteNil (-1) hT9 (by show 0 < _; omega) (by show (amC i).length ≤ _; rw [amC_len]; omega) (by show 1 + i < _; omega))
        rw [am_w64 (amX i) rfl _ (-1) (by omega)] at HW9
        clear hT9 HW8
        go_wp2_with fail
        refine HW9.out.mono ?_
        rintro e w10 ⟨rfl, v10, hT10⟩
        have HA10 := Lib.hid (st_Arm 5 hT10)
        rw [am_armX i] at HA10
        clear hT10 HW9
        go_wp2_with fail
        refine HA10.out.mono ?_
        rintro e w11 ⟨rfl, hT11⟩
        have HA11 := Lib.hid (st_Arm (-1) hT11)
        rw [am_armN (amX i) (-1) (by omega)] at HA11
        clear hT11 HA10
        go_wp2_with fail
        refine HA11.out.mono ?_
        rintro e w12 ⟨rfl, hT12⟩
        have HT12 := Lib.hid (hT12.sub (List.sublist_cons_self _ _))
        clear hT12 HA11
        go_wp2_with fail
        refine (dv_Read_down w12 b g v10 (amX i) 3 HT12.out.dv (by show (0 : Int) ≤ 3 ∧ (3 : Int) < ((64 : Nat) : Int); omega) rfl).mono ?_
        rintro e w13 ⟨rfl, rfl⟩
        go_wp2_with fail
        refine (st_Med64 HT12.out rfl).mono ?_
        rintro e w14 ⟨j14, c14, o14, rfl, hr14, hT14⟩
        have HT14 := Lib.hid hT14
        have HSM := Lib.hid (l6_same _ _ 32768 c14 32768 cm _ _ w14 (hT14.rd 0 rfl hr14 (by omega)) (hT14.rd 1 rfl HRm.out (by omega)))
        rw [decide_eq_true (show (amX i).M = (amD i i).M from rfl)] at HSM
        clear hr14 hT14
        go_wp2_with fail
        refine HSM.out.mono ?_
        rintro e w15 ⟨rfl, rfl⟩
        have HP15 := Lib.hid (st_PendN (HT14.out.sub (List.sublist_cons_self _ _)) (by show (amC i).length ≤ _; rw [amC_len]; omega))
        rw [show (amX i).C.length = i from amC_len i] at HP15
        clear HSM
        go_wp2_with fail
        refine HP15.out.mono ?_
        rintro e w16 ⟨Aq, cq, R2, rfl, hrq, hT16⟩
        have HT16 := Lib.hid hT16
        have HSI := Lib.hid (l6_sameInts w16 (hrq w16 (fun p hp => hT16.kp.all p (List.mem_append_right _ hp))) (HRp.out w16 (fun p hp => hT16.kp.all p (List.mem_append_left _ (List.mem_append_right _ hp)))))
        rw [decide_eq_true (show nums (amX i).C = nums (amD i i).C from rfl)] at HSI
        clear hrq hT16 HP15
        go_wp2_with fail
        refine HSI.out.mono ?_
        rintro e w17 ⟨rfl, hO17⟩
        have HT17 := Lib.hid (HT16.out.below hO17.toB)
        clear hO17 HSI
        have HC17 := Lib.hid (st_Crash 0 0 none [] HT17.out (by show (amC i).length ≤ _; rw [amC_len]; omega) (RdF.nil _) (by simp))
        rw [crT_nil, am_cr i hn3] at HC17
        go_wp2_with fail
        refine HC17.out.mono ?_
        rintro e w18 ⟨rfl, v18, hT18⟩
        have HT18 := Lib.hid hT18
        have HD18 := Lib.hid (dv_Down w18 b g v18 (amY i) hT18.dv)
        clear hT18 HC17
        go_wp2_with fail
        refine HD18.out.mono ?_
        rintro e w19 ⟨rfl, rfl⟩
        rw [show (amY i).down = false from rfl]
        clear HD18
        go_wp2_with fail
        refine (st_Med64 HT18.out rfl).mono ?_
        rintro e w20 ⟨j20, c20, o20, rfl, hr20, hT20⟩
        have HT20 := Lib.hid hT20
        have HSM := Lib.hid (l6_same _ _ 32768 c20 32768 cm _ _ w20 (hT20.rd 0 rfl hr20 (by omega)) (hT20.rd 1 rfl HRm.out (by omega)))
        rw [decide_eq_true (show (amY i).M = (amD i i).M from rfl)] at HSM
        clear hr20 hT20
        go_wp2_with fail
        refine HSM.out.mono ?_
        rintro e w21 ⟨rfl, rfl⟩
        clear HSM
        go_wp2_with fail
        refine (st_full 1 HT20.out).mono ?_
        rintro e w22 ⟨j22, o22, rfl, hr22, hT22⟩
        have HW22 := Lib.hid (st_Write 0 1 512 hT22 rfl hr22 (by omega) (by omega) (by show 0 < _; omega) (by show 0 ≤ _; omega) (by show 1 + i < _; omega))
        rw [show (List.replicate 512 1 : List UInt8).take 512 = amF 1 from List.take_of_length_le (by simp), am_wY i] at HW22
        clear hr22 hT22
        go_wp2_with fail
        refine HW22.out.mono ?_
        rintro e w23 ⟨rfl, v23, hT23⟩
        have HF23 := Lib.hid (st_Flush hT23 (by show 0 < _; omega) (by show 1 ≤ _; omega) (by show 1 < _; omega))
        rw [am_flZ i] at HF23
        clear hT23 HW22
        go_wp2_with fail
        refine HF23.out.mono ?_
        rintro e w24 ⟨rfl, v24, hT24⟩
        have HT24 := Lib.hid hT24
        clear hT24 HF23
        go_wp2
        go_ret
        exact ⟨by simp, HT24.out.bl⟩
end Go.Proofs.Ytjbffahmjhbpjaa
