/- The walk of DevRefuses. -/
import Derived.Test.YtjbffahmjhbpjaaDvh
set_option linter.unusedVariables false
set_option linter.unusedSimpArgs false
set_option maxRecDepth 100000
namespace Go.Proofs.Ytjbffahmjhbpjaa
open Go.RowKit
set_option maxHeartbeats 2000000 in
theorem walk_DevRefuses (A : Option Addr) (n c : Nat) (l : List OpD) (w : World) (hr : RdO w A n c l) :
    Calls Try.prog 6 #[.slice A n c] w fun e w' => e = .returned (.bool true) ∧ Below w.heap.size w w' := by
  have HRO := Lib.hid hr
  have hmx := hr.max
  clear hr
  go_enter Try.func6, Try.ntmps6
  go_wp2_with fail
  refine (st_lives w).mono ?_
  rintro e w1 ⟨b, g, vc, rfl, hT⟩
  have HT1 := Lib.hid hT
  clear hT
  go_wp2_with fail
  go_loopw [4, 5, 6, 7, 8] (fun x _ _ _ _ wx => ∃ i : Nat, ∃ v D, i ≤ n ∧ i ≤ 60 ∧ x = .int .i64 i ∧ D.le (i + 1) ∧ D.n = 64 ∧ St w wx b g v D []) (fun x _ _ _ _ _ => 60 - (intOf x).toNat)
  case atStart => exact ⟨0, vc, liveD, by omega, by omega, rfl, liveD_le, rfl, HT1.out⟩
  case round =>
    obtain ⟨i, v, D, hi, hi60, rfl, hle, hn, hT⟩ := hrel
    have HT := Lib.hid hT
    have HLE := Lib.hid hle
    have HN := Lib.hid hn
    clear hT hle hn
    by_cases hin : i < n
    · by_cases hi6 : i < 60
      · have hii : (0 : Int) ≤ (i : Int) ∧ (i : Int) < (n : Int) ∧ (i : Int) < 60 := by omega
        go_wp2_with fail
        refine (st_Med64 HT.out HN.out).mono ?_
        rintro e w2 ⟨jm, cm, om, rfl, hrm, hT2⟩
        have HRm := Lib.hid hrm
        have HP2 := Lib.hid (st_PendN hT2 (Nat.le_trans HLE.out.ca (by omega)))
        clear hrm hT2
        go_wp2_with fail
        refine HP2.out.mono ?_
        rintro e w3 ⟨Ap, cp, R1, rfl, hrp, hT3⟩
        have HRp := Lib.hid hrp
        have HT3 := Lib.hid hT3
        clear hrp hT3 HP2
        go_wp2_with fail
        refine (dv_Counts w3 b g v D HT3.out.dv).mono ?_
        rintro e w4 ⟨rfl, hB4⟩
        have HT4 := Lib.hid (HT3.out.below hB4)
        have HT5 := Lib.hid (HT4.out.new ((Below.refl _ w4).alloc (Nat.le_refl _) (.cells #[.int .i64 D.rd, .int .i64 D.wr, .int .i64 D.fl] 57)) (Nat.le_refl _) (heap_alloc_new w4 _))
        obtain ⟨bb, oo, rfl, hca⟩ := HRO.out.at_ (by omega)
        have hop := (hca i hin).ext HT5.out.bl
        obtain ⟨x, hxx⟩ : ∃ x, x = l.getD i default := ⟨_, rfl⟩
        rw [← hxx] at hop
        obtain ⟨hok, q0, q1, q2, q3, q4, q5, ⟨A6, n6, c6, q6, hr6⟩, ⟨A7, n7, c7, q7, hr7⟩⟩ := hop
        have HPL := Lib.hid (st_play x A6 A7 n6 c6 n7 c7 HT5.out hok (HLE.out.mono (by omega)) hr6 hr7)
        have HLE2 := Lib.hid (plD_le x hok HLE.out)
        clear hca hxx hok hr6 hr7 hB4
        unfold cntV
        go_wp2_with fail
        refine HPL.out.mono ?_
        rintro e w6 ⟨rfl, v6, hT6⟩
        have HT6 := Lib.hid hT6
        obtain ⟨E, hE⟩ : ∃ E, E = (plD D x).1 := ⟨_, rfl⟩
        obtain ⟨D2, hD2⟩ : ∃ D2, D2 = (plD D x).2 := ⟨_, rfl⟩
        have HND := Lib.hid (show D2.n = 64 by rw [hD2, plD_n, HN.out])
        have HPR := Lib.hid (plD_refused D x)
        rw [← hD2] at HT6 HLE2 HPR
        rw [← hE] at HPR ⊢
        clear hT6 HPL hE hD2 q0 q1 q2 q3 q4 q5 q6 q7
        by_cases hE0 : E = 0
        · subst hE0
          go_wp2_with fail
          go_quiet (fail)
          all_goals go_wp2
          go_roundw
          case rel => exact ⟨i + 1, v6, D2, by omega, by omega, by go_num, HLE2.out, HND.out, (HT6.out.drewN _).sub (List.nil_sublist _)⟩
          case measure => simp [intOf]; omega
        · have hEb : (E != 0) = true := by simp [hE0]
          obtain ⟨eM, eC, erd, ewr, efl⟩ := HPR.out hE0
          have HEQ := Lib.hid (And.intro eM eC)
          have hcell : w6.cell? ⟨w4.heap.size, 0, none⟩ = some (.int .i64 D.rd) ∧ w6.cell? ⟨w4.heap.size, 1, none⟩ = some (.int .i64 D.wr) ∧ w6.cell? ⟨w4.heap.size, 2, none⟩ = some (.int .i64 D.fl) := by
            have h9 := HT6.out.get 0 rfl
            exact ⟨cell_of_row w6 w4.heap.size 0 _ _ _ h9, cell_of_row w6 w4.heap.size 1 _ _ _ h9, cell_of_row w6 w4.heap.size 2 _ _ _ h9⟩
          have HCF := Lib.hid (show ∀ (W : World) (R9 : List (Nat × Obj)) (v9 : Value), St w W b g v9 D2 R9 → (w4.heap.size, Obj.cells #[.int .i64 D.rd, .int .i64 D.wr, .int .i64 D.fl] 57 (0, 0)) ∈ R9 → W.cell? ⟨w4.heap.size, 0, none⟩ = some (.int .i64 D.rd) ∧ W.cell? ⟨w4.heap.size, 1, none⟩ = some (.int .i64 D.wr) ∧ W.cell? ⟨w4.heap.size, 2, none⟩ = some (.int .i64 D.fl) from fun W R9 v9 hS hm => by
            have h9 := hS.mem hm
            exact ⟨cell_of_row W w4.heap.size 0 _ _ _ h9, cell_of_row W w4.heap.size 1 _ _ _ h9, cell_of_row W w4.heap.size 2 _ _ _ h9⟩)
          have HCN := Lib.hid (show cntV D2 = .agg #[.int .i64 D.rd, .int .i64 D.wr, .int .i64 D.fl] by unfold cntV; rw [erd, ewr, efl])
          have HM := Lib.hid (st_Med64 (HT6.out.drewN 1) HND.out)
          rw [eM] at HM
          have hlD2 : D2.C.length = D.C.length := by rw [eC]
          have HLL := Lib.hid hlD2
          clear eM eC erd ewr efl hE0 hlD2
          go_wp2_with fail
          go_region_held3 (fun w' => w'.cell? ⟨w4.heap.size, 0, none⟩ = some (.int .i64 D.rd) ∧ w'.cell? ⟨w4.heap.size, 1, none⟩ = some (.int .i64 D.wr) ∧ w'.cell? ⟨w4.heap.size, 2, none⟩ = some (.int .i64 D.fl))
            (first | exact k11 | exact k10 | exact k9 | exact k7 | exact hcell)
            (first | (go_at_call 28; refine (dv_Counts _ b g v6 D2 HT10.out.dv).mono ?_; rintro e w11 ⟨rfl, hB11⟩; rw [HCN.out]; have HT11 := Lib.hid (HT10.out.below hB11); have k11 := HCF.out _ _ _ HT11.out (by simp); clear hB11)
                   | (go_at_call 29; refine (l6_sameInts (D := []) (D' := []) (l := nums D.C) (l' := nums D2.C) _ ?hq1 ?hq2).mono ?_; (case hq1 => exact HRp.out _ (fun p hp => HT9.out.kp.all p (by simp [hp]))); (case hq2 => exact HRq.out); rintro e w10 ⟨rfl, hO10⟩; rw [decide_eq_true (show nums D.C = nums D2.C by rw [HEQ.out.2])]; have HT10 := Lib.hid (HT9.out.below hO10.toB); have k10 := HCF.out _ _ _ HT10.out (by simp); clear hO10)
                   | (go_at_call 20; refine (st_PendN HT7.out (Nat.le_trans HLE2.out.ca (by omega))).mono ?_; rintro e w9 ⟨Aq, cq, R2, rfl, hrq, hT9⟩; have HT9 := Lib.hid hT9; have HRq := Lib.hid (hrq w9 (fun p hp => hT9.kp.all p (List.mem_append_right _ hp))); have k9 := HCF.out _ _ _ HT9.out (by simp); clear hrq hT9)
                   | (go_at_call 17; refine (l6_same _ _ 32768 cm 32768 c7' D.M D.M _ ?hq1 ?hq2).mono ?_; (case hq1 => exact HT7.out.rd 2 rfl HRm.out (by omega)); (case hq2 => exact HT7.out.rd 0 rfl HR7.out (by omega)); rintro e w8 ⟨rfl, rfl⟩; rw [decide_eq_true rfl])
                   | (go_at_call 23; refine HM.out.mono ?_; rintro e w7 ⟨j7, c7', o7, rfl, hr7, hT7⟩; have HR7 := Lib.hid hr7; have HT7 := Lib.hid hT7; have k7 := HCF.out _ _ _ HT7.out (by simp); clear hr7 hT7))
          rename_i hHeld
          clear hHeld hcell k7 k9 k10 k11
          go_wp2
          go_roundw
          case rel => exact ⟨i + 1, v6, D2, by omega, by omega, by go_num, HLE2.out, HND.out, HT11.out.sub (List.nil_sublist _)⟩
          case measure => simp [intOf]; omega
      · obtain rfl : i = 60 := by omega
        go_wp2
        go_ret
        exact ⟨by simp, HT.out.bl⟩
    · obtain rfl : i = n := by omega
      go_wp2
      go_ret
      exact ⟨by simp, HT.out.bl⟩
end Go.Proofs.Ytjbffahmjhbpjaa
