/- The walk of SpaceAddsUp. -/
import Derived.Test.YtodondpggkohjaaSpM
set_option linter.unusedVariables false
set_option linter.unusedSimpArgs false
namespace Go.Proofs.Ytodondpggkohjaa
open Go.RowKit
/-- what a round of AddsUp leaves -/
def AddInv (w wr : World) (b g m : Nat) : Prop := ∃ is, IsSp wr b g 2 is ∧ is.length = m ∧ StOk is ∧ Below w.heap.size w wr
/-- the search for the lowest free one -/
def WantInv (m : Nat) (is : List Int) (wr : World) (x : Value) (wq : World) : Prop := ∃ j z : Nat, j ≤ m ∧ z = 2 + j ∧ x = .int .i64 z ∧ (∀ i, i < j → is.getD i 0 ≠ 0) ∧ wq = wr
set_option maxRecDepth 100000 in
set_option maxHeartbeats 2000000 in
theorem walk_SpaceAddsUp (x : Int) (A : Option Addr) (n c : Nat) (l : List Bool) (A2 : Option Addr) (n2 c2 : Nat) (l2 : List OpV) (w : World) (hx : -9223372036854775808 ≤ x ∧ x < 9223372036854775808) (hr : RdB w A n c l) (hr2 : RdO w A2 n2 c2 l2) :
    Calls Try.prog 5 #[.int .i64 x, .slice A n c, .slice A2 n2 c2] w fun e w' => e = .returned (.bool true) ∧ Below w.heap.size w w' := by
  have hmx := hr2.max
  have HR := Lib.hid hr
  have HS := Lib.hid hr2
  clear hr hr2
  go_enter Try.func5, Try.ntmps5
  go_wp2_with fail
  refine (l8_open x hx A n c l w HR.out).mono ?_
  rintro e w1 ⟨b, g, m, is0, rfl, hI0, hlen0, hm1, hm64, hv0, hb, hg, hB1⟩
  have HI0 := Lib.hid hI0
  have HL0 := Lib.hid hlen0
  have HV0 := Lib.hid (show StOk is0 from fun x hx => by have := hv0 x hx; omega)
  clear hI0 hlen0 hv0
  have hb0 : (0 : Int) ≤ m ∧ (m : Int) ≤ 64 ∧ (0 : Int) ≤ 2 + (m : Int) := by omega
  go_wp2_with fail
  refine (l8_fixed w1).mono ?_
  rintro e w2 ⟨bf, rfl, hB2⟩
  have HI2 := Lib.hid (HI0.out.ext hB2)
  have HB2 := Lib.hid (hB1.trans (hB2.mono hB1.size))
  clear hB1 hB2
  have HS0 : ∀ k ∈ [b, g], w.heap.size ≤ k := by intro k hk; simp at hk; omega
  have HSK := Lib.hid HS0
  have HBG := Lib.hid (show w.heap.size ≤ b ∧ w.heap.size ≤ g from ⟨hb, hg⟩)
  clear HS0 hb hg
  go_wp2_with fail
  go_loopw [6, 8, 9, 10, 11, 12, 13, 14] (fun _ x _ _ _ _ _ _ wr => ∃ k : Nat, k ≤ n2 ∧ x = .int .i64 k ∧ AddInv w wr b g m) (fun _ x _ _ _ _ _ _ _ => n2 - (intOf x).toNat)
  case atStart => exact ⟨0, by omega, rfl, is0, HI2.out, HL0.out, HV0.out, HB2.out⟩
  case round =>
    obtain ⟨k, hk, rfl, is, hI, hlen, hok, hB⟩ := hrel
    have HI := Lib.hid hI
    have HL := Lib.hid hlen
    have HOK := Lib.hid hok
    clear hI hlen hok
    by_cases hgo : k < n2 ∧ k < 400
    · obtain ⟨hg1, hg2⟩ := hgo
      have d400 : decide ((k : Int) < 400) = true := decide_eq_true (by omega)
      have HWS := Lib.hid (sel_whole HOK.out 2)
      obtain ⟨T, hT⟩ : ∃ T, T = sel pT 2 is is.length := ⟨_, rfl⟩
      obtain ⟨H, hH⟩ : ∃ H, H = sel pH 2 is is.length := ⟨_, rfl⟩
      obtain ⟨q, hq⟩ : ∃ q, q = T.length := ⟨_, rfl⟩
      obtain ⟨r, hrr⟩ : ∃ r, r = H.length := ⟨_, rfl⟩
      obtain ⟨f, hf⟩ : ∃ f, f = is.count 0 := ⟨_, rfl⟩
      have hsum : f + q + r = m := by have := HWS.out; rw [← hT, ← hH, ← hq, ← hrr, ← hf, HL.out] at this; exact this
      have hfi : (f : Int) + q ≤ 64 ∧ (0 : Int) ≤ f + q ∧ (f : Int) + q + r = m := by omega
      have HT := Lib.hid hT
      have HH := Lib.hid hH
      have HQ := Lib.hid hq
      have HRR := Lib.hid hrr
      have HF := Lib.hid hf
      clear hT hH hq hrr hf
      go_wp2_with fail
      refine (sp_Taken b g 2 is _ HI.out).mono ?_
      rintro e w3 ⟨v3, rfl, hO3, hB3⟩
      rw [← HT.out, ← HQ.out] at hO3
      have HO3 := Lib.hid hO3
      have HI3 := Lib.hid (HI.out.ext hB3)
      have HB3 := Lib.hid (hB.trans (hB3.mono hB.size))
      have hz3 := hB3.size
      clear hO3
      go_wp2_with fail
      refine (sp_Held b g 2 is _ HI3.out).mono ?_
      rintro e w4 ⟨v4, rfl, hO4, hB4⟩
      rw [← HH.out, ← HRR.out] at hO4
      have HO4 := Lib.hid (OwnI.mono hO4 hz3)
      have HO34 := Lib.hid (HO3.out.ext hB4)
      have HI4 := Lib.hid (HI3.out.ext hB4)
      have HB4 := Lib.hid (HB3.out.trans (hB4.mono HB3.out.size))
      clear hO4
      obtain ⟨A3, c3, rfl, hR3⟩ := HO34.out.rd [b, g] (by omega) (by intro k hk; simp at hk; have := lt_of_block HI.out.st; have := lt_of_block HI.out.arr; omega)
      obtain ⟨A4, c4, rfl, hR4⟩ := HO4.out.rd [b, g] (by omega) (by intro k hk; simp at hk; have := lt_of_block HI.out.st; have := lt_of_block HI.out.arr; omega)
      have HR3 := Lib.hid hR3
      have HR4 := Lib.hid hR4
      clear hR3 hR4
      go_wp2_with fail
      refine (sp_Free b g 2 is _ HI4.out).mono ?_
      rintro e w5 ⟨rfl, rfl⟩
      rw [← HF.out]
      go_wp2_with fail
      refine (l8_rising m _ HR3.out hm64 (by rw [HT.out]; exact risL_sel _ _ _ HL.out)).mono ?_
      rintro e w5 ⟨rfl, hO5⟩
      have HR35 := Lib.hid (HR3.out.only hO5 (by simp))
      have HR45 := Lib.hid (HR4.out.only hO5 (by simp))
      have HI5 := Lib.hid (HI4.out.only hO5 (by simp) (by simp))
      have HB5 := Lib.hid (HB4.out.trans (hO5.below HB4.out.size (by simp)))
      clear hO5
      go_wp2_with fail
      refine (l8_rising m _ HR45.out hm64 (by rw [HH.out]; exact risL_sel _ _ _ HL.out)).mono ?_
      rintro e w6 ⟨rfl, hO6⟩
      have HR36 := Lib.hid (HR35.out.only hO6 (by simp))
      have HR46 := Lib.hid (HR45.out.only hO6 (by simp))
      have HI6 := Lib.hid (HI5.out.only hO6 (by simp) (by simp))
      have HB6 := Lib.hid (HB5.out.trans (hO6.below HB5.out.size (by simp)))
      clear hO6
      go_wp2_with fail
      go_loopw [6, 11] (fun _ x wq => ∃ j : Nat, j ≤ r ∧ x = .int .i64 j ∧ wq = w6) (fun _ x _ => r - (intOf x).toNat)
      case atStart => exact ⟨0, by omega, rfl, rfl⟩
      case round =>
        obtain ⟨j, hj, rfl, rfl⟩ := hrel
        by_cases hjr : j < r
        · obtain ⟨b9, o9, rfl, _, hc9⟩ := HR46.out.at_ (by omega)
          have hcell := hc9 j hjr
          have hno := held_not_taken 2 is j (by have := HRR.out; rw [HH.out] at this; omega)
          rw [← HT.out, ← HH.out] at hno
          obtain ⟨t, ht⟩ : ∃ t, t = H.getD j 0 := ⟨_, rfl⟩
          rw [← ht] at hcell hno
          have HNO := Lib.hid hno
          have HTT := Lib.hid ht
          clear hno ht hc9
          go_wp2_with fail
          refine (l8_in t _ HR36.out).mono ?_
          rintro e w7 ⟨rfl, rfl⟩
          rw [HNO.out]
          go_wp2
          exact ⟨⟨j + 1, by omega, by go_num, trivial⟩, by simp [intOf]; omega⟩
        · obtain rfl : r = j := by omega
          obtain ⟨b2, o2, rfl, hc2⟩ := HS.out.at_ (by omega)
          obtain ⟨_, hck, hcb⟩ := hc2 k hg1
          obtain ⟨hca, _, _⟩ := hc2 k hg1
          have hck := cell_ext HB6.out hck
          have hcb := cell_ext HB6.out hcb
          have hca := cell_ext HB6.out hca
          obtain ⟨o, hoo⟩ : ∃ o, o = l2.getD k default := ⟨_, rfl⟩
          rw [← hoo] at hck hcb hca
          have HOO := Lib.hid (show o.ok by rw [hoo, List.getD_eq_getElem?_getD, List.getElem?_eq_getElem (by have := HS.out.len; omega)]; exact HS.out.ok _ (List.getElem_mem _))
          clear hoo hc2
          by_cases hk1 : o.kind = 1
          · have q1 : (o.kind == 1) = true := by simpa using hk1
            have q1' : (o.kind != 1) = false := by simpa using hk1
            clear hk1
            go_wp2_with fail
            go_loopw [12] (fun x wq => WantInv m is wr x wq) (fun x _ => 66 - (intOf x).toNat)
            case atStart => exact ⟨0, 2, by omega, rfl, rfl, fun i hi => absurd hi (by omega), rfl⟩
            case round =>
              obtain ⟨j2, z, hj2, hz2, rfl, hlow, rfl⟩ := hrel
              have HLOW := Lib.hid hlow
              clear hlow
              by_cases hjm : j2 < m
              · have htz := inL_sel pT 2 is is.length j2 (by have := HL.out; omega)
                have hhz := inL_sel pH 2 is is.length j2 (by have := HL.out; omega)
                rw [← HT.out, ← hz2] at htz
                rw [← HH.out, ← hz2] at hhz
                have HOKj := HOK.out.at_ j2 (by have := HL.out; omega)
                by_cases h0 : is.getD j2 0 = 0
                · rw [h0, show pT 0 = false by decide] at htz
                  rw [h0, show pH 0 = false by decide] at hhz
                  have HTZ := Lib.hid htz
                  have HHZ := Lib.hid hhz
                  have HX := Lib.hid (idx_of (by have := HL.out; omega) h0 HLOW.out)
                  have HTB := Lib.hid (show takeB 2 is = z by rw [takeB, HX.out, if_pos (by have := HL.out; omega), hz2])
                  have HTE := Lib.hid (show takeE is = 0 by rw [takeE, HX.out, if_pos (by have := HL.out; omega)])
                  have HTT := Lib.hid (show inL (sel pT 2 (takeS is) (takeS is).length) z = true by have := taken_taken 2 (is := is) (by rw [HX.out]; have := HL.out; omega); rw [HX.out, ← hz2] at this; exact this)
                  have hzz : (z : Int) < 2 + m ∧ (0 : Int) ≤ z ∧ (z : Int) ≤ 66 := by omega
                  have HZ2 := Lib.hid hz2
                  clear htz hhz h0 HOKj hz2
                  go_wp2_with fail
                  refine (l8_in z _ HR36.out).mono ?_
                  rintro e w7 ⟨rfl, rfl⟩
                  rw [HTZ.out]
                  go_wp2_with fail
                  refine (l8_in z _ HR46.out).mono ?_
                  rintro e w7 ⟨rfl, rfl⟩
                  rw [HHZ.out]
                  go_wp2_with fail
                  refine (sp_Take b g 2 is _ HI6.out).mono ?_
                  rintro e w8 ⟨rfl, hi, ho⟩
                  rw [HTB.out, HTE.out]
                  have H8 := Lib.hid hi
                  have HB8 := Lib.hid (HB6.out.trans (ho.below HB6.out.size HSK.out))
                  clear hi ho
                  have q9 : ((z : Int) == 2 + m) = false := by simp; omega
                  go_wp2_with fail
                  refine (sp_Taken b g 2 _ _ H8.out).mono ?_
                  rintro e w9 ⟨v9, rfl, hO9, hB9⟩
                  have hmm9 : (sel pT 2 (takeS is) (takeS is).length).length ≤ 140737488355328 := by
                    have h1 := sel_length pT 2 (takeS is) (takeS is).length
                    have h2 := takeS_length is
                    have h3 := HL.out
                    omega
                  obtain ⟨A9, c9, rfl, hR9⟩ := hO9.rd [] hmm9 (by simp)
                  have HR9 := Lib.hid hR9
                  have H9 := Lib.hid (H8.out.ext hB9)
                  have HB9 := Lib.hid (HB8.out.trans (hB9.mono HB8.out.size))
                  clear hO9 hR9
                  generalize (sel pT 2 (takeS is) (takeS is).length) = TT at *
                  generalize TT.length = tl at *
                  go_wp2_with fail
                  refine (l8_in z _ HR9.out).mono ?_
                  rintro e w7 ⟨rfl, rfl⟩
                  rw [HTT.out]
                  go_wp2
                  exact ⟨⟨k + 1, by omega, by go_num, _, H9.out, by rw [takeS_length]; exact HL.out, HOK.out.take, HB9.out⟩, by simp [intOf]; omega⟩
                · have HN0 := Lib.hid h0
                  have hth := taken_or_held HOK.out 2 j2 (by have := HL.out; omega)
                  rw [← HT.out, ← HH.out, ← hz2] at hth
                  have HTH := Lib.hid (fun h => h0 (hth.2 h))
                  have hzz : (z : Int) < 2 + m ∧ (0 : Int) ≤ z ∧ (z : Int) ≤ 66 := by omega
                  have hz1 : z + 1 = 2 + (j2 + 1) := by omega
                  have HZ1 := Lib.hid hz1
                  clear htz hhz h0 HOKj hth hz1 hz2
                  have hlow2 : ∀ i, i < j2 + 1 → is.getD i 0 ≠ 0 := fun i hi => by
                    by_cases e : i < j2
                    · exact HLOW.out i e
                    · obtain rfl : i = j2 := by omega
                      exact HN0.out
                  have HLOW2 := Lib.hid hlow2
                  clear hlow2
                  go_wp2_with fail
                  refine (l8_in z _ HR36.out).mono ?_
                  rintro e w7 ⟨rfl, rfl⟩
                  cases hq : inL T z with
                  | true =>
                    clear HTH
                    go_wp2
                    exact ⟨⟨j2 + 1, z + 1, by omega, HZ1.out, by go_num, HLOW2.out, rfl⟩, by simp [intOf]; omega⟩
                  | false =>
                    have HHZ := Lib.hid (show inL H z = true by
                      cases hq2 : inL H z with
                      | true => rfl
                      | false => exact absurd ⟨hq, hq2⟩ HTH.out)
                    clear HTH hq
                    go_wp2_with fail
                    refine (l8_in z _ HR46.out).mono ?_
                    rintro e w7 ⟨rfl, rfl⟩
                    rw [HHZ.out]
                    go_wp2
                    exact ⟨⟨j2 + 1, z + 1, by omega, HZ1.out, by go_num, HLOW2.out, rfl⟩, by simp [intOf]; omega⟩
              · obtain rfl : j2 = m := by omega
                have HX := Lib.hid (idx_none (is := is) (fun i hi => HLOW.out i (by have := HL.out; omega)))
                have HTB := Lib.hid (show takeB 2 is = -1 by rw [takeB, HX.out, if_neg (by omega)])
                have HTE := Lib.hid (show takeE is = 3 by rw [takeE, HX.out, if_neg (by omega)])
                have q9 : ((z : Int) == 2 + j2) = true := by simp; omega
                have hzz : (z : Int) = 2 + j2 := by omega
                clear hz2
                have dz : decide ((z : Int) < 2 + j2) = false := decide_eq_false (by omega)
                have HZZ := Lib.hid hzz
                clear hzz
                go_wp2_with fail
                refine (sp_Take b g 2 is _ HI6.out).mono ?_
                rintro e w8 ⟨rfl, hi, ho⟩
                rw [HTB.out, HTE.out]
                have H8 := Lib.hid hi
                have HB8 := Lib.hid (HB6.out.trans (ho.below HB6.out.size HSK.out))
                clear hi ho
                go_wp2
                exact ⟨⟨k + 1, by omega, by go_num, _, H8.out, by rw [takeS_length]; exact HL.out, HOK.out.take, HB8.out⟩, by simp [intOf]; omega⟩
          · have q1 : (o.kind == 1) = false := by simpa using hk1
            clear hk1
            go_wp2_with fail
            refine (l8_play b g 2 is o HOO.out _ HI6.out).mono ?_
            rintro e w7 ⟨rfl, hi, ho⟩
            have H7 := Lib.hid hi
            have HB7 := Lib.hid (HB6.out.trans (ho.below HB6.out.size HSK.out))
            clear hi ho
            go_wp2
            exact ⟨⟨k + 1, by omega, by go_num, _, H7.out, by rw [playS_length]; exact HL.out, HOK.out.play _ _, HB7.out⟩, by simp [intOf]; omega⟩
    · go_wp2_with fail
      all_goals (go_ret; exact ⟨rfl, hB⟩)
end Go.Proofs.Ytodondpggkohjaa
