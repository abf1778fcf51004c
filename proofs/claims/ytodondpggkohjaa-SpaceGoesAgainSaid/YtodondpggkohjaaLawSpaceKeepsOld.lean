/- The walk of SpaceKeepsOld. -/
import Derived.Test.YtodondpggkohjaaSpM2
set_option linter.unusedVariables false
set_option linter.unusedSimpArgs false
namespace Go.Proofs.Ytodondpggkohjaa
open Go.RowKit
/-- what a round of the first script leaves -/
def PlayInv (w wr : World) (b g m : Nat) : Prop := ∃ is, IsSp wr b g 2 is ∧ is.length = m ∧ StOk is ∧ Below w.heap.size w wr
/-- what a round of the second script leaves: no more than the calls since the Commit did -/
def SinceInv (w w0 wr : World) (b g : Nat) (is0 : List Int) : Prop := ∃ is, IsSp wr b g 2 is ∧ Since is0 is ∧ Below w.heap.size w wr ∧ Only [b, g] w0 wr
theorem RdO.cells {w wr : World} {A : Option Addr} {n c : Nat} {l : List OpV} (h : RdO w A n c l) (hB : Below w.heap.size w wr) (k : Nat) (hk : k < n) (v : OpV) (hv : v = l.getD k default) :
    ∃ b o, A = some ⟨b, o, none⟩ ∧ v.ok ∧ wr.cell? ⟨b, o + k * 3, none⟩ = some (.bool v.two) ∧ wr.cell? ⟨b, o + k * 3 + 1, none⟩ = some (.int .i64 v.kind) ∧ wr.cell? ⟨b, o + k * 3 + 2, none⟩ = some (.int .i64 v.blk) := by
  subst hv
  obtain ⟨b, o, e, hc⟩ := h.at_ (by omega)
  obtain ⟨h1, h2, h3⟩ := hc k hk
  refine ⟨b, o, e, ?_, cell_ext hB h1, cell_ext hB h2, cell_ext hB h3⟩
  have hl := h.len
  rw [List.getD_eq_getElem?_getD, List.getElem?_eq_getElem (by omega)]
  exact h.ok _ (List.getElem_mem _)
set_option maxRecDepth 100000 in
set_option maxHeartbeats 2000000 in
theorem walk_SpaceKeepsOld (x : Int) (A : Option Addr) (n c : Nat) (l : List Bool) (A2 : Option Addr) (n2 c2 : Nat) (l2 : List OpV) (A3 : Option Addr) (n3 c3 : Nat) (l3 : List OpV) (w : World) (hx : -9223372036854775808 ≤ x ∧ x < 9223372036854775808) (hr : RdB w A n c l) (hr2 : RdO w A2 n2 c2 l2) (hr3 : RdO w A3 n3 c3 l3) :
    Calls Try.prog 6 #[.int .i64 x, .slice A n c, .slice A2 n2 c2, .slice A3 n3 c3] w fun e w' => e = .returned (.bool true) ∧ Below w.heap.size w w' := by
  have hmx := hr2.max
  have hmx3 := hr3.max
  have HR := Lib.hid hr
  have HS := Lib.hid hr2
  have HS3 := Lib.hid hr3
  clear hr hr2 hr3
  go_enter Try.func6, Try.ntmps6
  go_wp2_with fail
  refine (l8_open x hx A n c l w HR.out).mono ?_
  rintro e w1 ⟨b, g, m, is0, rfl, hI0, hlen0, hm1, hm64, hv0, hb, hg, hB1⟩
  have HI0 := Lib.hid hI0
  have HL0 := Lib.hid hlen0
  have HV0 := Lib.hid (show StOk is0 from fun x hx => by have := hv0 x hx; omega)
  clear hI0 hlen0 hv0
  have hb0 : (0 : Int) ≤ m ∧ (m : Int) ≤ 64 ∧ (0 : Int) ≤ 2 + (m : Int) := by omega
  go_wp2_with fail
  refine (l8_fixed w1).mono ?_
  rintro e w2 ⟨bf, rfl, hB2⟩
  have HI2 := Lib.hid (HI0.out.ext hB2)
  have HB2 := Lib.hid (hB1.trans (hB2.mono hB1.size))
  clear hB1 hB2
  have HS0 : ∀ k ∈ [b, g], w.heap.size ≤ k := by intro k hk; simp at hk; omega
  have HSK := Lib.hid HS0
  clear HS0 hb hg
  go_wp2_with fail
  go_loopw [10] (fun x wr => ∃ k : Nat, k ≤ n2 ∧ x = .int .i64 k ∧ PlayInv w wr b g m) (fun x _ => n2 - (intOf x).toNat)
  case atStart => exact ⟨0, by omega, rfl, is0, HI2.out, HL0.out, HV0.out, HB2.out⟩
  case round =>
    obtain ⟨k, hk, rfl, is, hI, hlen, hok, hB⟩ := hrel
    have HI := Lib.hid hI
    have HL := Lib.hid hlen
    have HOK := Lib.hid hok
    clear hI hlen hok
    by_cases hgo : k < n2 ∧ k < 400
    · obtain ⟨hg1, hg2⟩ := hgo
      have d400 : decide ((k : Int) < 400) = true := decide_eq_true (by omega)
      obtain ⟨o, ho9⟩ : ∃ o, o = l2.getD k default := ⟨_, rfl⟩
      obtain ⟨b2, o2, rfl, hoo, hca, hck, hcb⟩ := HS.out.cells hB k hg1 o ho9
      clear ho9
      have HOO := Lib.hid hoo
      clear hoo
      go_wp2_with fail
      refine (l8_play b g 2 is o HOO.out _ HI.out).mono ?_
      rintro e w7 ⟨rfl, hi, ho⟩
      have H7 := Lib.hid hi
      have HB7 := Lib.hid (hB.trans (ho.below hB.size HSK.out))
      clear hi ho
      go_wp2
      exact ⟨⟨k + 1, by omega, by go_num, _, H7.out, by rw [playS_length]; exact HL.out, HOK.out.play _ _, HB7.out⟩, by simp [intOf]; omega⟩
    · have HBr := Lib.hid hB
      clear hB
      have hdd : ¬ k < n2 ∨ (k < n2 ∧ decide ((k : Int) < 400) = false) := by
        by_cases h : k < n2
        · exact .inr ⟨h, decide_eq_false (by omega)⟩
        · exact .inl h
      clear hgo
      rcases hdd with d1 | ⟨d1, d2⟩
      all_goals (
        go_wp2_with fail
        refine (sp_Commit b g 2 is _ HI.out).mono ?_
        rintro e w3 ⟨rfl, hi, ho⟩
        have HC := Lib.hid (StC.commit HOK.out)
        have HLC := Lib.hid (show (commitS is).length = m by rw [commitS_length]; exact HL.out)
        have H3 := Lib.hid hi
        have HB3 := Lib.hid (HBr.out.trans (ho.below HBr.out.size HSK.out))
        clear hi ho
        generalize commitS is = ic at *
        obtain ⟨T, hT⟩ : ∃ T, T = sel pT 2 ic ic.length := ⟨_, rfl⟩
        obtain ⟨q, hq⟩ : ∃ q, q = T.length := ⟨_, rfl⟩
        obtain ⟨f, hf⟩ : ∃ f, f = ic.count 0 := ⟨_, rfl⟩
        have hsum : f + q = m := by
          have := sel_whole HC.out.ok 2
          rw [HC.out.held 2, ← hT, ← hq, ← hf, HLC.out] at this
          simpa using this
        have hfi : (f : Int) + q = m ∧ (0 : Int) ≤ f + q ∧ (f : Int) + q ≤ 64 := by omega
        have HT := Lib.hid hT
        have HQ := Lib.hid hq
        have HF := Lib.hid hf
        clear hT hq hf
        go_wp2_with fail
        refine (sp_Taken b g 2 ic _ H3.out).mono ?_
        rintro e w4 ⟨v4, rfl, hO4, hB4⟩
        rw [← HT.out, ← HQ.out] at hO4
        have HO4 := Lib.hid hO4
        have HI4 := Lib.hid (H3.out.ext hB4)
        have HB4 := Lib.hid (HB3.out.trans (hB4.mono HB3.out.size))
        clear hO4
        obtain ⟨A4, c4, rfl, hR4⟩ := HO4.out.rd [b, g] (by omega) (by intro k hk; simp at hk; have := lt_of_block H3.out.st; have := lt_of_block H3.out.arr; omega)
        have HR4 := Lib.hid hR4
        clear hR4
        go_wp2_with fail
        refine (sp_Free b g 2 ic _ HI4.out).mono ?_
        rintro e w5 ⟨rfl, rfl⟩
        rw [← HF.out]
        go_wp2_with fail
        refine (sp_Held b g 2 ic _ HI4.out).mono ?_
        rintro e w6 ⟨v6, rfl, hO6, hB6⟩
        rw [HC.out.held 2] at hO6
        obtain ⟨A6, c6, rfl, hR6⟩ := hO6.rd [] (by simp) (by simp)
        have HR46 := Lib.hid (HR4.out.ext hB6)
        have HI6 := Lib.hid (HI4.out.ext hB6)
        have HB6 := Lib.hid (HB4.out.trans (hB6.mono HB4.out.size))
        clear hO6 hR6
        simp only [List.length_nil]
        go_wp2_with fail
        go_loopw [8, 13, 14, 15] (fun _ x _ _ wq => ∃ j : Nat, j ≤ n3 ∧ x = .int .i64 j ∧ SinceInv w w6 wq b g ic) (fun _ x _ _ _ => n3 - (intOf x).toNat)
        case atStart => exact ⟨0, by omega, rfl, ic, HI6.out, Since.start HC.out, HB6.out, Only.refl _ _⟩
        case round =>
          obtain ⟨j, hj, rfl, ij, hI, hSi, hB, hOn⟩ := hrel
          have HIj := Lib.hid hI
          have HSi := Lib.hid hSi
          have HBj := Lib.hid hB
          have HOn := Lib.hid hOn
          have HRj := Lib.hid (HR46.out.only hOn (by simp))
          clear hI hSi hB hOn
          by_cases hgo : j < n3 ∧ j < 400
          · obtain ⟨hg1, hg2⟩ := hgo
            have d4 : decide ((j : Int) < 400) = true := decide_eq_true (by omega)
            obtain ⟨o, ho9⟩ : ∃ o, o = l3.getD j default := ⟨_, rfl⟩
            obtain ⟨b9, o9, rfl, hoo, hca, hck, hcb⟩ := HS3.out.cells HBj.out j hg1 o ho9
            have HO9 := Lib.hid ho9
            clear ho9
            have HOO := Lib.hid hoo
            clear hoo hca
            by_cases hk1 : o.kind = 1
            · have q1 : (o.kind == 1) = true := by simpa using hk1
              have q2 : (o.kind == 2) = false := by simp [hk1]
              clear hk1 hcb
              have hfr := HSi.out.fresh 2
              have htv := takeE_val ij
              obtain ⟨tb, htb⟩ : ∃ tb, tb = takeB 2 ij := ⟨_, rfl⟩
              obtain ⟨te, hte⟩ : ∃ te, te = takeE ij := ⟨_, rfl⟩
              rw [← hte] at hfr htv
              rw [← htb, ← HT.out] at hfr
              have HFR := Lib.hid hfr
              have HTB := Lib.hid htb
              have HTE := Lib.hid hte
              clear hfr htb hte
              go_wp2_with fail
              refine (sp_Take b g 2 ij _ HIj.out).mono ?_
              rintro e w8 ⟨rfl, hi, ho⟩
              rw [← HTB.out, ← HTE.out]
              have H8 := Lib.hid hi
              have HB8 := Lib.hid (HBj.out.trans (ho.below HBj.out.size HSK.out))
              have HO8 := Lib.hid (HOn.out.trans ho)
              obtain ⟨_, _, e8, _, _, hck8, _⟩ := HS3.out.cells HB8.out j hg1 o HO9.out
              simp only [Option.some.injEq, Addr.mk.injEq] at e8
              obtain ⟨rfl, rfl, _⟩ := e8
              have HR8 := Lib.hid (HRj.out.only ho (by simp))
              clear hi ho
              rcases htv with rfl | rfl
              · go_wp2_with fail
                refine (l8_in tb _ HR8.out).mono ?_
                rintro e w7 ⟨rfl, rfl⟩
                rw [HFR.out (by first | rfl | trivial)]
                go_wp2
                exact ⟨⟨j + 1, by omega, by go_num, _, H8.out, HSi.out.take, HB8.out, HO8.out⟩, by simp [intOf]; omega⟩
              · go_wp2
                exact ⟨⟨j + 1, by omega, by go_num, _, H8.out, HSi.out.take, HB8.out, HO8.out⟩, by simp [intOf]; omega⟩
            · have q1 : (o.kind == 1) = false := by simpa using hk1
              clear hk1
              by_cases hk2 : o.kind = 2
              · have q2 : (o.kind == 2) = true := by simpa using hk2
                clear hk2
                go_wp2_with fail
                refine (sp_Give b g 2 ij o.blk _ HIj.out HOO.out).mono ?_
                rintro e w8 ⟨rfl, hi, ho⟩
                have H8 := Lib.hid hi
                have HB8 := Lib.hid (HBj.out.trans (ho.below HBj.out.size HSK.out))
                have HO8 := Lib.hid (HOn.out.trans ho)
                clear hi ho
                go_wp2
                exact ⟨⟨j + 1, by omega, by go_num, _, H8.out, HSi.out.give _ _, HB8.out, HO8.out⟩, by simp [intOf]; omega⟩
              · have q2 : (o.kind == 2) = false := by simpa using hk2
                clear hk2
                go_wp2
                exact ⟨⟨j + 1, by omega, by go_num, _, HIj.out, HSi.out, HBj.out, HOn.out⟩, by simp [intOf]; omega⟩
          · have hdd : ¬ j < n3 ∨ (j < n3 ∧ decide ((j : Int) < 400) = false) := by
              by_cases h : j < n3
              · exact .inr ⟨h, decide_eq_false (by omega)⟩
              · exact .inl h
            clear hgo
            rcases hdd with d3 | ⟨d3, d4⟩
            all_goals (
              go_wp2_with fail
              refine (sp_Back b g 2 ij _ HIj.out).mono ?_
              rintro e w8 ⟨rfl, hi, ho⟩
              rw [HSi.out.back] at hi
              have H8 := Lib.hid hi
              have HB8 := Lib.hid (HBj.out.trans (ho.below HBj.out.size HSK.out))
              have HR8 := Lib.hid (HRj.out.only ho (by simp))
              clear hi ho
              go_wp2_with fail
              refine (sp_Taken b g 2 ic _ H8.out).mono ?_
              rintro e w9 ⟨v9, rfl, hO9, hB9⟩
              rw [← HT.out, ← HQ.out] at hO9
              obtain ⟨A9, c9, rfl, hR9⟩ := hO9.rd [] (by omega) (by simp)
              have HR9 := Lib.hid hR9
              have HR89 := Lib.hid (HR8.out.ext hB9)
              have HI9 := Lib.hid (H8.out.ext hB9)
              have HB9 := Lib.hid (HB8.out.trans (hB9.mono HB8.out.size))
              clear hO9 hR9
              go_wp2_with fail
              refine (l8_sameInts _ HR9.out HR89.out).mono ?_
              rintro e w10 ⟨rfl, hO⟩
              rw [show decide (T = T) = true from decide_eq_true rfl]
              have HI10 := Lib.hid (HI9.out.only hO (by simp) (by simp))
              have HB10 := Lib.hid (HB9.out.trans (hO.below HB9.out.size (by simp)))
              clear hO
              go_wp2_with fail
              refine (sp_Held b g 2 ic _ HI10.out).mono ?_
              rintro e w11 ⟨v11, rfl, hO11, hB11⟩
              rw [HC.out.held 2] at hO11
              obtain ⟨A11, c11, rfl, hR11⟩ := hO11.rd [] (by simp) (by simp)
              have HI11 := Lib.hid (HI10.out.ext hB11)
              have HB11 := Lib.hid (HB10.out.trans (hB11.mono HB10.out.size))
              clear hO11 hR11
              simp only [List.length_nil]
              go_wp2_with fail
              refine (sp_Free b g 2 ic _ HI11.out).mono ?_
              rintro e w12 ⟨rfl, rfl⟩
              rw [← HF.out]
              go_wp2
              go_ret
              exact ⟨rfl, HB11.out⟩))
end Go.Proofs.Ytodondpggkohjaa
