/- SpacePlays: the laws' helper plays. -/
import Derived.Test.YtodondpggkohjaaSpQ5
import Derived.Test.YtodondpggkohjaaSpL2
import Derived.Deep.CutRange
set_option linter.unusedVariables false
set_option linter.unusedSimpArgs false
set_option maxRecDepth 100000
namespace Go.Proofs.Ytodondpggkohjaa
open Go.RowKit
theorem op3 {W : World} {q : Nat} {x y z : Value} {t : TypeId} (h : W.heap[q]? = some (.cells #[x, y, z] t (0, 0))) : W.cell? ⟨q, 0, none⟩ = some x ∧ W.cell? ⟨q, 1, none⟩ = some y ∧ W.cell? ⟨q, 2, none⟩ = some z :=
  ⟨cell_of_row W q 0 _ _ _ h, cell_of_row W q 1 _ _ _ h, cell_of_row W q 2 _ _ _ h⟩
section
variable {D : List Nat} {w : World} {b g r first N : Nat} {is : List Int}
theorem pr_Commit (h : Pr D w b g r first N is) (w1 : World) (hI : IsSp w1 b g first (commitS is)) (hO : Only [b, g] w w1) :
    Calls Try.prog 30 #[.pointer (some ⟨r, 0, none⟩)] w1 fun E w' => E = .returned (.tuple #[]) ∧ Pr D w' b g r first N (commitS is) ∧ Only [b, g, r] w w' := by
  have hsub : ∀ k ∈ [b, g], k ∈ D := by
    intro k hk
    simp only [List.mem_cons, List.not_mem_nil, or_false] at hk
    rcases hk with rfl | rfl
    · exact h.db
    · exact h.dg
  have hrn : r ∉ [b, g] := by simp only [List.mem_cons, List.not_mem_nil, or_false]; exact fun e => e.elim h.rb h.rg
  have hR := h.rs.only hO hrn hsub
  have hlt : ∀ k ∈ D, k < w1.heap.size := fun k hk => Nat.lt_of_lt_of_le (h.lt k hk) hO.size
  refine (rs_Commit hR h.dr hlt (by have := h.len pT; omega)).mono ?_
  rintro E w' ⟨rfl, hr', ho⟩
  obtain ⟨s1, s2⟩ := sel_commit first is h.st
  refine ⟨rfl, ⟨hI.only ho (by simpa using fun e => h.rb e.symm) (by simpa using fun e => h.rg e.symm), by rw [commit_len]; exact h.n, st4_commit h.st, ?_, h.dr, h.db, h.dg, fun k hk => Nat.lt_of_lt_of_le (hlt k hk) ho.size, h.rb, h.rg⟩, (hO.mono (by simp)).trans (ho.mono (by simp))⟩
  rw [commit_len, s1, s2]; exact hr'
theorem pr_Back (h : Pr D w b g r first N is) (w1 : World) (hI : IsSp w1 b g first (backS is)) (hO : Only [b, g] w w1) :
    Calls Try.prog 31 #[.pointer (some ⟨r, 0, none⟩)] w1 fun E w' => E = .returned (.tuple #[]) ∧ Pr D w' b g r first N (backS is) ∧ Only [b, g, r] w w' := by
  have hsub : ∀ k ∈ [b, g], k ∈ D := by
    intro k hk
    simp only [List.mem_cons, List.not_mem_nil, or_false] at hk
    rcases hk with rfl | rfl
    · exact h.db
    · exact h.dg
  have hrn : r ∉ [b, g] := by simp only [List.mem_cons, List.not_mem_nil, or_false]; exact fun e => e.elim h.rb h.rg
  have hR := h.rs.only hO hrn hsub
  have hlt : ∀ k ∈ D, k < w1.heap.size := fun k hk => Nat.lt_of_lt_of_le (h.lt k hk) hO.size
  refine (rs_Back hR h.dr hlt (by have := h.len pW; omega)).mono ?_
  rintro E w' ⟨rfl, hr', ho⟩
  obtain ⟨s1, s2⟩ := sel_back first is h.st
  refine ⟨rfl, ⟨hI.only ho (by simpa using fun e => h.rb e.symm) (by simpa using fun e => h.rg e.symm), by rw [back_len]; exact h.n, st4_back h.st, ?_, h.dr, h.db, h.dg, fun k hk => Nat.lt_of_lt_of_le (hlt k hk) ho.size, h.rb, h.rg⟩, (hO.mono (by simp)).trans (ho.mono (by simp))⟩
  rw [back_len, s1, s2]; exact hr'
theorem pr_Free (h : Pr D w b g r first N is) (hN : N ≤ 4096) :
    Calls Try.prog 32 #[.pointer (some ⟨r, 0, none⟩)] w fun E w' => E = .returned (.int .i64 (is.count 0)) ∧ w' = w := by
  have h1 := rs_Free h.rs h.small.1 hN
  rw [show N - first = is.length by rw [h.n]; omega, frN_count h.st is.length (Nat.le_refl _), List.take_length] at h1
  exact h1
set_option maxHeartbeats 4000000 in
theorem l8_plays (h : Pr D w b g r first N is) (hN : N ≤ 4096) (o : OpV) (ho : o.ok) :
    Calls Try.prog 16 #[.pointer (some ⟨b, 0, none⟩), .pointer (some ⟨r, 0, none⟩), o.val] w fun E w' => E = .returned (.bool true) ∧ ∃ is', Pr D w' b g r first N is' ∧ Only [b, g, r] w w' := by
  obtain ⟨two, kd, blk⟩ := o
  have hbk : -9223372036854775808 ≤ blk ∧ blk < 9223372036854775808 := ho
  clear ho
  obtain ⟨q, hq⟩ : ∃ q, q = w.heap.size := ⟨_, rfl⟩
  obtain ⟨W1, hW1⟩ : ∃ W1, W1 = w.alloc (.cells #[.bool two, .int .i64 kd, .int .i64 blk] 42) := ⟨_, rfl⟩
  have hB1 : Below w.heap.size w W1 := by rw [hW1]; exact (Below.refl _ w).alloc (Nat.le_refl _) _
  have HB1 := Lib.hid hB1
  have HP1 := Lib.hid (h.ext hB1)
  have hcell : W1.heap[q]? = some (.cells #[.bool two, .int .i64 kd, .int .i64 blk] 42 (0, 0)) := by rw [hW1, hq]; exact heap_alloc_new w _
  have HCL := Lib.hid hcell
  have HN := Lib.hid hN
  have hqb : q ≠ b ∧ q ≠ g ∧ q ≠ r := by
    have := h.lt b h.db; have := h.lt g h.dg; have := h.lt r h.dr
    omega
  have HQB := Lib.hid hqb
  have HOW := Lib.hid (show Only [b, g, r] w W1 from Only.of_below _ hB1)
  have d1 := op3 hcell
  have HBK := Lib.hid hbk
  have HQ := Lib.hid hq
  have HW1 := Lib.hid hW1
  clear h hN hB1 hcell hqb hbk hq hW1
  rw [show OpV.val ⟨two, kd, blk⟩ = .agg #[.bool two, .int .i64 kd, .int .i64 blk] from rfl]
  go_enter Try.func16, Try.ntmps16
  go_upto_region 1 with (fail)
  rw [← HW1.out, ← HQ.out]
  by_cases k1 : kd = 1
  · subst k1
    obtain ⟨x, e, is', hT, hRT⟩ := pr_Take HP1.out HN.out
    have HT := Lib.hid hT
    have HRT := Lib.hid hRT
    clear hT hRT
    go_wp2_with fail
    refine HT.out.mono ?_
    rintro E w2 ⟨rfl, hI, hO⟩
    have HRX := Lib.hid (HRT.out w2 hI hO)
    clear hI hO
    go_wp2_with fail
    refine HRX.out.mono ?_
    rintro E w3 ⟨rfl, hP, hO⟩
    have HP := Lib.hid hP
    have HO := Lib.hid hO
    clear hP hO d1
    go_wp2
    go_ret
    exact ⟨by simp, is', HP.out, HOW.out.trans HO.out⟩
  by_cases k2 : kd = 2
  · subst k2
    have HC := Lib.hid (show ∀ W : World, Only [b, g, r] W1 W → W.cell? ⟨q, 2, none⟩ = some (.int .i64 blk) from fun W hO => (op3 ((hO.blk q (lt_of_block HCL.out) (by have := HQB.out; simp; omega)).trans HCL.out)).2.2)
    go_wp2_with fail
    clear d1
    have k0 := HC.out _ ((Only.refl [b, g, r] W1).drewN 1)
    go_region_held3 (fun w' => w'.cell? ⟨q, 2, none⟩ = some (.int .i64 blk))
      (first | exact k9 | exact k8 | exact k0)
      (first | (go_at_call 29; refine (pr_Give HP1.out HN.out blk _ HI2.out HO2.out).mono ?_; rintro E w3 ⟨rfl, hP, hO⟩; have HP := Lib.hid hP; have HO := Lib.hid hO; have k9 := HC.out _ hO; clear hP hO)
             | (go_at_call 13; refine (sp_Give b g first is blk _ (HP1.out.sp.only ((Only.refl [] W1).drewN 1) (by simp) (by simp)) HBK.out).mono ?_; rintro E w2 ⟨rfl, hI, hO⟩; have HI2 := Lib.hid hI; have HO2 := Lib.hid (show Only [b, g] W1 w2 from ((Only.refl [b, g] W1).drewN 1).trans hO); have k8 := HC.out _ (HO2.out.mono (by simp)); clear hI hO))
    rename_i hHeld
    clear hHeld k0 k8 k9
    go_wp2
    go_ret
    exact ⟨by simp, _, HP.out, HOW.out.trans HO.out⟩
  by_cases k3 : kd = 3
  · subst k3
    go_wp2_with fail
    refine (sp_Commit b g first is _ HP1.out.sp).mono ?_
    rintro E w2 ⟨rfl, hI, hO⟩
    have HRX := Lib.hid (pr_Commit HP1.out w2 hI hO)
    clear hI hO
    go_wp2_with fail
    refine HRX.out.mono ?_
    rintro E w3 ⟨rfl, hP, hO⟩
    have HP := Lib.hid hP
    have HO := Lib.hid hO
    clear hP hO d1
    go_wp2
    go_ret
    exact ⟨rfl, _, HP.out, HOW.out.trans HO.out⟩
  by_cases k4 : kd = 4
  · subst k4
    go_wp2_with fail
    refine (sp_Back b g first is _ HP1.out.sp).mono ?_
    rintro E w2 ⟨rfl, hI, hO⟩
    have HRX := Lib.hid (pr_Back HP1.out w2 hI hO)
    clear hI hO
    go_wp2_with fail
    refine HRX.out.mono ?_
    rintro E w3 ⟨rfl, hP, hO⟩
    have HP := Lib.hid hP
    have HO := Lib.hid hO
    clear hP hO d1
    go_wp2
    go_ret
    exact ⟨rfl, _, HP.out, HOW.out.trans HO.out⟩
  by_cases k5 : kd = 5
  · subst k5
    obtain ⟨f, hf⟩ : ∃ f, f = is.count 0 := ⟨_, rfl⟩
    have HF1 := Lib.hid (sp_Free b g first is W1 HP1.out.sp)
    have HF2 := Lib.hid (pr_Free HP1.out HN.out)
    rw [← hf] at HF1 HF2
    have HHE := Lib.hid (sel_held first is HP1.out.st)
    have HLT := Lib.hid (HP1.out.len pT)
    have HLW := Lib.hid (HP1.out.len pW)
    have HLH := Lib.hid (HP1.out.len pH)
    clear hf
    go_wp2_with fail
    refine HF1.out.mono ?_
    rintro E w2 ⟨rfl, hw2⟩
    rw [hw2]
    clear hw2
    go_wp2_with fail
    refine HF2.out.mono ?_
    rintro E w3 ⟨rfl, hw3⟩
    rw [hw3]
    clear hw3
    go_wp2_with fail
    refine (sp_Taken b g first is _ HP1.out.sp).mono ?_
    rintro E w4 ⟨v4, rfl, hO, hB⟩
    obtain ⟨A4, c4, rfl, hR4⟩ := hO.rd [] (by have := HLT.out; omega) (by simp)
    have HR4 := Lib.hid hR4
    have HP4 := Lib.hid (HP1.out.ext hB)
    have HB4 := Lib.hid hB
    clear hO hB hR4
    go_wp2_with fail
    refine (rs_Taken HP4.out.rs (by have := HLT.out; omega)).mono ?_
    rintro E w5 ⟨v5, rfl, hO, hB⟩
    obtain ⟨A5, c5, rfl, hR5⟩ := hO.rd [] (by have := HLT.out; omega) (by simp)
    have HS5 := Lib.hid (l8_sameInts w5 (HR4.out.ext hB) hR5)
    rw [decide_eq_true rfl] at HS5
    have HP5 := Lib.hid (HP4.out.ext hB)
    have HB5 := Lib.hid (HB4.out.trans (hB.mono HB4.out.size))
    clear hO hB hR5
    go_wp2_with fail
    refine HS5.out.mono ?_
    rintro E w6 ⟨rfl, hO⟩
    have hB := hO.below (Nat.le_refl _) (by simp)
    have HP6 := Lib.hid (HP5.out.ext hB)
    have HB6 := Lib.hid (HB5.out.trans (hB.mono HB5.out.size))
    clear hO hB
    go_wp2_with fail
    refine (sp_Held b g first is _ HP6.out.sp).mono ?_
    rintro E w7 ⟨v7, rfl, hO, hB⟩
    obtain ⟨A7, c7, rfl, hR7⟩ := hO.rd [] (by have := HLH.out; omega) (by simp)
    have HR7 := Lib.hid hR7
    have HP7 := Lib.hid (HP6.out.ext hB)
    have HB7 := Lib.hid (HB6.out.trans (hB.mono HB6.out.size))
    clear hO hB hR7
    go_wp2_with fail
    have HRH := Lib.hid (rs_Held HP7.out.rs (by have := HLW.out; omega))
    rw [HHE.out] at HRH
    refine HRH.out.mono ?_
    rintro E w8 ⟨v8, rfl, hO, hB⟩
    obtain ⟨A8, c8, rfl, hR8⟩ := hO.rd [] (by have := HLH.out; omega) (by simp)
    have HS8 := Lib.hid (l8_sameInts w8 (HR7.out.ext hB) hR8)
    rw [decide_eq_true rfl] at HS8
    have HP8 := Lib.hid (HP7.out.ext hB)
    have HB8 := Lib.hid (HB7.out.trans (hB.mono HB7.out.size))
    clear hO hB hR8 HRH
    go_wp2_with fail
    refine HS8.out.mono ?_
    rintro E w9 ⟨rfl, hO⟩
    have hB := hO.below (Nat.le_refl _) (by simp)
    have HP9 := Lib.hid (HP8.out.ext hB)
    have HB9 := Lib.hid (HB8.out.trans (hB.mono HB8.out.size))
    clear hO hB d1
    go_wp2
    go_ret
    exact ⟨rfl, is, HP9.out, HOW.out.trans (Only.of_below _ HB9.out)⟩
  have e1 : (kd == 1) = false := by simp [k1]
  have e2 : (kd == 2) = false := by simp [k2]
  have e3 : (kd == 3) = false := by simp [k3]
  have e4 : (kd == 4) = false := by simp [k4]
  have e5 : (kd == 5) = false := by simp [k5]
  clear k1 k2 k3 k4 k5
  go_wp2
  go_ret
  exact ⟨rfl, is, HP1.out, HOW.out⟩
end
end Go.Proofs.Ytodondpggkohjaa
