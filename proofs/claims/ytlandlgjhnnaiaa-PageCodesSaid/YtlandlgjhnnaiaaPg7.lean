/- The reference's leaf, inner, chain. -/
import Derived.Test.YtlandlgjhnnaiaaPg6
set_option linter.unusedVariables false
set_option linter.unusedSimpArgs false
set_option maxRecDepth 100000
namespace Go.Proofs.Ytlandlgjhnnaiaa
open Go.RowKit
set_option maxHeartbeats 2000000 in
theorem rn_leaf (n : Nd) (vE vC vK vD : Value) (w : World) (hN : NdR w n vE vC vK vD) :
    Calls Try.prog 44 #[.agg (ndC n vE vC vK vD)] w fun e w' => e = .returned (.bool (isLeafN n)) ∧ Below w.heap.size w w' := by
  obtain ⟨⟨A1, c1, rfl, h1⟩, ⟨A2, c2, rfl, h2⟩, ⟨A3, c3, rfl, h3⟩, ⟨A4, c4, rfl, h4⟩⟩ := hN
  obtain ⟨kind, ents, chs, keys, kids, next, data⟩ := n
  rw [isLeafN_hd]
  unfold leafHd ndC
  dsimp only at h1 h2 h3 h4 ⊢
  have HR1 := Lib.hid h1
  have HR2 := Lib.hid h2
  have m1 := h1.max
  have m2 := h2.max
  have m3 := h3.max
  have m4 := h4.max
  clear h1 h2 h3 h4
  have HREF := Lib.hid (leafGo_ref ents chs noS)
  obtain ⟨ne, hne⟩ : ∃ ne, ne = ents.length := ⟨_, rfl⟩
  obtain ⟨nc, hnc⟩ : ∃ nc, nc = chs.length := ⟨_, rfl⟩
  obtain ⟨nk, hnk⟩ : ∃ nk, nk = keys.length := ⟨_, rfl⟩
  obtain ⟨nd, hnd⟩ : ∃ nd, nd = kids.length := ⟨_, rfl⟩
  rw [← hne, ← hnc, ← hnk, ← hnd]
  rw [← hne, ← hnc] at HREF
  rw [← hne] at HR1 m1
  rw [← hnc] at HR2 m2
  rw [← hnk] at m3
  rw [← hnd] at m4
  have HLE := Lib.hid hne
  have HLC := Lib.hid hnc
  clear hne hnc hnk hnd
  obtain ⟨L, hL⟩ : ∃ L, L = leafGo noS ents chs := ⟨_, rfl⟩
  rw [← hL]
  rw [← hL] at HREF
  clear hL
  by_cases q1 : ne = 0
  · rw [decide_eq_false (show ¬ ne ≠ 0 by omega)]
    subst q1
    go_enter Try.func44, Try.ntmps44
    go_wp2
    go_ret
    exact ⟨rfl, (Below.refl _ _).alloc (Nat.le_refl _) _⟩
  rw [decide_eq_true q1]
  have q10 : ((ne : Int) == 0) = false := by simpa using q1
  by_cases q2 : nc = ne
  rotate_left
  · rw [decide_eq_false q2]
    go_enter Try.func44, Try.ntmps44
    go_wp2
    go_ret
    exact ⟨rfl, (Below.refl _ _).alloc (Nat.le_refl _) _⟩
  subst q2
  rw [decide_eq_true rfl]
  by_cases q3 : nk = 0
  rotate_left
  · rw [decide_eq_false q3]
    have q30 : (0 : Int) < (nk : Int) := by omega
    go_enter Try.func44, Try.ntmps44
    go_wp2
    go_ret
    exact ⟨rfl, (Below.refl _ _).alloc (Nat.le_refl _) _⟩
  subst q3
  by_cases q4 : nd = 0
  rotate_left
  · rw [decide_eq_false q4]
    have q40 : (0 : Int) < (nd : Int) := by omega
    go_enter Try.func44, Try.ntmps44
    go_wp2
    go_ret
    exact ⟨rfl, (Below.refl _ _).alloc (Nat.le_refl _) _⟩
  subst q4
  by_cases q5 : next = 0
  rotate_left
  · rw [decide_eq_false q5]
    have q50 : (next != 0) = true := by simpa using q5
    go_enter Try.func44, Try.ntmps44
    go_wp2
    go_ret
    exact ⟨rfl, (Below.refl _ _).alloc (Nat.le_refl _) _⟩
  subst q5
  by_cases q6 : data.size = 0
  rotate_left
  · rw [decide_eq_false q6]
    have q60 := toList_ne q6
    go_enter Try.func44, Try.ntmps44
    go_wp2
    go_ret
    exact ⟨rfl, (Below.refl _ _).alloc (Nat.le_refl _) _⟩
  rw [decide_eq_true q6]
  obtain rfl := size_eq q6
  have q60 := noS_list
  simp only [Bool.and_true, Bool.true_and]
  have HRF := Lib.hid (HREF.out rfl)
  clear HREF
  obtain ⟨W, hW⟩ : ∃ W, W = w.alloc (.cells #[.int .i64 kind, .slice A1 nc c1, .slice A2 nc c2, .slice A3 0 c3, .slice A4 0 c4, .int .i64 0, .string noS] 26) := ⟨_, rfl⟩
  obtain ⟨g, hg⟩ : ∃ g, g = w.heap.size := ⟨_, rfl⟩
  have HB0 := Lib.hid (show Below w.heap.size w W by rw [hW]; exact (Below.refl _ _).alloc (Nat.le_refl _) _)
  have hrow : W.heap[g]? = some (.cells #[.int .i64 kind, .slice A1 nc c1, .slice A2 nc c2, .slice A3 0 c3, .slice A4 0 c4, .int .i64 0, .string noS] 26 (0, 0)) := by rw [hW, hg]; exact heap_alloc_new w _
  have d1 : W.cell? ⟨g, 1, none⟩ = some (.slice A1 nc c1) := cell_of_row _ g 1 _ _ _ hrow
  have d2 : W.cell? ⟨g, 2, none⟩ = some (.slice A2 nc c2) := cell_of_row _ g 2 _ _ _ hrow
  have HR1 := Lib.hid (HR1.out.ext HB0.out)
  have HR2 := Lib.hid (HR2.out.ext HB0.out)
  go_enter Try.func44, Try.ntmps44
  go_wp2_with fail
  rw [← hW, ← hg]
  clear hW hg q10 hrow
  go_loopw [3, 4] (fun x _ wr => ∃ k : Nat, k ≤ nc ∧ x = .int .i64 k ∧ valsGo ents chs = valsGo (ents.drop k) (chs.drop k) ∧ wr = W) (fun x _ _ => nc - (intOf x).toNat)
  case atStart => exact ⟨0, by omega, rfl, rfl, rfl⟩
  case round =>
    obtain ⟨k, hk, rfl, hE, rfl⟩ := hrel
    have HE := Lib.hid hE
    clear hE
    by_cases hkn : k < nc
    · obtain ⟨b1, o1, rfl, hc1⟩ := HR1.out.at_ (by omega)
      obtain ⟨b2, o2, rfl, -, hc2⟩ := HR2.out.at_ (by omega)
      have hcv := (hc1 k hkn).2
      have hcc := hc2 k hkn
      clear hc1 hc2
      have hst := HE.out
      rw [valsGo_step _ _ _ (by rw [← HLE.out]; exact hkn) (by rw [← HLE.out, ← HLC.out])] at hst
      obtain ⟨R, hR⟩ : ∃ R, R = valsGo (ents.drop (k + 1)) (chs.drop (k + 1)) := ⟨_, rfl⟩
      have HRR := Lib.hid hR
      rw [← hR] at hst
      obtain ⟨e, he⟩ : ∃ e, e = ents.getD k default := ⟨_, rfl⟩
      rw [← he] at hcv hst
      obtain ⟨c, hc⟩ : ∃ c, c = chs.getD k 0 := ⟨_, rfl⟩
      rw [← hc] at hcc hst
      clear he hc hR
      obtain ⟨key, val⟩ := e
      dsimp only at hcv hst
      have hbs1 : b1 < wr.heap.size := World.block_lt_of_cell? wr _ hcv
      have hbs2 : b2 < wr.heap.size := World.block_lt_of_cell? wr _ hcc
      have hgs : g < wr.heap.size := World.block_lt_of_cell? wr _ d1
      have HIB := Lib.hid (rn_block c)
      have hk0 : (0 : Int) ≤ (k : Int) ∧ (k : Int) < (nc : Int) := by omega
      obtain ⟨V, hV⟩ : ∃ V, V = valsGo ents chs := ⟨_, rfl⟩
      rw [← hV] at hst HRF ⊢
      clear hV
      by_cases hc0 : c = 0
      · subst hc0
        by_cases hv : 64 < val.size
        · have HST := Lib.hid (show V = false by rw [hst]; simp [valOk, hv])
          have hvi : (64 : Int) < (val.size : Int) := by omega
          clear hst
          go_wp2
          go_ret
          refine ⟨?_, HB0.out⟩
          rw [HRF.out, HST.out]; rfl
        · have HST := Lib.hid (show V = R by rw [hst]; simp [valOk]; omega)
          have hvi : (val.size : Int) ≤ 64 := by omega
          clear hst
          go_wp2
          go_roundw
          case rel => exact ⟨k + 1, by omega, by go_num, by rw [HST.out]; exact HRR.out, trivial⟩
          case measure => simp [intOf]; omega
      have hc1 : (c != 0) = true := by simpa using hc0
      have hc2 : (c == 0) = false := by simpa using hc0
      by_cases hv : 0 < val.size
      · have HST := Lib.hid (show V = false by rw [hst]; simp [valOk, hc0, hv])
        have hvi : (0 : Int) < (val.size : Int) := by omega
        clear hst
        go_wp2
        go_ret
        refine ⟨?_, HB0.out⟩
        rw [HRF.out, HST.out]; rfl
      have hvi : (val.size : Int) = 0 := by omega
      obtain ⟨bk, hbk⟩ : ∃ bk, bk = blkOk c := ⟨_, rfl⟩
      have hst2 : V = (bk && R) := by rw [hst, hbk]; simp [valOk, hc0, hv]
      rw [← hbk] at HIB
      clear hbk hst
      cases bk
      · have HST := Lib.hid (show V = false by simpa using hst2)
        clear hst2
        go_wp2_with fail
        refine (HIB.out _).mono ?_
        rintro e w3 ⟨rfl, rfl⟩
        go_wp2
        go_ret
        refine ⟨?_, HB0.out⟩
        rw [HRF.out, HST.out]; rfl
      · have HST := Lib.hid (show V = R by simpa using hst2)
        clear hst2
        go_wp2_with fail
        refine (HIB.out _).mono ?_
        rintro e w3 ⟨rfl, rfl⟩
        go_wp2
        go_roundw
        case rel => exact ⟨k + 1, by omega, by go_num, by rw [HST.out]; exact HRR.out, trivial⟩
        case measure => simp [intOf]; omega
    · obtain rfl : nc = k := by omega
      have HV := Lib.hid (show valsGo ents chs = true by
        rw [HE.out, List.drop_of_length_le (show ents.length ≤ nc by rw [← HLE.out]; exact Nat.le_refl _)]; rfl)
      go_wp2_with fail
      refine (rn_keysOf A1 nc c1 ents wr HR1.out).mono ?_
      rintro e w3 ⟨v, rfl, hO3, hB3⟩
      have HB3 := Lib.hid hB3
      obtain ⟨A5, c5, rfl, hr5⟩ := hO3.rd (by omega)
      have HR5 := Lib.hid hr5
      clear hO3 hB3 hr5
      go_wp2_with fail
      refine (rn_rising A5 nc c5 _ w3 HR5.out).mono ?_
      rintro e w4 ⟨rfl, hO4⟩
      have HO4 := Lib.hid hO4
      clear hO4
      go_wp2
      go_ret
      refine ⟨?_, (HB0.out.trans (HB3.out.mono HB0.out.size)).trans (HO4.out.below (by have := HB3.out.size; have := HB0.out.size; omega) (by simp))⟩
      rw [HRF.out, HV.out]; rfl
set_option maxHeartbeats 2000000 in
theorem rn_chain (n : Nd) (vE vC vK vD : Value) (w : World) (hN : NdR w n vE vC vK vD) :
    Calls Try.prog 46 #[.agg (ndC n vE vC vK vD)] w fun e w' => e = .returned (.bool (isChainN n)) ∧ Below w.heap.size w w' := by
  obtain ⟨⟨A1, c1, rfl, h1⟩, ⟨A2, c2, rfl, h2⟩, ⟨A3, c3, rfl, h3⟩, ⟨A4, c4, rfl, h4⟩⟩ := hN
  obtain ⟨kind, ents, chs, keys, kids, next, data⟩ := n
  unfold isChainN ndC
  dsimp only at h1 h2 h3 h4 ⊢
  clear h1 h2 h3 h4
  obtain ⟨ne, hne⟩ : ∃ ne, ne = ents.length := ⟨_, rfl⟩
  obtain ⟨nc, hnc⟩ : ∃ nc, nc = chs.length := ⟨_, rfl⟩
  obtain ⟨nk, hnk⟩ : ∃ nk, nk = keys.length := ⟨_, rfl⟩
  obtain ⟨nd, hnd⟩ : ∃ nd, nd = kids.length := ⟨_, rfl⟩
  rw [← hne, ← hnc, ← hnk, ← hnd]
  clear hne hnc hnk hnd
  by_cases p1 : ne = 0
  rotate_left
  · rw [decide_eq_false (show ¬ ne + nc + nk + nd = 0 by omega)]
    have q0 : (0 : Int) < (ne : Int) := by omega
    clear p1
    go_enter Try.func46, Try.ntmps46
    go_wp2
    go_ret
    exact ⟨rfl, (Below.refl _ _).alloc (Nat.le_refl _) _⟩
  subst p1
  by_cases p1 : nc = 0
  rotate_left
  · rw [decide_eq_false (show ¬ 0 + nc + nk + nd = 0 by omega)]
    have q0 : (0 : Int) < (nc : Int) := by omega
    clear p1
    go_enter Try.func46, Try.ntmps46
    go_wp2
    go_ret
    exact ⟨rfl, (Below.refl _ _).alloc (Nat.le_refl _) _⟩
  subst p1
  by_cases p1 : nk = 0
  rotate_left
  · rw [decide_eq_false (show ¬ 0 + 0 + nk + nd = 0 by omega)]
    have q0 : (0 : Int) < (nk : Int) := by omega
    clear p1
    go_enter Try.func46, Try.ntmps46
    go_wp2
    go_ret
    exact ⟨rfl, (Below.refl _ _).alloc (Nat.le_refl _) _⟩
  subst p1
  by_cases p1 : nd = 0
  rotate_left
  · rw [decide_eq_false (show ¬ 0 + 0 + 0 + nd = 0 by omega)]
    have q0 : (0 : Int) < (nd : Int) := by omega
    clear p1
    go_enter Try.func46, Try.ntmps46
    go_wp2
    go_ret
    exact ⟨rfl, (Below.refl _ _).alloc (Nat.le_refl _) _⟩
  subst p1
  rw [decide_eq_true (show 0 + 0 + 0 + 0 = 0 by omega)]
  by_cases q2 : 1 ≤ data.size
  rotate_left
  · rw [decide_eq_false q2]
    have q20 : ¬ (1 : Int) ≤ (data.size : Int) := by omega
    clear q2
    go_enter Try.func46, Try.ntmps46
    go_wp2
    go_ret
    exact ⟨rfl, (Below.refl _ _).alloc (Nat.le_refl _) _⟩
  rw [decide_eq_true q2]
  have q20 : (1 : Int) ≤ (data.size : Int) := by omega
  clear q2
  by_cases q3 : data.size ≤ 500
  rotate_left
  · rw [decide_eq_false q3]
    have q30 : ¬ (data.size : Int) ≤ 500 := by omega
    clear q3
    go_enter Try.func46, Try.ntmps46
    go_wp2
    go_ret
    exact ⟨rfl, (Below.refl _ _).alloc (Nat.le_refl _) _⟩
  rw [decide_eq_true q3]
  have q30 : (data.size : Int) ≤ 500 := by omega
  clear q3
  by_cases q4 : next = 0
  · rw [decide_eq_true q4]
    subst q4
    go_enter Try.func46, Try.ntmps46
    go_wp2
    go_ret
    exact ⟨rfl, (Below.refl _ _).alloc (Nat.le_refl _) _⟩
  rw [decide_eq_false q4]
  have q40 : (next == 0) = false := by simpa using q4
  have HIB := Lib.hid (rn_block next)
  clear q4
  go_enter Try.func46, Try.ntmps46
  go_wp2_with fail
  refine (HIB.out _).mono ?_
  rintro e w3 ⟨rfl, rfl⟩
  go_wp2
  go_ret
  exact ⟨by simp, (Below.refl _ _).alloc (Nat.le_refl _) _⟩
end Go.Proofs.Ytlandlgjhnnaiaa
