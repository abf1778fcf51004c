/- The reference's inner. -/
import Derived.Test.YtlandlgjhnnaiaaPg7
set_option linter.unusedVariables false
set_option linter.unusedSimpArgs false
set_option maxRecDepth 100000
namespace Go.Proofs.Ytlandlgjhnnaiaa
open Go.RowKit
theorem contains_take (l : List Int) (b : Int) (k : Nat) (h : k < l.length) (hne : l.getD k 0 ≠ b) : (l.take (k + 1)).contains b = (l.take k).contains b := by
  rw [take_snoc l k 0 h]
  have h1 : (b == l.getD k 0) = false := beq_eq_false_iff_ne.2 fun e => hne e.symm
  rw [List.contains_append, List.contains_cons, h1]
  simp
theorem contains_rev (l : List Int) (b : Int) : l.reverse.contains b = l.contains b := by simp [List.contains_eq_mem]
theorem contains_at (l : List Int) (b : Int) (i k : Nat) (hi : i ≤ l.length) (h : k < i) (he : l.getD k 0 = b) : (l.take i).contains b = true := by
  rw [List.contains_iff_mem]
  rw [← he, List.getD_eq_getElem?_getD, List.getElem?_eq_getElem (by omega)]
  have : (l.take i)[k]? = some l[k] := by rw [List.getElem?_take]; simp [h]
  exact List.mem_of_getElem? this
set_option maxHeartbeats 2000000 in
theorem rn_inner (n : Nd) (vE vC vK vD : Value) (w : World) (hN : NdR w n vE vC vK vD) :
    Calls Try.prog 45 #[.agg (ndC n vE vC vK vD)] w fun e w' => e = .returned (.bool (isInnerN n)) ∧ Below w.heap.size w w' := by
  obtain ⟨⟨A1, c1, rfl, h1⟩, ⟨A2, c2, rfl, h2⟩, ⟨A3, c3, rfl, h3⟩, ⟨A4, c4, rfl, h4⟩⟩ := hN
  obtain ⟨kind, ents, chs, keys, kids, next, data⟩ := n
  rw [isInnerN_hd]
  unfold innHd ndC
  dsimp only at h1 h2 h3 h4 ⊢
  have HR3 := Lib.hid h3
  have HR4 := Lib.hid h4
  have m1 := h1.max
  have m2 := h2.max
  have m3 := h3.max
  have m4 := h4.max
  clear h1 h2 h3 h4
  obtain ⟨ne, hne⟩ : ∃ ne, ne = ents.length := ⟨_, rfl⟩
  obtain ⟨nc, hnc⟩ : ∃ nc, nc = chs.length := ⟨_, rfl⟩
  obtain ⟨nk, hnk⟩ : ∃ nk, nk = keys.length := ⟨_, rfl⟩
  obtain ⟨nd, hnd⟩ : ∃ nd, nd = kids.length := ⟨_, rfl⟩
  rw [← hne, ← hnc, ← hnk, ← hnd]
  rw [← hne] at m1
  rw [← hnc] at m2
  rw [← hnk] at HR3 m3
  rw [← hnd] at HR4 m4
  have HLK := Lib.hid hnk
  have HLD := Lib.hid hnd
  clear hne hnc hnk hnd
  obtain ⟨L, hL⟩ : ∃ L, L = riseGo noS keys := ⟨_, rfl⟩
  have HRC := Lib.hid (fun (W : World) (hb : Below w.heap.size w W) => rn_rising A3 nk c3 keys W (HR3.out.ext hb))
  rw [← hL] at HRC
  rw [← hL]
  clear hL HR3
  obtain ⟨U, hU⟩ : ∃ U, U = unlikeGo [] kids := ⟨_, rfl⟩
  rw [← hU]
  have HU := Lib.hid hU
  clear hU
  by_cases q1 : nk = 0
  · rw [decide_eq_false (show ¬ nk ≠ 0 by omega)]
    subst q1
    go_enter Try.func45, Try.ntmps45
    go_wp2
    go_ret
    exact ⟨rfl, (Below.refl _ _).alloc (Nat.le_refl _) _⟩
  rw [decide_eq_true q1]
  have q10 : ((nk : Int) == 0) = false := by simpa using q1
  by_cases q2 : nd = nk + 1
  rotate_left
  · rw [decide_eq_false q2]
    have q20 : ((nd : Int) != (nk : Int) + 1) = true := by simp; omega
    go_enter Try.func45, Try.ntmps45
    go_wp2
    go_ret
    exact ⟨rfl, (Below.refl _ _).alloc (Nat.le_refl _) _⟩
  rw [decide_eq_true q2]
  have q20 : ((nd : Int) != (nk : Int) + 1) = false := by simp; omega
  have HQ2 := Lib.hid q2
  clear q2
  by_cases q3 : ne = 0
  rotate_left
  · rw [decide_eq_false q3]
    have q30 : (0 : Int) < (ne : Int) := by omega
    go_enter Try.func45, Try.ntmps45
    go_wp2
    go_ret
    exact ⟨rfl, (Below.refl _ _).alloc (Nat.le_refl _) _⟩
  subst q3
  by_cases q4 : nc = 0
  rotate_left
  · rw [decide_eq_false q4]
    have q40 : (0 : Int) < (nc : Int) := by omega
    go_enter Try.func45, Try.ntmps45
    go_wp2
    go_ret
    exact ⟨rfl, (Below.refl _ _).alloc (Nat.le_refl _) _⟩
  subst q4
  by_cases q5 : next = 0
  rotate_left
  · rw [decide_eq_false q5]
    have q50 : (next != 0) = true := by simpa using q5
    go_enter Try.func45, Try.ntmps45
    go_wp2
    go_ret
    exact ⟨rfl, (Below.refl _ _).alloc (Nat.le_refl _) _⟩
  subst q5
  by_cases q6 : data.size = 0
  rotate_left
  · rw [decide_eq_false q6]
    have q60 := toList_ne q6
    go_enter Try.func45, Try.ntmps45
    go_wp2
    go_ret
    exact ⟨rfl, (Below.refl _ _).alloc (Nat.le_refl _) _⟩
  rw [decide_eq_true q6]
  obtain rfl := size_eq q6
  have q60 := noS_list
  simp only [Bool.and_true, Bool.true_and, decide_true]
  obtain ⟨W, hW⟩ : ∃ W, W = w.alloc (.cells #[.int .i64 kind, .slice A1 0 c1, .slice A2 0 c2, .slice A3 nk c3, .slice A4 nd c4, .int .i64 0, .string noS] 26) := ⟨_, rfl⟩
  obtain ⟨g, hg⟩ : ∃ g, g = w.heap.size := ⟨_, rfl⟩
  have HB0 := Lib.hid (show Below w.heap.size w W by rw [hW]; exact (Below.refl _ _).alloc (Nat.le_refl _) _)
  have hrow : W.heap[g]? = some (.cells #[.int .i64 kind, .slice A1 0 c1, .slice A2 0 c2, .slice A3 nk c3, .slice A4 nd c4, .int .i64 0, .string noS] 26 (0, 0)) := by rw [hW, hg]; exact heap_alloc_new w _
  have D3 := Lib.hid (show W.cell? ⟨g, 3, none⟩ = some (.slice A3 nk c3) from cell_of_row _ g 3 _ _ _ hrow)
  have D4 := Lib.hid (show W.cell? ⟨g, 4, none⟩ = some (.slice A4 nd c4) from cell_of_row _ g 4 _ _ _ hrow)
  have HR4 := Lib.hid (HR4.out.ext HB0.out)
  go_enter Try.func45, Try.ntmps45
  go_wp2_with fail
  rw [← hW, ← hg]
  clear hW hg q10 q20 hrow
  go_loopw [3, 4] (fun x _ wr => ∃ k : Nat, k ≤ nd ∧ x = .int .i64 k ∧ U = unlikeGo (kids.take k).reverse (kids.drop k) ∧ Only [] W wr) (fun x _ _ => nd - (intOf x).toNat)
  case atStart => exact ⟨0, by omega, rfl, HU.out, Only.refl _ _⟩
  case round =>
    obtain ⟨k, hk, rfl, hE, hO⟩ := hrel
    have HE := Lib.hid hE
    have HO := Lib.hid hO
    have hzW := hO.size
    clear hE hO
    have HBw := Lib.hid (HB0.out.trans (HO.out.below HB0.out.size (by simp)))
    have d3 : wr.cell? ⟨g, 3, none⟩ = some (.slice A3 nk c3) := cell_ext (HO.out.below (Nat.le_refl _) (by simp)) D3.out
    have d4 : wr.cell? ⟨g, 4, none⟩ = some (.slice A4 nd c4) := cell_ext (HO.out.below (Nat.le_refl _) (by simp)) D4.out
    by_cases hkn : k < nd
    · obtain ⟨b2, o2, rfl, -, hc2⟩ := (HR4.out.only HO.out (by simp)).at_ (by omega)
      have hcc := hc2 k hkn
      have hst := HE.out
      rw [unlikeGo_step _ _ _ (by rw [← HLD.out]; exact hkn), contains_rev] at hst
      have HSN := Lib.hid (show (kids.getD k 0 :: (kids.take k).reverse) = (kids.take (k + 1)).reverse by rw [take_snoc kids k 0 (by rw [← HLD.out]; exact hkn)]; simp)
      rw [HSN.out] at hst
      have HCA := Lib.hid (fun j => contains_at kids (kids.getD k 0) k j (by rw [← HLD.out]; exact hk))
      have HCT := Lib.hid (fun j (hj : j < nd) => contains_take kids (kids.getD k 0) j (by rw [← HLD.out]; exact hj))
      obtain ⟨c, hc⟩ : ∃ c, c = kids.getD k 0 := ⟨_, rfl⟩
      rw [← hc] at hcc hst HCA HCT
      have HCE := Lib.hid hc
      have hbs2 : b2 < wr.heap.size := World.block_lt_of_cell? wr _ hcc
      have hgs : g < wr.heap.size := World.block_lt_of_cell? wr _ d3
      have HIB := Lib.hid (rn_block c)
      have hk0 : (0 : Int) ≤ (k : Int) ∧ (k : Int) < (nd : Int) := by omega
      obtain ⟨R, hR⟩ : ∃ R, R = unlikeGo (kids.take (k + 1)).reverse (kids.drop (k + 1)) := ⟨_, rfl⟩
      rw [← hR] at hst
      have HRR := Lib.hid hR
      obtain ⟨bk, hbk⟩ : ∃ bk, bk = blkOk c := ⟨_, rfl⟩
      rw [← hbk] at HIB hst
      clear hc hbk hc2 hR
      cases bk
      · have HST := Lib.hid (show U = false by simpa using hst)
        clear hst
        go_wp2_with fail
        refine (HIB.out _).mono ?_
        rintro e w3 ⟨rfl, rfl⟩
        go_wp2
        go_ret
        exact ⟨by rw [HST.out]; simp, HBw.out⟩
      rw [Bool.true_and] at hst
      have HST := Lib.hid hst
      clear hst
      go_wp2_with fail
      refine (HIB.out _).mono ?_
      rintro e w3 ⟨rfl, rfl⟩
      go_wp2_with fail
      clear d3 d4
      go_loopw [4] (fun y wx => ∃ j : Nat, j ≤ k ∧ y = .int .i64 j ∧ (kids.take j).contains c = false ∧ Only [] W wx) (fun y _ => k - (intOf y).toNat)
      case atStart => exact ⟨0, by omega, rfl, by simp, HO.out⟩
      case round =>
        obtain ⟨j, hj, rfl, hF, hOx⟩ := hrel
        have HF := Lib.hid hF
        have HOx := Lib.hid hOx
        have hzx := hOx.size
        clear hF hOx
        have HBx := Lib.hid (HB0.out.trans (HOx.out.below HB0.out.size (by simp)))
        have d4 : wr.cell? ⟨g, 4, none⟩ = some (.slice (some ⟨b2, o2, none⟩) nd c4) := cell_ext (HOx.out.below (Nat.le_refl _) (by simp)) D4.out
        obtain ⟨b3, o3, he3, -, hc3⟩ := (HR4.out.only HOx.out (by simp)).at_ (by omega)
        injection he3 with he3
        injection he3 with e1 e2
        subst e1 e2
        have hcc := hc3 k hkn
        rw [← HCE.out] at hcc
        have HC3 := Lib.hid hc3
        clear hc3
        by_cases hjk : j < k
        · have hcj := HC3.out j (by omega)
          have hbs2 : b2 < wr.heap.size := World.block_lt_of_cell? wr _ hcc
          have HS1 := Lib.hid (HCT.out j (by omega))
          obtain ⟨x, hx⟩ : ∃ x, x = kids.getD j 0 := ⟨_, rfl⟩
          have HCA1 := Lib.hid (fun (e : x = c) => HCA.out j hjk (by rw [← hx]; exact e))
          rw [← hx] at hcj HS1
          clear hx
          have hj0 : (0 : Int) ≤ (j : Int) ∧ (j : Int) < (k : Int) := by omega
          by_cases hxc : x = c
          · have HST2 := Lib.hid (show U = false by rw [HST.out, HCA1.out hxc]; rfl)
            have hxc2 : (x == c) = true := by simpa using hxc
            clear hxc
            go_wp2_with fail
            go_quiet ((fail))
            go_wp2
            go_ret
            exact ⟨by rw [HST2.out]; simp, below_drewN HBx.out _⟩
          · have HF2 := Lib.hid ((HS1.out hxc).trans HF.out)
            have hxc2 : (x == c) = false := by simpa using hxc
            clear hxc
            go_wp2_with fail
            go_quiet ((fail))
            go_wp2
            go_roundw
            case rel => exact ⟨j + 1, by omega, by go_num, HF2.out, HOx.out.drewN _⟩
            case measure => simp [intOf]; omega
        · obtain rfl : j = k := by omega
          have HS3 := Lib.hid (show U = R by rw [HST.out, HF.out]; rfl)
          go_wp2
          go_roundw
          case rel => exact ⟨j + 1, by omega, by go_num, by rw [HS3.out]; exact HRR.out, HOx.out⟩
          case measure => simp [intOf]; omega
    · obtain rfl : nd = k := by omega
      have HU2 := Lib.hid (show U = true by rw [HE.out, List.drop_of_length_le (show kids.length ≤ nd by rw [← HLD.out]; exact Nat.le_refl _)]; rfl)
      go_wp2_with fail
      refine (HRC.out _ HBw.out).mono ?_
      rintro e w3 ⟨rfl, hO3⟩
      have HO3 := Lib.hid hO3
      clear hO3
      go_wp2
      go_ret
      exact ⟨by rw [HU2.out]; simp, HBw.out.trans (HO3.out.below HBw.out.size (by simp))⟩
end Go.Proofs.Ytlandlgjhnnaiaa
