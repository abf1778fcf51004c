/- The reference's Size and Fits. -/
import Derived.Test.YtlandlgjhnnaiaaPg8
set_option linter.unusedVariables false
set_option linter.unusedSimpArgs false
set_option maxRecDepth 100000
namespace Go.Proofs.Ytlandlgjhnnaiaa
open Go.RowKit
set_option maxHeartbeats 2000000 in
theorem rn_Size (n : Nd) (vE vC vK vD : Value) (w : World) (hN : NdR w n vE vC vK vD) :
    Calls Try.prog 18 #[.agg (ndC n vE vC vK vD)] w fun e w' => e = .returned (.int .i64 (sizeN n)) ∧ Below w.heap.size w w' := by
  obtain ⟨g, hg⟩ : ∃ g, g = w.heap.size := ⟨_, rfl⟩
  have HLF := Lib.hid (fun (W : World) (hb : Below w.heap.size w W) => rn_leaf n vE vC vK vD W (hN.ext hb))
  have HIN := Lib.hid (fun (W : World) (hb : Below w.heap.size w W) => rn_inner n vE vC vK vD W (hN.ext hb))
  have HCH := Lib.hid (fun (W : World) (hb : Below w.heap.size w W) => rn_chain n vE vC vK vD W (hN.ext hb))
  obtain ⟨lf, hlf⟩ : ∃ lf, lf = isLeafN n := ⟨_, rfl⟩
  obtain ⟨iN, hin⟩ : ∃ iN, iN = isInnerN n := ⟨_, rfl⟩
  obtain ⟨ch, hch⟩ : ∃ ch, ch = isChainN n := ⟨_, rfl⟩
  rw [← hlf] at HLF
  rw [← hin] at HIN
  rw [← hch] at HCH
  have HSZ := Lib.hid (show sizeN n = if n.kind = 1 ∧ lf = true then ((8 + entsZ n.ents n.chs : Nat) : Int) else if n.kind = 2 ∧ iN = true then ((12 + keysZ n.keys : Nat) : Int) else if n.kind = 3 ∧ ch = true then ((12 + n.data.size : Nat) : Int) else -1 by rw [hlf, hin, hch]; rfl)
  obtain ⟨z, hz⟩ : ∃ z, z = sizeN n := ⟨_, rfl⟩
  rw [← hz] at HSZ ⊢
  have HLL := Lib.hid (show lf = true → n.chs.length = n.ents.length ∧ leafGo noS n.ents n.chs = true by rw [hlf]; exact isLeafN_len)
  have HII := Lib.hid (show iN = true → riseGo noS n.keys = true by rw [hin]; exact isInnerN_rise)
  have HCC := Lib.hid (show ch = true → n.data.size ≤ 500 by rw [hch]; intro h; simp only [isChainN, Bool.and_eq_true, decide_eq_true_eq] at h; exact h.1.2)
  clear hlf hin hch hz
  obtain ⟨⟨A1, c1, rfl, h1⟩, ⟨A2, c2, rfl, h2⟩, ⟨A3, c3, rfl, h3⟩, ⟨A4, c4, rfl, h4⟩⟩ := hN
  obtain ⟨kind, ents, chs, keys, kids, next, data⟩ := n
  unfold ndC at HLF HIN HCH ⊢
  dsimp only at h1 h2 h3 h4 HLF HIN HCH HSZ HLL HII HCC ⊢
  have m1 := h1.max
  have m3 := h3.max
  have HR1 := Lib.hid h1
  have HR2 := Lib.hid h2
  have HR3 := Lib.hid h3
  clear h1 h2 h3 h4
  obtain ⟨W, hW⟩ : ∃ W, W = w.alloc (.cells #[.int .i64 kind, .slice A1 ents.length c1, .slice A2 chs.length c2, .slice A3 keys.length c3, .slice A4 kids.length c4, .int .i64 next, .string data] 26) := ⟨_, rfl⟩
  have HB0 := Lib.hid (show Below w.heap.size w W by rw [hW]; exact (Below.refl _ _).alloc (Nat.le_refl _) _)
  have HRW := Lib.hid (show W.heap[g]? = some (.cells #[.int .i64 kind, .slice A1 ents.length c1, .slice A2 chs.length c2, .slice A3 keys.length c3, .slice A4 kids.length c4, .int .i64 next, .string data] 26 (0, 0)) by rw [hW, hg]; exact heap_alloc_new w _)
  have HZ := Lib.hid (show w.heap.size ≤ W.heap.size ∧ g < W.heap.size ∧ g = w.heap.size by rw [hW]; simp; omega)
  -- the cells of the node behind a call
  have HCL := Lib.hid (show ∀ W', Below W.heap.size W W' → W'.cell? ⟨g, 0, none⟩ = some (.int .i64 kind) ∧ W'.cell? ⟨g, 1, none⟩ = some (.slice A1 ents.length c1) ∧ W'.cell? ⟨g, 2, none⟩ = some (.slice A2 chs.length c2) ∧ W'.cell? ⟨g, 3, none⟩ = some (.slice A3 keys.length c3) ∧ W'.cell? ⟨g, 4, none⟩ = some (.slice A4 kids.length c4) ∧ W'.cell? ⟨g, 5, none⟩ = some (.int .i64 next) ∧ W'.cell? ⟨g, 6, none⟩ = some (.string data) ∧ g < W'.heap.size from fun W' hb => by
    have hr := (hb.block g HZ.out.2.1).trans HRW.out
    exact ⟨cell_of_row _ g 0 _ _ _ hr, cell_of_row _ g 1 _ _ _ hr, cell_of_row _ g 2 _ _ _ hr, cell_of_row _ g 3 _ _ _ hr, cell_of_row _ g 4 _ _ _ hr, cell_of_row _ g 5 _ _ _ hr, cell_of_row _ g 6 _ _ _ hr, lt_of_block hr⟩)
  by_cases k1 : kind = 1
  · subst k1
    go_enter Try.func18, Try.ntmps18
    go_wp2_with fail
    rw [← hW, ← hg]
    refine (HLF.out _ HB0.out).mono ?_
    rintro e w1 ⟨rfl, hB1⟩
    have HB1 := Lib.hid (HB0.out.trans (hB1.mono HB0.out.size))
    obtain ⟨d0, d1, d2, d3, d4, d5, d6, d7⟩ := HCL.out w1 hB1
    have HBW := Lib.hid hB1
    clear hB1 hW hg HRW
    cases lf
    · have HS2 := Lib.hid (show z = -1 by rw [HSZ.out]; simp)
      go_wp2
      go_ret
      exact ⟨by rw [HS2.out]; rfl, HB1.out⟩
    · obtain ⟨hl1, hl2⟩ := HLL.out rfl
      have HBD := Lib.hid (leafGo_bnd ents chs noS hl2)
      have HZL := Lib.hid (entsZ_le ents chs hl1 HBD.out)
      have HZT := Lib.hid (entsZ_take ents chs hl1)
      have HLN := Lib.hid hl1
      obtain ⟨ne, hne⟩ : ∃ ne, ne = ents.length := ⟨_, rfl⟩
      rw [hl1] at d2 HR2 HCL
      rw [← hne] at d1 d2 HR1 HR2 m1 HBD HZL HZT HLN HCL
      have HNE := Lib.hid hne
      clear hl1 hl2 hne
      go_wp2_with fail
      go_loopw [3, 4] (fun l3 x wr => ∃ k : Nat, k ≤ ne ∧ x = .int .i64 k ∧ l3 = .int .i64 ((8 + entsZ (ents.take k) (chs.take k) : Nat) : Int) ∧ Only [] w1 wr) (fun _ x _ => ne - (intOf x).toNat)
      case atStart => exact ⟨0, by omega, rfl, by simp [entsZ], Only.refl _ _⟩
      case round =>
        obtain ⟨k, hk, rfl, rfl, hO⟩ := hrel
        have HO := Lib.hid hO
        have HBw := Lib.hid (hO.below HBW.out.size (by simp) : Below W.heap.size w1 wr)
        have HBk := Lib.hid (HB1.out.trans (HBw.out.mono (by have := HZ.out; omega)))
        clear hO d0 d1 d2 d3 d4 d5 d6 d7
        obtain ⟨d0, d1, d2, d3, d4, d5, d6, d7⟩ := HCL.out wr (HBW.out.trans HBw.out)
        by_cases hkn : k < ne
        · obtain ⟨b1, o1, rfl, hc1⟩ := (HR1.out.ext HBk.out).at_ (by omega)
          obtain ⟨b2, o2, rfl, -, hc2⟩ := (HR2.out.ext HBk.out).at_ (by omega)
          obtain ⟨hck, hcv⟩ := hc1 k hkn
          have hcc := hc2 k hkn
          have hbs1 : b1 < wr.heap.size := World.block_lt_of_cell? wr _ hck
          have hbs2 : b2 < wr.heap.size := World.block_lt_of_cell? wr _ hcc
          have hbd := HBD.out k hkn
          have hzl := HZL.out k hk
          have HST := Lib.hid (HZT.out k hkn)
          clear hc1 hc2
          obtain ⟨Z, hZ⟩ : ∃ Z, Z = entsZ (ents.take k) (chs.take k) := ⟨_, rfl⟩
          obtain ⟨Z', hZ'⟩ : ∃ Z', Z' = entsZ (ents.take (k + 1)) (chs.take (k + 1)) := ⟨_, rfl⟩
          have HZ' := Lib.hid hZ'
          rw [← hZ] at hzl ⊢
          rw [← hZ, ← hZ'] at HST
          clear hZ hZ'
          obtain ⟨e, he⟩ : ∃ e, e = ents.getD k default := ⟨_, rfl⟩
          rw [← he] at hck hcv hbd HST
          obtain ⟨c, hc⟩ : ∃ c, c = chs.getD k 0 := ⟨_, rfl⟩
          rw [← hc] at hcc HST
          clear he hc
          obtain ⟨key, val⟩ := e
          dsimp only at hck hcv hbd HST
          have hk0 : (0 : Int) ≤ (k : Int) ∧ (k : Int) < (ne : Int) ∧ (ne : Int) ≤ 6500000000000 ∧ (Z : Int) ≤ 190 * (k : Int) ∧ (key.size : Int) ≤ 120 ∧ (val.size : Int) ≤ 64 := by omega
          by_cases hc0 : c = 0
          · subst hc0
            have HEE := Lib.hid (show (Z' : Int) = Z + 2 + key.size + val.size by have := HST.out; simp at this; omega)
            go_wp2_with fail
            go_quiet ((fail))
            go_wp2
            go_roundw
            case rel => exact ⟨k + 1, by omega, by go_num, by rw [← HZ'.out]; have := HEE.out; go_num, HO.out.drewN _⟩
            case measure => simp [intOf]; omega
          · have hc1 : (c != 0) = true := by simpa using hc0
            have HEE := Lib.hid (show (Z' : Int) = Z + 6 + key.size + val.size by have := HST.out; simp [hc0] at this; omega)
            go_wp2_with fail
            go_quiet ((fail))
            go_wp2
            go_roundw
            case rel => exact ⟨k + 1, by omega, by go_num, by rw [← HZ'.out]; have := HEE.out; go_num, HO.out.drewN _⟩
            case measure => simp [intOf]; omega
        · obtain rfl : ne = k := by omega
          have HS2 := Lib.hid (show z = ((8 + entsZ (ents.take ne) (chs.take ne) : Nat) : Int) by
            rw [HSZ.out, if_pos (by simp), List.take_of_length_le (by rw [HNE.out]; exact Nat.le_refl _), List.take_of_length_le (by rw [HLN.out]; exact Nat.le_refl _)])
          go_wp2
          go_ret
          exact ⟨by rw [HS2.out]; rfl, HBk.out⟩
  have q1 : (kind == 1) = false := by simpa using k1
  by_cases k2 : kind = 2
  · subst k2
    go_enter Try.func18, Try.ntmps18
    go_wp2_with fail
    rw [← hW, ← hg]
    refine (HIN.out _ HB0.out).mono ?_
    rintro e w1 ⟨rfl, hB1⟩
    have HB1 := Lib.hid (HB0.out.trans (hB1.mono HB0.out.size))
    obtain ⟨d0, d1, d2, d3, d4, d5, d6, d7⟩ := HCL.out w1 hB1
    have HBW := Lib.hid hB1
    clear hB1 hW hg HRW
    cases iN
    · have HS2 := Lib.hid (show z = -1 by rw [HSZ.out]; simp)
      go_wp2
      go_ret
      exact ⟨by rw [HS2.out]; rfl, HB1.out⟩
    · have HBD := Lib.hid (riseGo_bnd keys noS (HII.out rfl))
      have HZL := Lib.hid (keysZ_le keys HBD.out)
      have HZT := Lib.hid (keysZ_take keys)
      obtain ⟨ne, hne⟩ : ∃ ne, ne = keys.length := ⟨_, rfl⟩
      rw [← hne] at d3 HR3 m3 HBD HZL HZT HCL
      have HNE := Lib.hid hne
      clear hne
      go_wp2_with fail
      go_loopw [3, 5] (fun l3 x wr => ∃ k : Nat, k ≤ ne ∧ x = .int .i64 k ∧ l3 = .int .i64 ((12 + keysZ (keys.take k) : Nat) : Int) ∧ wr = w1) (fun _ x _ => ne - (intOf x).toNat)
      case atStart => exact ⟨0, by omega, rfl, by simp [keysZ], rfl⟩
      case round =>
        obtain ⟨k, hk, rfl, rfl, rfl⟩ := hrel
        by_cases hkn : k < ne
        · obtain ⟨b1, o1, rfl, hc1⟩ := (HR3.out.ext HB1.out).at_ (by omega)
          have hck := hc1 k hkn
          have hbs1 : b1 < wr.heap.size := World.block_lt_of_cell? wr _ hck
          have hbd := HBD.out k hkn
          have hzl := HZL.out k hk
          have HST := Lib.hid (HZT.out k hkn)
          clear hc1
          obtain ⟨Z, hZ⟩ : ∃ Z, Z = keysZ (keys.take k) := ⟨_, rfl⟩
          obtain ⟨Z', hZ'⟩ : ∃ Z', Z' = keysZ (keys.take (k + 1)) := ⟨_, rfl⟩
          have HZ' := Lib.hid hZ'
          rw [← hZ] at hzl ⊢
          rw [← hZ, ← hZ'] at HST
          clear hZ hZ'
          obtain ⟨key, he⟩ : ∃ e, e = keys.getD k default := ⟨_, rfl⟩
          rw [← he] at hck hbd HST
          clear he
          have hk0 : (0 : Int) ≤ (k : Int) ∧ (k : Int) < (ne : Int) ∧ (ne : Int) ≤ 13000000000000 ∧ (Z : Int) ≤ 125 * (k : Int) ∧ (key.size : Int) ≤ 120 := by omega
          have HEE := Lib.hid (show (Z' : Int) = Z + 5 + key.size by have := HST.out; omega)
          go_wp2
          go_roundw
          case rel => exact ⟨k + 1, by omega, by go_num, by rw [← HZ'.out]; have := HEE.out; go_num, trivial⟩
          case measure => simp [intOf]; omega
        · obtain rfl : ne = k := by omega
          have HS2 := Lib.hid (show z = ((12 + keysZ (keys.take ne) : Nat) : Int) by
            rw [HSZ.out, if_neg (by simp), if_pos (by simp), List.take_of_length_le (by rw [HNE.out]; exact Nat.le_refl _)])
          go_wp2
          go_ret
          exact ⟨by rw [HS2.out]; rfl, HB1.out⟩
  have q2 : (kind == 2) = false := by simpa using k2
  by_cases k3 : kind = 3
  · subst k3
    go_enter Try.func18, Try.ntmps18
    go_wp2_with fail
    rw [← hW, ← hg]
    refine (HCH.out _ HB0.out).mono ?_
    rintro e w1 ⟨rfl, hB1⟩
    have HB1 := Lib.hid (HB0.out.trans (hB1.mono HB0.out.size))
    obtain ⟨d0, d1, d2, d3, d4, d5, d6, d7⟩ := HCL.out w1 hB1
    have HBW := Lib.hid hB1
    clear hB1 hW hg HRW
    cases ch
    · have HS2 := Lib.hid (show z = -1 by rw [HSZ.out]; simp)
      go_wp2
      go_ret
      exact ⟨by rw [HS2.out]; rfl, HB1.out⟩
    · have hds := HCC.out rfl
      have HS2 := Lib.hid (show z = ((12 + data.size : Nat) : Int) by rw [HSZ.out]; simp)
      have hdi : (data.size : Int) ≤ 500 := by omega
      go_wp2
      go_ret
      exact ⟨by rw [HS2.out]; go_num, HB1.out⟩
  have q3 : (kind == 3) = false := by simpa using k3
  have HS2 := Lib.hid (show z = -1 by rw [HSZ.out, if_neg (by simp [k1]), if_neg (by simp [k2]), if_neg (by simp [k3])])
  go_enter Try.func18, Try.ntmps18
  go_wp2
  go_ret
  exact ⟨by rw [HS2.out]; rfl, by rw [← hW]; exact HB0.out⟩
theorem rn_Fits (n : Nd) (vE vC vK vD : Value) (w : World) (hN : NdR w n vE vC vK vD) :
    Calls Try.prog 19 #[.agg (ndC n vE vC vK vD)] w fun e w' => e = .returned (.bool (fitsN n)) ∧ Below w.heap.size w w' := by
  have HS := Lib.hid (fun (W : World) (hb : Below w.heap.size w W) => rn_Size n vE vC vK vD W (hN.ext hb))
  unfold fitsN
  obtain ⟨z, hz⟩ : ∃ z, z = sizeN n := ⟨_, rfl⟩
  rw [← hz] at HS ⊢
  clear hz hN
  unfold ndC at HS ⊢
  have HB0 := Lib.hid (show ∀ o, Below w.heap.size w (w.alloc o) from fun o => (Below.refl _ _).alloc (Nat.le_refl _) _)
  by_cases h1 : 0 ≤ z
  · by_cases h2 : z ≤ 512
    · go_enter Try.func19, Try.ntmps19
      go_wp2_with fail
      refine (HS.out _ (HB0.out _)).mono ?_
      rintro e w1 ⟨rfl, hB1⟩
      have HB1 := Lib.hid ((HB0.out _).trans (hB1.mono (by simp)))
      clear hB1
      go_wp2
      go_ret
      exact ⟨by simp [h1, h2], HB1.out⟩
    · go_enter Try.func19, Try.ntmps19
      go_wp2_with fail
      refine (HS.out _ (HB0.out _)).mono ?_
      rintro e w1 ⟨rfl, hB1⟩
      have HB1 := Lib.hid ((HB0.out _).trans (hB1.mono (by simp)))
      clear hB1
      go_wp2
      go_ret
      exact ⟨by simp [h1, h2], HB1.out⟩
  · go_enter Try.func19, Try.ntmps19
    go_wp2_with fail
    refine (HS.out _ (HB0.out _)).mono ?_
    rintro e w1 ⟨rfl, hB1⟩
    have HB1 := Lib.hid ((HB0.out _).trans (hB1.mono (by simp)))
    clear hB1
    go_wp2
    go_ret
    exact ⟨by rw [decide_eq_false (show ¬ 0 ≤ z by omega)]; rfl, HB1.out⟩
end Go.Proofs.Ytlandlgjhnnaiaa
