/- The walk of PackSticks. -/
import Derived.Test.YtclafljkeaekfaaPkL1
import Derived.Deep.RegionLaw
import Derived.Deep.RegionWith
import Derived.Deep.DeepCutAuto
set_option linter.unusedVariables false
set_option linter.unusedSimpArgs false
set_option maxRecDepth 100000
namespace Go.Proofs.Ytclafljkeaekfaa
open Go.RowKit
/-- at the k-th value: the writer, the list, all else -/
structure StInv (w : World) (b base lim H q : Nat) (A : Option Addr) (c : Nat) (M : List ValV) (L : List UInt8) (e : Int) (v : Value) (wx : World) : Prop where
  wr : IsW wx b base lim L v e
  own : ∀ k, v.ownBlock = some k → H ≤ k
  rd : RdV wx A q c M
  at_ : ∀ p, A = some p → b < p.block ∧ p.block < H
  below : Below w.heap.size w wx
  le : H ≤ wx.heap.size
theorem StInv.step {w wx w2 : World} {b base lim H q c : Nat} {A : Option Addr} {M : List ValV} {L L' : List UInt8} {e e' : Int} {v : Value} (h : StInv w b base lim H q A c M L e v wx) (hP : WPost wx b base lim v L' e' w2) (hb : w.heap.size ≤ b) : ∃ v', StInv w b base lim H q A c M L' e' v' w2 := by
  have hB := WPost.below (B := w.heap.size) h.wr hP hb
  obtain ⟨v', h1, h2, h3⟩ := hP
  refine ⟨v', h1, fun k hk => ?_, h.rd.keep h2 (fun p hp => ?_), h.at_, h.below.trans hB, Nat.le_trans h.le h2.size⟩
  · rcases h3 with h3 | h3
    · rw [h3] at hk; exact h.own k hk
    · exact Nat.le_trans h.le (h3 k hk).1
  · have h4 := h.at_ p hp
    simp
    refine ⟨by omega, fun h5 => ?_⟩
    have := h.own _ h5
    omega
theorem StInv.ext {w wx w2 : World} {b base lim H q c : Nat} {A : Option Addr} {M : List ValV} {L : List UInt8} {e : Int} {v : Value} (h : StInv w b base lim H q A c M L e v wx) (hB : Below wx.heap.size wx w2) : StInv w b base lim H q A c M L e v w2 :=
  ⟨h.wr.ext hB, h.own, h.rd.ext hB, h.at_, h.below.trans (hB.mono h.below.size), Nat.le_trans h.le hB.size⟩
set_option maxHeartbeats 1000000 in
theorem walk_PackSticks (x : Int) (A0 : Option Addr) (n c0 : Nat) (l : List ValV) (w : World) (hx : -9223372036854775808 ≤ x ∧ x < 9223372036854775808) (hr : RdV w A0 n c0 l) :
    Calls Try.prog 6 #[.int .i64 x, .slice A0 n c0] w fun e w' => e = .returned (.bool true) ∧ Below w.heap.size w w' := by
  have HR := Lib.hid hr
  clear hr
  go_enter Try.func6, Try.ntmps6
  go_wp2_with fail
  refine (l2_fixed w).mono ?_
  rintro e w1 ⟨rfl, hB1⟩
  have HB1 := Lib.hid hB1
  have HR1 := Lib.hid (HR.out.ext hB1)
  clear hB1
  go_wp2_with fail
  refine (pk_NewWriter x w1).mono ?_
  rintro e w2 ⟨rfl, hW, hB⟩
  obtain ⟨b, hb⟩ : ∃ b, b = w1.heap.size := ⟨_, rfl⟩
  obtain ⟨lim, hlim⟩ : ∃ lim, lim = clampW x := ⟨_, rfl⟩
  rw [← hb, ← hlim] at hW
  rw [← hb]
  have HW := Lib.hid hW
  have hbw : w.heap.size ≤ b := by rw [hb]; exact HB1.out.size
  have HB2 := Lib.hid (HB1.out.trans (hB.mono HB1.out.size))
  have HR2 := Lib.hid (HR1.out.ext hB)
  have hlm : lim ≤ 1048576 := hW.most
  have hmm : max 0 (min x 1048576) = (lim : Int) := by rw [hlim, clampW]; omega
  clear hW hB hb hlim HR1 HB1
  have hcase : (x < 0 ∧ (lim : Int) = 0) ∨ (0 ≤ x ∧ 1048576 < x ∧ (lim : Int) = 1048576) ∨ (0 ≤ x ∧ ¬ 1048576 < x ∧ x = (lim : Int)) := by omega
  clear hmm
  go_upto_region 5 with fail
  go_cut [0] (fun v wx => v = .int .i64 (lim : Int) ∧ wx = w2)
  case first =>
    rcases hcase with ⟨h1, h2⟩ | ⟨h1, h2, h3⟩ | ⟨h1, h2, h3⟩
    · have h4 : ¬ 1048576 < x := by omega
      go_wp2_with fail
      all_goals (go_meet; exact ⟨by first | (simp; done) | (simp; omega), rfl⟩)
    · go_wp2_with fail
      all_goals (go_meet; exact ⟨by first | (simp; done) | (simp; omega), rfl⟩)
    · go_wp2_with fail
      all_goals (go_meet; exact ⟨by first | (simp; done) | (simp; omega), rfl⟩)
  case rest =>
    obtain ⟨rfl, rfl⟩ := hcut
    clear hcase
    go_wp2_with fail
    refine (l2_small A0 n c0 l _ HR2.out).mono ?_
    rintro e w3 ⟨vl, rfl, hO, hB⟩
    obtain ⟨M, hM⟩ : ∃ M, M = sml l 0 := ⟨_, rfl⟩
    rw [← hM] at hO
    have hrt : ∀ y ∈ M, Rt y := by rw [hM]; exact sml_rt l 0 HR.out.ok
    have hbk : bulk M ≤ 1048576 := by have := sml_bulk l 0 (by omega); rw [← hM] at this; omega
    obtain ⟨q, hq⟩ : ∃ q, q = M.length := ⟨_, rfl⟩
    rw [← hq] at hO
    have hq5 : 10 * q ≤ 1048576 := by have := bulk_len M; rw [hq]; omega
    obtain ⟨Al, cl, rfl, hRl⟩ := hO.rd (by omega) (fun y hy => (hrt y hy).ok)
    have hblk : ∀ p, Al = some p → b < p.block ∧ p.block < w3.heap.size := by
      rintro p rfl
      rcases hO.2 with ⟨h1, _⟩ | ⟨g, cap, cur, h1, hb, hh, _⟩
      · cases h1
      · injection h1 with h2 h3 h4
        injection h2 with h2
        subst h2
        have := HW.out.lt
        have := HW.out.le
        exact ⟨by simp only; omega, lt_of_block hh⟩
    have HI0 := Lib.hid (show StInv w b (b + 1) lim w3.heap.size q Al cl M [] 0 (.slice none 0 0) w3 from ⟨HW.out.ext hB, fun k hk => by simp [Value.ownBlock] at hk, hRl, hblk, HB2.out.trans (hB.mono HB2.out.size), Nat.le_refl _⟩)
    have HRT := Lib.hid hrt
    have HBK := Lib.hid hbk
    have HQ := Lib.hid hq
    clear hO hB hM hrt hbk hq hRl hblk
    go_wp2_with fail
    go_loopw [4, 7, 8, 9, 10, 11, 12, 13] (fun _ sm fl ix _ _ _ _ wx => ∃ (k : Nat) (L : List UInt8) (e : Int) (v : Value), k ≤ q ∧ ix = .int .i64 k ∧ sm = .int .i64 L.length ∧ ((e = 0 ∧ fl = .bool false) ∨ (e = 23 ∧ fl = .bool true)) ∧ StInv w b (b + 1) lim w3.heap.size q Al cl M L e v wx) (fun _ _ _ x _ _ _ _ _ => q - (intOf x).toNat)
    case atStart => exact ⟨0, [], 0, _, by omega, rfl, rfl, .inl ⟨rfl, rfl⟩, HI0.out⟩
    case round =>
      obtain ⟨k, L, e, v, hk, rfl, rfl, hef, hI⟩ := hrel
      have HI := Lib.hid hI
      clear hI
      by_cases hkq : k < q
      · obtain ⟨bb, oo, rfl, hc0⟩ := HI.out.rd.at_ (by omega)
        have hcap := HI.out.rd.cap
        have hR1 := HI.out.rd.one k hkq
        have hci : ¬ cl = k := by omega
        have hc := hc0 k hkq
        have hyr := HRT.out (M.getD k default) (by
          rw [List.getD_eq_getElem?_getD, List.getElem?_eq_getElem (by rw [← HQ.out]; exact hkq)]
          exact List.getElem_mem _)
        have hys := bulk_at M k (by rw [← HQ.out]; exact hkq)
        obtain ⟨y, hy⟩ : ∃ y, y = M.getD k default := ⟨_, rfl⟩
        rw [← hy] at hc hR1 hyr hys
        have hys2 : 10 + y.s.size ≤ 1048576 := by have := HBK.out; omega
        have hw1 := hyr.wrn_one hys2
        have hfl := hyr.len
        obtain ⟨F, hF⟩ : ∃ F, F = form y := ⟨_, rfl⟩
        rw [← hF] at hw1 hfl
        have HY := Lib.hid hyr
        have HF := Lib.hid hF
        have HR1 := Lib.hid hR1
        have HC := Lib.hid hc
        have HW1 := Lib.hid hw1
        clear hy hyr hF hR1 hc hc0 hw1 hys
        obtain ⟨fn, hfn⟩ : ∃ fn, fn = F.length := ⟨_, rfl⟩
        rw [← hfn] at hfl
        have HFN := Lib.hid hfn
        have hLl := HI.out.wr.small
        rcases hef with ⟨rfl, rfl⟩ | ⟨rfl, rfl⟩
        · by_cases hbig : (lim : Int) < (L.length : Int) + (fn : Int)
          · have hdf : decide ((lim : Int) < (L.length : Int) + (fn : Int)) = true := decide_eq_true hbig
            have HST := Lib.hid (show stL lim L 0 y = L ∧ stE lim L 0 y = 23 from HY.out.long (by rw [← HF.out, ← hfn]; omega))
            clear hfn
            go_wp2_with fail
            refine (l2_written _ 1 _ [y] _ HR1.out).mono ?_
            rintro e2 w4 ⟨hP, -, hB⟩
            rw [HW1.out] at hP
            obtain ⟨u, rfl, hO⟩ := hP rfl
            have hO : Own w4 _ u F.length F := hO
            obtain ⟨A4, c4, rfl⟩ := hO.slice
            have d0 := cell_ext hB HC.out.1
            have d1 := cell_ext hB HC.out.2.1
            have d2 := cell_ext hB HC.out.2.2.1
            have d3 := cell_ext hB HC.out.2.2.2
            have HI4 := Lib.hid (HI.out.ext hB)
            rw [← HFN.out]
            clear hP hB hO
            go_wp2_with fail
            refine (l2_lay b _ _ L v _ y HY.out.ok _ HI4.out.wr).mono ?_
            rintro e3 w5 ⟨rfl, hP⟩
            rw [HST.out.1, HST.out.2] at hP
            obtain ⟨v5, hI5⟩ := HI4.out.step hP hbw
            have HI5 := Lib.hid hI5
            clear hP hI5 d0 d1 d2 d3
            go_wp2_with fail
            refine (pk_WOut_bad b _ _ L v5 23 _ (by decide) HI5.out.wr).mono ?_
            rintro e4 w6 ⟨rfl, hO6⟩
            have HI6 := Lib.hid (HI5.out.ext ⟨hO6.os, hO6.tape, hO6.output, hO6.size, fun k hk => hO6.blk k hk (by simp)⟩)
            clear hO6
            go_wp2_with fail
            refine (pk_WLen b _ _ L v5 23 _ HI6.out.wr).mono ?_
            rintro e5 w7 ⟨rfl, rfl⟩
            go_wp2_with fail
            refine (pk_WErr b _ _ L v5 23 _ HI6.out.wr).mono ?_
            rintro e6 w8 ⟨rfl, rfl⟩
            go_wp2
            go_roundw
            case rel => exact ⟨k + 1, L, 23, v5, by omega, by go_num, rfl, .inr ⟨rfl, rfl⟩, HI6.out⟩
            case measure => simp [intOf]; omega

          · have hdf : decide ((lim : Int) < (L.length : Int) + (fn : Int)) = false := decide_eq_false hbig
            obtain ⟨L', hL'⟩ : ∃ L', L' = L ++ F := ⟨_, rfl⟩
            have HST := Lib.hid (show stL lim L 0 y = L' ∧ stE lim L 0 y = 0 by rw [hL', HF.out]; exact HY.out.fits (by rw [← HF.out, ← hfn]; omega))
            have hLL : (L'.length : Int) = (L.length : Int) + (fn : Int) := by rw [hL', List.length_append, ← hfn]; omega
            clear hfn hL'
            go_wp2_with fail
            refine (l2_written _ 1 _ [y] _ HR1.out).mono ?_
            rintro e2 w4 ⟨hP, -, hB⟩
            rw [HW1.out] at hP
            obtain ⟨u, rfl, hO⟩ := hP rfl
            have hO : Own w4 _ u F.length F := hO
            obtain ⟨A4, c4, rfl⟩ := hO.slice
            have d0 := cell_ext hB HC.out.1
            have d1 := cell_ext hB HC.out.2.1
            have d2 := cell_ext hB HC.out.2.2.1
            have d3 := cell_ext hB HC.out.2.2.2
            have HI4 := Lib.hid (HI.out.ext hB)
            rw [← HFN.out]
            clear hP hB hO
            go_wp2_with fail
            refine (l2_lay b _ _ L v _ y HY.out.ok _ HI4.out.wr).mono ?_
            rintro e3 w5 ⟨rfl, hP⟩
            rw [HST.out.1, HST.out.2] at hP
            obtain ⟨v5, hI5⟩ := HI4.out.step hP hbw
            have HI5 := Lib.hid hI5
            clear hP hI5 d0 d1 d2 d3
            go_wp2_with fail

            refine (pk_WOut_ok b _ _ L' v5 _ HI5.out.wr).mono ?_
            rintro e4 w6 ⟨u6, rfl, hO6, hB6⟩
            obtain ⟨A6, c6, rfl⟩ := hO6.slice
            have HI6 := Lib.hid (HI5.out.ext hB6)
            clear hO6 hB6
            go_wp2_with fail
            refine (pk_WLen b _ _ L' v5 0 _ HI6.out.wr).mono ?_
            rintro e5 w7 ⟨rfl, rfl⟩
            go_wp2_with fail
            refine (pk_WErr b _ _ L' v5 0 _ HI6.out.wr).mono ?_
            rintro e6 w8 ⟨rfl, rfl⟩
            go_wp2
            go_roundw
            case rel => exact ⟨k + 1, L', 0, v5, by omega, by go_num, iv hLL.symm, .inl ⟨rfl, rfl⟩, HI6.out⟩
            case measure => simp [intOf]; omega
        · have HST := Lib.hid (show stL lim L 23 y = L ∧ stE lim L 23 y = 23 from HY.out.stuck (by decide))
          clear hfn
          go_wp2_with fail
          refine (l2_written _ 1 _ [y] _ HR1.out).mono ?_
          rintro e2 w4 ⟨hP, -, hB⟩
          rw [HW1.out] at hP
          obtain ⟨u, rfl, hO⟩ := hP rfl
          have hO : Own w4 _ u F.length F := hO
          obtain ⟨A4, c4, rfl⟩ := hO.slice
          have d0 := cell_ext hB HC.out.1
          have d1 := cell_ext hB HC.out.2.1
          have d2 := cell_ext hB HC.out.2.2.1
          have d3 := cell_ext hB HC.out.2.2.2
          have HI4 := Lib.hid (HI.out.ext hB)
          rw [← HFN.out]
          clear hP hB hO
          go_wp2_with fail
          refine (l2_lay b _ _ L v _ y HY.out.ok _ HI4.out.wr).mono ?_
          rintro e3 w5 ⟨rfl, hP⟩
          rw [HST.out.1, HST.out.2] at hP
          obtain ⟨v5, hI5⟩ := HI4.out.step hP hbw
          have HI5 := Lib.hid hI5
          clear hP hI5 d0 d1 d2 d3
          go_wp2_with fail
          refine (pk_WOut_bad b _ _ L v5 23 _ (by decide) HI5.out.wr).mono ?_
          rintro e4 w6 ⟨rfl, hO6⟩
          have HI6 := Lib.hid (HI5.out.ext ⟨hO6.os, hO6.tape, hO6.output, hO6.size, fun k hk => hO6.blk k hk (by simp)⟩)
          clear hO6
          go_wp2_with fail
          refine (pk_WLen b _ _ L v5 23 _ HI6.out.wr).mono ?_
          rintro e5 w7 ⟨rfl, rfl⟩
          go_wp2_with fail
          refine (pk_WErr b _ _ L v5 23 _ HI6.out.wr).mono ?_
          rintro e6 w8 ⟨rfl, rfl⟩
          go_wp2
          go_roundw
          case rel => exact ⟨k + 1, L, 23, v5, by omega, by go_num, rfl, .inr ⟨rfl, rfl⟩, HI6.out⟩
          case measure => simp [intOf]; omega
      · obtain rfl : q = k := by omega
        go_wp2
        go_ret
        exact ⟨by simp, HI.out.below⟩
end Go.Proofs.Ytclafljkeaekfaa
