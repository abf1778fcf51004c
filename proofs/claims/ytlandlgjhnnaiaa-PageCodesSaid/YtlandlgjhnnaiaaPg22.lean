/- The laws' sameNode. -/
import Derived.Test.YtlandlgjhnnaiaaPg20
import Derived.BigQuiet
set_option linter.unusedVariables false
set_option linter.unusedSimpArgs false
set_option maxRecDepth 100000
namespace Go.Proofs.Ytlandlgjhnnaiaa
open Go.RowKit
theorem take_snocE {α : Type} (l : List α) (d : α) (k : Nat) (h : k < l.length) : l.take (k + 1) = l.take k ++ [l.getD k d] := take_snoc l k d h
theorem toList_inj2 {a b : ByteArray} (h : a.toList = b.toList) : a = b := by
  rw [ByteArray.toList_eq, ByteArray.toList_eq] at h
  cases a; cases b; congr 1; exact Array.toList_inj.1 h
set_option maxHeartbeats 4000000 in
theorem l9_sameNode (a b : Nd) (vE vC vK vD uE uC uK uD : Value) (w : World) (hA : NdR w a vE vC vK vD) (hB : NdR w b uE uC uK uD) :
    Calls Try.prog 21 #[.agg (ndC a vE vC vK vD), .agg (ndC b uE uC uK uD)] w fun e w' => e = .returned (.bool (decide (a = b))) ∧ Below w.heap.size w w' := by
  obtain ⟨⟨A1, c1, rfl, h1⟩, ⟨A2, c2, rfl, h2⟩, ⟨A3, c3, rfl, h3⟩, ⟨A4, c4, rfl, h4⟩⟩ := hA
  obtain ⟨⟨B1, d1, rfl, g1⟩, ⟨B2, d2, rfl, g2⟩, ⟨B3, d3, rfl, g3⟩, ⟨B4, d4, rfl, g4⟩⟩ := hB
  obtain ⟨t, ht⟩ : ∃ t, t = decide (a = b) := ⟨_, rfl⟩
  rw [← ht]
  have HT := Lib.hid ht
  clear ht
  have HEQ := Lib.hid (Nd_eq a b)
  obtain ⟨ka, ea, ca, ya, da, na, ta⟩ := a
  obtain ⟨kb, eb, cb, yb, db, nb, tb⟩ := b
  unfold ndC
  dsimp only at h1 h2 h3 h4 g1 g2 g3 g4 HEQ ⊢
  have HA1 := Lib.hid h1
  have HA2 := Lib.hid h2
  have HA3 := Lib.hid h3
  have HA4 := Lib.hid h4
  have HB1 := Lib.hid g1
  have HB2 := Lib.hid g2
  have HB3 := Lib.hid g3
  have HB4 := Lib.hid g4
  have m1 := h1.max
  have m2 := h2.max
  have m3 := h3.max
  have m4 := h4.max
  clear h1 h2 h3 h4 g1 g2 g3 g4
  by_cases q1 : ka = kb
  rotate_left
  · have HN := Lib.hid (show t = false by rw [HT.out]; refine decide_eq_false fun h => ?_; have h9 := HEQ.out.2 h; exact q1 h9.1)
    have f1 : (ka != kb) = true := by simpa using q1
    go_enter Try.func21, Try.ntmps21
    go_wp2
    go_ret
    exact ⟨by rw [HN.out]; rfl, ((Below.refl _ _).alloc (Nat.le_refl _) _).alloc (by rw [World.size_alloc]; omega) _⟩
  subst q1
  by_cases q2 : na = nb
  rotate_left
  · have HN := Lib.hid (show t = false by rw [HT.out]; refine decide_eq_false fun h => ?_; have h9 := HEQ.out.2 h; exact q2 h9.2.1)
    have f1 : (na != nb) = true := by simpa using q2
    go_enter Try.func21, Try.ntmps21
    go_wp2
    go_ret
    exact ⟨by rw [HN.out]; rfl, ((Below.refl _ _).alloc (Nat.le_refl _) _).alloc (by rw [World.size_alloc]; omega) _⟩
  subst q2
  by_cases q3 : ta = tb
  rotate_left
  · have HN := Lib.hid (show t = false by rw [HT.out]; refine decide_eq_false fun h => ?_; have h9 := HEQ.out.2 h; exact q3 h9.2.2.1)
    have f1 : (ta.toList == tb.toList) = false := beq_eq_false_iff_ne.2 fun h => q3 (toList_inj2 h)
    go_enter Try.func21, Try.ntmps21
    go_wp2
    go_ret
    exact ⟨by rw [HN.out]; rfl, ((Below.refl _ _).alloc (Nat.le_refl _) _).alloc (by rw [World.size_alloc]; omega) _⟩
  subst q3
  by_cases q4 : ea.length = eb.length
  rotate_left
  · have HN := Lib.hid (show t = false by rw [HT.out]; refine decide_eq_false fun h => ?_; have h9 := HEQ.out.2 h; exact q4 (by rw [h9.2.2.2.1]))
    have f1 : ((ea.length : Int) != (eb.length : Int)) = true := by simp; omega
    go_enter Try.func21, Try.ntmps21
    go_wp2
    go_ret
    exact ⟨by rw [HN.out]; rfl, ((Below.refl _ _).alloc (Nat.le_refl _) _).alloc (by rw [World.size_alloc]; omega) _⟩
  have HL1 := Lib.hid q4
  rw [← q4] at HB1 ⊢
  clear q4
  by_cases q5 : ca.length = cb.length
  rotate_left
  · have HN := Lib.hid (show t = false by rw [HT.out]; refine decide_eq_false fun h => ?_; have h9 := HEQ.out.2 h; exact q5 (by rw [h9.2.2.2.2.1]))
    have f1 : ((ca.length : Int) != (cb.length : Int)) = true := by simp; omega
    go_enter Try.func21, Try.ntmps21
    go_wp2
    go_ret
    exact ⟨by rw [HN.out]; rfl, ((Below.refl _ _).alloc (Nat.le_refl _) _).alloc (by rw [World.size_alloc]; omega) _⟩
  have HL2 := Lib.hid q5
  rw [← q5] at HB2 ⊢
  clear q5
  by_cases q6 : ya.length = yb.length
  rotate_left
  · have HN := Lib.hid (show t = false by rw [HT.out]; refine decide_eq_false fun h => ?_; have h9 := HEQ.out.2 h; exact q6 (by rw [h9.2.2.2.2.2.1]))
    have f1 : ((ya.length : Int) != (yb.length : Int)) = true := by simp; omega
    go_enter Try.func21, Try.ntmps21
    go_wp2
    go_ret
    exact ⟨by rw [HN.out]; rfl, ((Below.refl _ _).alloc (Nat.le_refl _) _).alloc (by rw [World.size_alloc]; omega) _⟩
  have HL3 := Lib.hid q6
  rw [← q6] at HB3 ⊢
  clear q6
  by_cases q7 : da.length = db.length
  rotate_left
  · have HN := Lib.hid (show t = false by rw [HT.out]; refine decide_eq_false fun h => ?_; have h9 := HEQ.out.2 h; exact q7 (by rw [h9.2.2.2.2.2.2]))
    have f1 : ((da.length : Int) != (db.length : Int)) = true := by simp; omega
    go_enter Try.func21, Try.ntmps21
    go_wp2
    go_ret
    exact ⟨by rw [HN.out]; rfl, ((Below.refl _ _).alloc (Nat.le_refl _) _).alloc (by rw [World.size_alloc]; omega) _⟩
  have HL4 := Lib.hid q7
  rw [← q7] at HB4 ⊢
  clear q7
  obtain ⟨W, hW⟩ : ∃ W, W = (w.alloc (.cells #[.int .i64 ka, .slice A1 ea.length c1, .slice A2 ca.length c2, .slice A3 ya.length c3, .slice A4 da.length c4, .int .i64 na, .string ta] 26)).alloc (.cells #[.int .i64 ka, .slice B1 ea.length d1, .slice B2 ca.length d2, .slice B3 ya.length d3, .slice B4 da.length d4, .int .i64 na, .string ta] 26) := ⟨_, rfl⟩
  obtain ⟨p, hp⟩ : ∃ p, p = w.heap.size := ⟨_, rfl⟩
  obtain ⟨q, hq⟩ : ∃ q, q = w.heap.size + 1 := ⟨_, rfl⟩
  have HB0 := Lib.hid (show Below w.heap.size w W by rw [hW]; exact ((Below.refl _ _).alloc (Nat.le_refl _) _).alloc (by rw [World.size_alloc]; omega) _)
  have hP : W.heap[p]? = some (.cells #[.int .i64 ka, .slice A1 ea.length c1, .slice A2 ca.length c2, .slice A3 ya.length c3, .slice A4 da.length c4, .int .i64 na, .string ta] 26 (0, 0)) := by rw [hW, hp]; exact heap_alloc2_old _ _ _
  have hQ : W.heap[q]? = some (.cells #[.int .i64 ka, .slice B1 ea.length d1, .slice B2 ca.length d2, .slice B3 ya.length d3, .slice B4 da.length d4, .int .i64 na, .string ta] 26 (0, 0)) := by rw [hW, hq]; exact heap_alloc2_new _ _ _
  have CP1 := Lib.hid (cell_of_row _ p 1 _ _ _ hP)
  have CQ1 := Lib.hid (cell_of_row _ q 1 _ _ _ hQ)
  have CP2 := Lib.hid (cell_of_row _ p 2 _ _ _ hP)
  have CQ2 := Lib.hid (cell_of_row _ q 2 _ _ _ hQ)
  have CP3 := Lib.hid (cell_of_row _ p 3 _ _ _ hP)
  have CQ3 := Lib.hid (cell_of_row _ q 3 _ _ _ hQ)
  have CP4 := Lib.hid (cell_of_row _ p 4 _ _ _ hP)
  have CQ4 := Lib.hid (cell_of_row _ q 4 _ _ _ hQ)
  have HPS := Lib.hid (lt_of_block hP)
  have HQS := Lib.hid (lt_of_block hQ)
  go_enter Try.func21, Try.ntmps21
  go_wp2_with fail
  rw [← hW, ← hq, ← hp]
  clear hW hp hq hP hQ
  go_wp2_with fail
  go_loopw [5] (fun x wr => ∃ k : Nat, k ≤ ea.length ∧ x = .int .i64 k ∧ ea.take k = eb.take k ∧ Below W.heap.size W wr) (fun x _ => ea.length - (intOf x).toNat)
  case atStart => exact ⟨0, by omega, rfl, by simp, Below.refl _ _⟩
  case round =>
    obtain ⟨k, hk, rfl, hE, hBw⟩ := hrel
    have HE := Lib.hid hE
    have HBw := Lib.hid hBw
    have hzz := hBw.size
    clear hE hBw
    have HBx := Lib.hid (HB0.out.trans (HBw.out.mono HB0.out.size))
    have cp1 : wr.cell? ⟨p, 1, none⟩ = some (.slice A1 ea.length c1) := cell_ext HBw.out CP1.out
    have cq1 : wr.cell? ⟨q, 1, none⟩ = some (.slice B1 ea.length d1) := cell_ext HBw.out CQ1.out
    by_cases hkn : k < ea.length
    · have hkm : k < eb.length := by rw [← HL1.out]; exact hkn
      have hk0 : (0 : Int) ≤ (k : Int) ∧ (k : Int) < (ea.length : Int) := by omega
      obtain ⟨b1, o1, rfl, hc1⟩ := (HA1.out.ext HBx.out).at_ (by omega)
      obtain ⟨b2, o2, rfl, hc2⟩ := (HB1.out.ext HBx.out).at_ (by omega)
      obtain ⟨k1, k2⟩ := hc1 k hkn
      obtain ⟨k3, k4⟩ := hc2 k hkn
      have HS1 := Lib.hid (take_snocE ea default k hkn)
      have HS2 := Lib.hid (take_snocE eb default k hkm)
      have HNX := Lib.hid (fun (h : ea.getD k default ≠ eb.getD k default) (e : ea = eb) => h (by rw [e]))
      obtain ⟨x1, hx1⟩ : ∃ x, x = ea.getD k default := ⟨_, rfl⟩
      obtain ⟨x2, hx2⟩ : ∃ x, x = eb.getD k default := ⟨_, rfl⟩
      rw [← hx1] at k1 k2 HS1 HNX
      rw [← hx2] at k3 k4 HS2 HNX
      have hbs1 : b1 < wr.heap.size := World.block_lt_of_cell? wr _ k1
      have hbs2 : b2 < wr.heap.size := World.block_lt_of_cell? wr _ k3
      obtain ⟨key1, val1⟩ := x1
      obtain ⟨key2, val2⟩ := x2
      dsimp only at k1 k2 k3 k4
      clear hc1 hc2 hx1 hx2
      by_cases he1 : key1 = key2
      · by_cases he2 : val1 = val2
        · subst he1 he2
          have HST := Lib.hid (show ea.take (k + 1) = eb.take (k + 1) by rw [HS1.out, HS2.out, HE.out])
          clear HS1 HS2 HNX
          go_wp2_with fail
          go_quiet ((fail))
          go_wp2
          go_roundw
          case rel => exact ⟨k + 1, by omega, by go_num, HST.out, below_drewN HBw.out _⟩
          case measure => simp [intOf]; omega
        · subst he1
          have HN := Lib.hid (show t = false by rw [HT.out]; refine decide_eq_false fun h => ?_; have h9 := HEQ.out.2 h; exact HNX.out (by simp [he2]) h9.2.2.2.1)
          have f1 : (val1.toList == val2.toList) = false := beq_eq_false_iff_ne.2 fun h => he2 (toList_inj2 h)
          clear HS1 HS2 HNX he2
          go_wp2_with fail
          go_quiet ((fail))
          go_wp2
          go_ret
          exact ⟨by rw [HN.out]; rfl, below_drewN HBx.out _⟩
      · have HN := Lib.hid (show t = false by rw [HT.out]; refine decide_eq_false fun h => ?_; have h9 := HEQ.out.2 h; exact HNX.out (by simp [he1]) h9.2.2.2.1)
        have f1 : (key1.toList == key2.toList) = false := beq_eq_false_iff_ne.2 fun h => he1 (toList_inj2 h)
        clear HS1 HS2 HNX he1
        go_wp2_with fail
        go_quiet ((fail))
        go_wp2
        go_ret
        exact ⟨by rw [HN.out]; rfl, below_drewN HBx.out _⟩
    · obtain rfl : k = ea.length := by omega
      have HFULL := Lib.hid (show ea = eb by
        have h9 := HE.out
        rw [List.take_of_length_le (Nat.le_refl _), List.take_of_length_le (by rw [← HL1.out]; exact Nat.le_refl _)] at h9
        exact h9)
      have HFE := HFULL
      have HBW1 := HBw
      clear HFULL HE
      go_wp2_with fail
      clear cp1 cq1
      go_loopw [6] (fun x wr => ∃ k : Nat, k ≤ ca.length ∧ x = .int .i64 k ∧ ca.take k = cb.take k ∧ Below W.heap.size W wr) (fun x _ => ca.length - (intOf x).toNat)
      case atStart => exact ⟨0, by omega, rfl, by simp, HBW1.out⟩
      case round =>
        obtain ⟨k, hk, rfl, hE, hBw⟩ := hrel
        have HE := Lib.hid hE
        have HBw := Lib.hid hBw
        have hzz := hBw.size
        clear hE hBw
        have HBx := Lib.hid (HB0.out.trans (HBw.out.mono HB0.out.size))
        have cp2 : wr.cell? ⟨p, 2, none⟩ = some (.slice A2 ca.length c2) := cell_ext HBw.out CP2.out
        have cq2 : wr.cell? ⟨q, 2, none⟩ = some (.slice B2 ca.length d2) := cell_ext HBw.out CQ2.out
        by_cases hkn : k < ca.length
        · have hkm : k < cb.length := by rw [← HL2.out]; exact hkn
          have hk0 : (0 : Int) ≤ (k : Int) ∧ (k : Int) < (ca.length : Int) := by omega
          obtain ⟨b1, o1, rfl, -, hc1⟩ := (HA2.out.ext HBx.out).at_ (by omega)
          obtain ⟨b2, o2, rfl, -, hc2⟩ := (HB2.out.ext HBx.out).at_ (by omega)
          have k1 := hc1 k hkn
          have k2 := hc2 k hkn
          have HS1 := Lib.hid (take_snocE ca 0 k hkn)
          have HS2 := Lib.hid (take_snocE cb 0 k hkm)
          have HNX := Lib.hid (fun (h : ca.getD k 0 ≠ cb.getD k 0) (e : ca = cb) => h (by rw [e]))
          obtain ⟨x1, hx1⟩ : ∃ x, x = ca.getD k 0 := ⟨_, rfl⟩
          obtain ⟨x2, hx2⟩ : ∃ x, x = cb.getD k 0 := ⟨_, rfl⟩
          rw [← hx1] at k1 HS1 HNX
          rw [← hx2] at k2 HS2 HNX
          have hbs1 : b1 < wr.heap.size := World.block_lt_of_cell? wr _ k1
          have hbs2 : b2 < wr.heap.size := World.block_lt_of_cell? wr _ k2
          clear hc1 hc2 hx1 hx2
          by_cases he1 : x1 = x2
          · subst he1
            have HST := Lib.hid (show ca.take (k + 1) = cb.take (k + 1) by rw [HS1.out, HS2.out, HE.out])
            clear HS1 HS2 HNX
            go_wp2_with fail
            go_quiet ((fail))
            go_wp2
            go_roundw
            case rel => exact ⟨k + 1, by omega, by go_num, HST.out, below_drewN HBw.out _⟩
            case measure => simp [intOf]; omega
          · have HN := Lib.hid (show t = false by rw [HT.out]; refine decide_eq_false fun h => ?_; have h9 := HEQ.out.2 h; exact HNX.out he1 h9.2.2.2.2.1)
            have f1 : (x1 != x2) = true := by simpa using he1
            clear HS1 HS2 HNX he1
            go_wp2_with fail
            go_quiet ((fail))
            go_wp2
            go_ret
            exact ⟨by rw [HN.out]; rfl, below_drewN HBx.out _⟩
        · obtain rfl : k = ca.length := by omega
          have HFULL := Lib.hid (show ca = cb by
            have h9 := HE.out
            rw [List.take_of_length_le (Nat.le_refl _), List.take_of_length_le (by rw [← HL2.out]; exact Nat.le_refl _)] at h9
            exact h9)
          have HFC := HFULL
          have HBW2 := HBw
          clear HFULL HE
          go_wp2_with fail
          clear cp2 cq2
          go_loopw [7] (fun x wr => ∃ k : Nat, k ≤ ya.length ∧ x = .int .i64 k ∧ ya.take k = yb.take k ∧ Below W.heap.size W wr) (fun x _ => ya.length - (intOf x).toNat)
          case atStart => exact ⟨0, by omega, rfl, by simp, HBW2.out⟩
          case round =>
            obtain ⟨k, hk, rfl, hE, hBw⟩ := hrel
            have HE := Lib.hid hE
            have HBw := Lib.hid hBw
            have hzz := hBw.size
            clear hE hBw
            have HBx := Lib.hid (HB0.out.trans (HBw.out.mono HB0.out.size))
            have cp3 : wr.cell? ⟨p, 3, none⟩ = some (.slice A3 ya.length c3) := cell_ext HBw.out CP3.out
            have cq3 : wr.cell? ⟨q, 3, none⟩ = some (.slice B3 ya.length d3) := cell_ext HBw.out CQ3.out
            by_cases hkn : k < ya.length
            · have hkm : k < yb.length := by rw [← HL3.out]; exact hkn
              have hk0 : (0 : Int) ≤ (k : Int) ∧ (k : Int) < (ya.length : Int) := by omega
              obtain ⟨b1, o1, rfl, hc1⟩ := (HA3.out.ext HBx.out).at_ (by omega)
              obtain ⟨b2, o2, rfl, hc2⟩ := (HB3.out.ext HBx.out).at_ (by omega)
              have k1 := hc1 k hkn
              have k2 := hc2 k hkn
              have HS1 := Lib.hid (take_snocE ya default k hkn)
              have HS2 := Lib.hid (take_snocE yb default k hkm)
              have HNX := Lib.hid (fun (h : ya.getD k default ≠ yb.getD k default) (e : ya = yb) => h (by rw [e]))
              obtain ⟨x1, hx1⟩ : ∃ x, x = ya.getD k default := ⟨_, rfl⟩
              obtain ⟨x2, hx2⟩ : ∃ x, x = yb.getD k default := ⟨_, rfl⟩
              rw [← hx1] at k1 HS1 HNX
              rw [← hx2] at k2 HS2 HNX
              have hbs1 : b1 < wr.heap.size := World.block_lt_of_cell? wr _ k1
              have hbs2 : b2 < wr.heap.size := World.block_lt_of_cell? wr _ k2
              clear hc1 hc2 hx1 hx2
              by_cases he1 : x1 = x2
              · subst he1
                have HST := Lib.hid (show ya.take (k + 1) = yb.take (k + 1) by rw [HS1.out, HS2.out, HE.out])
                clear HS1 HS2 HNX
                go_wp2_with fail
                go_quiet ((fail))
                go_wp2
                go_roundw
                case rel => exact ⟨k + 1, by omega, by go_num, HST.out, below_drewN HBw.out _⟩
                case measure => simp [intOf]; omega
              · have HN := Lib.hid (show t = false by rw [HT.out]; refine decide_eq_false fun h => ?_; have h9 := HEQ.out.2 h; exact HNX.out he1 h9.2.2.2.2.2.1)
                have f1 : (x1.toList == x2.toList) = false := beq_eq_false_iff_ne.2 fun h => he1 (toList_inj2 h)
                clear HS1 HS2 HNX he1
                go_wp2_with fail
                go_quiet ((fail))
                go_wp2
                go_ret
                exact ⟨by rw [HN.out]; rfl, below_drewN HBx.out _⟩
            · obtain rfl : k = ya.length := by omega
              have HFULL := Lib.hid (show ya = yb by
                have h9 := HE.out
                rw [List.take_of_length_le (Nat.le_refl _), List.take_of_length_le (by rw [← HL3.out]; exact Nat.le_refl _)] at h9
                exact h9)
              have HFK := HFULL
              have HBW3 := HBw
              clear HFULL HE
              go_wp2_with fail
              clear cp3 cq3
              go_loopw [8] (fun x wr => ∃ k : Nat, k ≤ da.length ∧ x = .int .i64 k ∧ da.take k = db.take k ∧ Below W.heap.size W wr) (fun x _ => da.length - (intOf x).toNat)
              case atStart => exact ⟨0, by omega, rfl, by simp, HBW3.out⟩
              case round =>
                obtain ⟨k, hk, rfl, hE, hBw⟩ := hrel
                have HE := Lib.hid hE
                have HBw := Lib.hid hBw
                have hzz := hBw.size
                clear hE hBw
                have HBx := Lib.hid (HB0.out.trans (HBw.out.mono HB0.out.size))
                have cp4 : wr.cell? ⟨p, 4, none⟩ = some (.slice A4 da.length c4) := cell_ext HBw.out CP4.out
                have cq4 : wr.cell? ⟨q, 4, none⟩ = some (.slice B4 da.length d4) := cell_ext HBw.out CQ4.out
                by_cases hkn : k < da.length
                · have hkm : k < db.length := by rw [← HL4.out]; exact hkn
                  have hk0 : (0 : Int) ≤ (k : Int) ∧ (k : Int) < (da.length : Int) := by omega
                  obtain ⟨b1, o1, rfl, -, hc1⟩ := (HA4.out.ext HBx.out).at_ (by omega)
                  obtain ⟨b2, o2, rfl, -, hc2⟩ := (HB4.out.ext HBx.out).at_ (by omega)
                  have k1 := hc1 k hkn
                  have k2 := hc2 k hkn
                  have HS1 := Lib.hid (take_snocE da 0 k hkn)
                  have HS2 := Lib.hid (take_snocE db 0 k hkm)
                  have HNX := Lib.hid (fun (h : da.getD k 0 ≠ db.getD k 0) (e : da = db) => h (by rw [e]))
                  obtain ⟨x1, hx1⟩ : ∃ x, x = da.getD k 0 := ⟨_, rfl⟩
                  obtain ⟨x2, hx2⟩ : ∃ x, x = db.getD k 0 := ⟨_, rfl⟩
                  rw [← hx1] at k1 HS1 HNX
                  rw [← hx2] at k2 HS2 HNX
                  have hbs1 : b1 < wr.heap.size := World.block_lt_of_cell? wr _ k1
                  have hbs2 : b2 < wr.heap.size := World.block_lt_of_cell? wr _ k2
                  clear hc1 hc2 hx1 hx2
                  by_cases he1 : x1 = x2
                  · subst he1
                    have HST := Lib.hid (show da.take (k + 1) = db.take (k + 1) by rw [HS1.out, HS2.out, HE.out])
                    clear HS1 HS2 HNX
                    go_wp2_with fail
                    go_quiet ((fail))
                    go_wp2
                    go_roundw
                    case rel => exact ⟨k + 1, by omega, by go_num, HST.out, below_drewN HBw.out _⟩
                    case measure => simp [intOf]; omega
                  · have HN := Lib.hid (show t = false by rw [HT.out]; refine decide_eq_false fun h => ?_; have h9 := HEQ.out.2 h; exact HNX.out he1 h9.2.2.2.2.2.2)
                    have f1 : (x1 != x2) = true := by simpa using he1
                    clear HS1 HS2 HNX he1
                    go_wp2_with fail
                    go_quiet ((fail))
                    go_wp2
                    go_ret
                    exact ⟨by rw [HN.out]; rfl, below_drewN HBx.out _⟩
                · obtain rfl : k = da.length := by omega
                  have HFULL := Lib.hid (show da = db by
                    have h9 := HE.out
                    rw [List.take_of_length_le (Nat.le_refl _), List.take_of_length_le (by rw [← HL4.out]; exact Nat.le_refl _)] at h9
                    exact h9)
                  have HFD := HFULL
                  have HBW4 := HBw
                  clear HFULL HE
                  have HN := Lib.hid (show t = true by rw [HT.out]; exact decide_eq_true (HEQ.out.1 ⟨by trivial, by trivial, by trivial, HFE.out, HFC.out, HFK.out, HFD.out⟩))
                  go_wp2
                  go_ret
                  exact ⟨by rw [HN.out]; rfl, HBx.out⟩
end Go.Proofs.Ytlandlgjhnnaiaa
