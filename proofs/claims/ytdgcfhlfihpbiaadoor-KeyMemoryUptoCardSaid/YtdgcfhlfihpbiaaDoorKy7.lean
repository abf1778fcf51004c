/- The laws' own helpers: length, ahead, begins. -/
import Derived.Test.YtdgcfhlfihpbiaaDoorKyM3
import Derived.Test.YtdgcfhlfihpbiaaDoorKy5
set_option linter.unusedVariables false
set_option linter.unusedSimpArgs false
set_option maxRecDepth 100000
namespace Go.Proofs.YtdgcfhlfihpbiaaDoor
open Go.RowKit
theorem l5_length (A : Option Addr) (n c : Nat) (ps : List ByteArray) (w : World) (hr : RdT w A n c ps) (hz : bulkT ps ≤ 1048576) :
    Calls Tryd.prog 23 #[.slice A n c] w fun e w' => e = .returned (.int .i64 ((mkL ps).length : Nat)) ∧ Only [] w w' := by
  have HR := Lib.hid hr
  have HL := Lib.hid hr.len
  have HZ := Lib.hid hz
  have hn : n ≤ 1048576 := by have := bulkT_len ps; rw [hr.len] at this; omega
  have HM := Lib.hid (mkL_bulk ps)
  clear hr hz
  go_enter Tryd.func23, Tryd.ntmps23
  go_wp2_with fail
  go_loopw [3, 4, 5] (fun v x _ wx => ∃ k m : Nat, k ≤ n ∧ x = .int .i64 k ∧ v = .int .i64 m ∧ m = (mkL (ps.take k)).length ∧ Only [] w wx) (fun _ x _ _ => n - (intOf x).toNat)
  case atStart => exact ⟨0, 0, by omega, rfl, rfl, by simp [mkL], Only.refl _ _⟩
  case round =>
    obtain ⟨k, m, hk, rfl, rfl, hm, hO⟩ := hrel
    have HO := Lib.hid hO
    have hm2 : m ≤ 2097152 := by have := mkL_take_le ps k; have := HM.out; have := HZ.out; omega
    have HMM := Lib.hid hm
    clear hO hm
    by_cases hkn : k < n
    · obtain ⟨bb, oo, rfl, hc⟩ := (HR.out.keep HO.out (by simp)).at_ (by omega)
      have hck0 := hc k hkn
      have hsz := bulkT_mem (memT ps k (by rw [HL.out]; exact hkn))
      obtain ⟨x, hx⟩ : ∃ x, x = ps.getD k default := ⟨_, rfl⟩
      rw [← hx] at hck0 hsz
      have hsz2 : x.size ≤ 1048576 := by have := HZ.out; omega
      have hRow := (HR.out.at_ (by omega))
      have HX := Lib.hid (show (mkL (ps.take (k + 1))).length = m + x.size + 2 + x.data.toList.count 0 by
        have h1 := esc_cnt x.data.toList
        have h2 := str_len x
        rw [takeT_snoc ps k (by rw [HL.out]; exact hkn), mkL_append, ← hx, mkL_one, List.length_append, List.length_append, ← HMM.out, h1, h2]
        simp only [List.length_cons, List.length_nil]; omega)
      have hk0 : (0 : Int) ≤ (k : Int) ∧ (k : Int) < (n : Int) := by omega
      have HXL := Lib.hid (str_len x)
      have HXG := Lib.hid (fun j hj => bget x j hj)
      have HCK := Lib.hid (fun (W : World) (hW : Only [] wr W) => (World.cell?_of_block (w := wr) (a := ⟨bb, oo + k, none⟩) (hW.blk bb (World.block_lt_of_cell? wr _ hck0) (by simp))).trans hck0)
      clear hc hx hsz hRow
      go_wp2_with fail
      go_loopw [3, 5] (fun v y wx => ∃ j q : Nat, j ≤ x.size ∧ y = .int .i64 j ∧ v = .int .i64 q ∧ q ≤ 6291456 ∧ q = m + x.size + 2 + (x.data.toList.take j).count 0 ∧ Only [] wr wx) (fun _ y _ => x.size - (intOf y).toNat)
      case atStart => exact ⟨0, m + x.size + 2, by omega, rfl, by go_num, by omega, by simp, Only.refl _ _⟩
      case round =>
        obtain ⟨j, q, hj, rfl, rfl, hqb, hq, hO⟩ := hrel
        have HO2 := Lib.hid hO
        have HQ := Lib.hid hq
        have hck := HCK.out _ hO
        clear hO hq hck0
        by_cases hjn : j < x.size
        · obtain ⟨c1, hc1⟩ : ∃ c1, c1 = x[j] := ⟨_, rfl⟩
          have hc2 : c1 = x.data.toList.getD j 0 := by rw [hc1]; exact HXG.out j hjn
          have hts := take_snoc x.data.toList j 0 (by rw [HXL.out]; exact hjn)
          rw [← hc2] at hts
          by_cases h0 : c1 = 0
          · have HT := Lib.hid (show q + 1 = m + x.size + 2 + (x.data.toList.take (j + 1)).count 0 by
              rw [hts, List.count_append, h0, HQ.out]; simp; omega)
            have HTB := Lib.hid (show q + 1 ≤ 6291456 by
              have h1 := List.count_le_length (a := (0 : UInt8)) (l := x.data.toList.take (j + 1))
              rw [List.length_take, HXL.out] at h1
              have := HT.out; omega)
            have hx0 : x[j] = 0 := by rw [← hc1]; exact h0
            have hx1 : ((x[j].toNat : Int) == 0) = true := by rw [hx0]; rfl
            clear hc1 hc2 hts h0 hx0
            go_wp2
            go_roundw
            case rel => exact ⟨j + 1, q + 1, by omega, by go_num, by go_num, HTB.out, HT.out, HO2.out⟩
            case measure => simp [intOf]; omega
          · have HT := Lib.hid (show q = m + x.size + 2 + (x.data.toList.take (j + 1)).count 0 by
              rw [hts, List.count_append, HQ.out]; simp [h0])
            have hx1 : ((x[j].toNat : Int) == 0) = false := by
              rw [← hc1]
              simp only [beq_eq_false_iff_ne, ne_eq]
              intro h; exact h0 (UInt8.toNat_inj.1 (by have : (0 : UInt8).toNat = 0 := rfl; omega))
            clear hc1 hc2 hts h0
            go_wp2
            go_roundw
            case rel => exact ⟨j + 1, q, by omega, by go_num, rfl, hqb, HT.out, HO2.out⟩
            case measure => simp [intOf]; omega
        · obtain rfl : x.size = j := by omega
          have HT := Lib.hid (show q = (mkL (ps.take (k + 1))).length by
            rw [HX.out, HQ.out, show x.data.toList.take x.size = x.data.toList from List.take_of_length_le (by rw [HXL.out]; exact Nat.le_refl _)])
          go_wp2
          go_roundw
          case rel => exact ⟨k + 1, q, by omega, by go_num, rfl, HT.out, HO.out.trans HO2.out⟩
          case measure => simp [intOf]; omega
    · obtain rfl : n = k := by omega
      have hT : ps.take n = ps := List.take_of_length_le (by rw [HL.out]; exact Nat.le_refl _)
      have hMM := HMM.out
      rw [hT] at hMM
      have HMM2 := Lib.hid hMM
      clear hT hMM
      go_wp2
      go_ret
      exact ⟨by rw [← HMM2.out]; rfl, HO.out⟩
theorem l5_ahead (A A' : Option Addr) (n c n' c' : Nat) (l l' : List ByteArray) (w : World) (hr : RdT w A n c l) (hr' : RdT w A' n' c' l') :
    Calls Tryd.prog 24 #[.slice A n c, .slice A' n' c'] w fun e w' => e = .returned (.bool (decide (cmT l l' = -1))) ∧ Only [] w w' := by
  have HR := Lib.hid hr
  have HR' := Lib.hid hr'
  have hm := hr.max
  have hm' := hr'.max
  have HL := Lib.hid hr.len
  have HL' := Lib.hid hr'.len
  clear hr hr'
  obtain ⟨t, ht⟩ : ∃ t, t = cmT l l' := ⟨_, rfl⟩
  rw [← ht]
  have HT := Lib.hid ht
  clear ht
  go_enter Tryd.func24, Tryd.ntmps24
  go_wp2_with fail
  go_loopw [5] (fun x wx => ∃ k : Nat, k ≤ n ∧ k ≤ n' ∧ x = .int .i64 k ∧ t = cmT (l.drop k) (l'.drop k) ∧ Only [] w wx) (fun x _ => n - (intOf x).toNat)
  case atStart => exact ⟨0, by omega, by omega, rfl, by simpa using HT.out, Only.refl _ _⟩
  case round =>
    obtain ⟨k, hk, hk', rfl, hE, hO⟩ := hrel
    have HE := Lib.hid hE
    have HO := Lib.hid hO
    clear hE hO
    by_cases hkk : k < n ∧ k < n'
    · obtain ⟨hkn, hkn'⟩ := hkk
      obtain ⟨bb, oo, rfl, hc⟩ := (HR.out.keep HO.out (by simp)).at_ (by omega)
      have hck := hc k hkn
      obtain ⟨x, hx⟩ : ∃ x, x = l.getD k default := ⟨_, rfl⟩
      rw [← hx] at hck
      have hk0 : (0 : Int) ≤ (k : Int) ∧ (k : Int) < (n : Int) ∧ (k : Int) < (n' : Int) := by omega
      obtain ⟨b2, o2, rfl, hc2⟩ := (HR'.out.keep HO.out (by simp)).at_ (by omega)
      have hck2 := hc2 k hkn'
      obtain ⟨y, hy⟩ : ∃ y, y = l'.getD k default := ⟨_, rfl⟩
      rw [← hy] at hck2
      have hst := cmT_step l l' k (by rw [HL.out]; exact hkn) (by rw [HL'.out]; exact hkn')
      rw [← hx, ← hy, ← HE.out] at hst
      have e1 : (k : Int) < (n : Int) := by omega
      have e2 : (k : Int) < (n' : Int) := by omega
      have e3 : ((k : Int) == (n : Int)) = false := by simp; omega
      have e4 : ((k : Int) == (n' : Int)) = false := by simp; omega
      clear hc hc2 hx hy
      rcases cmS_cases x y with ⟨h1, h2, h3⟩ | ⟨h1, h2, h3⟩ | ⟨h1, h2, h3⟩
      · rw [if_pos h1] at hst
        have HST := Lib.hid hst
        subst h2
        clear hst h1 h3
        go_wp2_with fail
        go_quiet ((fail))
        go_wp2
        go_roundw
        case rel => exact ⟨k + 1, by omega, by omega, by go_num, HST.out, HO.out.drewN _⟩
        case measure => simp [intOf]; omega
      · rw [if_neg (by rw [h1]; decide), h1] at hst
        have HST := Lib.hid hst
        have h4 : Op.bytesLess x.toList y.toList = true := h2
        have h5 : (x.toList == y.toList) = false := beq_eq_false_iff_ne.2 (fun h => h3 (toList_inj' h))
        clear hst h1 h2 h3
        go_wp2_with fail
        go_quiet ((fail))
        go_wp2_with fail
        go_quiet ((fail))
        go_wp2
        go_ret
        rw [HST.out]; exact ⟨by simp, (HO.out.drewN _).drewN _⟩
      · rw [if_neg (by rw [h1]; decide), h1] at hst
        have HST := Lib.hid hst
        have h4 : Op.bytesLess x.toList y.toList = false := h2
        have h5 : (x.toList == y.toList) = false := beq_eq_false_iff_ne.2 (fun h => h3 (toList_inj' h))
        clear hst h1 h2 h3
        go_wp2_with fail
        go_quiet ((fail))
        go_wp2_with fail
        go_quiet ((fail))
        go_wp2
        go_ret
        rw [HST.out]; exact ⟨by simp, (HO.out.drewN _).drewN _⟩
    · have htri : (k = n ∧ n < n' ∧ t = -1) ∨ (k = n' ∧ n' < n ∧ t = 1) ∨ (k = n ∧ n = n' ∧ t = 0) := by
        rcases Nat.lt_trichotomy n n' with h | h | h
        · have : k = n := by omega
          exact .inl ⟨this, h, by rw [HE.out]; exact cmT_end1 l l' k (by rw [HL.out]; omega) (by rw [HL'.out]; omega)⟩
        · exact .inr (.inr ⟨by omega, h, by rw [HE.out]; exact cmT_end0 l l' k (by rw [HL.out]; omega) (by rw [HL'.out]; omega)⟩)
        · have : k = n' := by omega
          exact .inr (.inl ⟨this, h, by rw [HE.out]; exact cmT_end2 l l' k (by rw [HL.out]; omega) (by rw [HL'.out]; omega)⟩)
      clear hkk hk hk'
      rcases htri with ⟨rfl, h2, h3⟩ | ⟨rfl, h2, h3⟩ | ⟨rfl, rfl, h3⟩
      · have HST := Lib.hid h3
        have e1 : (k : Int) < (n' : Int) := by omega
        have e4 : ((k : Int) == (n' : Int)) = false := by simp; omega
        clear h3 h2
        go_wp2_with fail
        go_quiet ((fail))
        go_wp2
        go_ret
        rw [HST.out]; exact ⟨by simp, HO.out.drewN _⟩
      · have HST := Lib.hid h3
        have e2 : (k : Int) < (n : Int) := by omega
        have e4 : ((k : Int) == (n : Int)) = false := by simp; omega
        clear h3 h2
        go_wp2_with fail
        go_quiet ((fail))
        go_wp2
        go_ret
        rw [HST.out]; exact ⟨by simp, HO.out.drewN _⟩
      · have HST := Lib.hid h3
        clear h3
        go_wp2_with fail
        go_quiet ((fail))
        go_wp2
        go_ret
        rw [HST.out]; exact ⟨by simp, HO.out.drewN _⟩
theorem l5_begins (A A' : Option Addr) (n c n' c' : Nat) (l l' : List ByteArray) (w : World) (hr : RdT w A n c l) (hr' : RdT w A' n' c' l') :
    Calls Tryd.prog 28 #[.slice A n c, .slice A' n' c'] w fun e w' => e = .returned (.bool (decide (l.take l'.length = l'))) ∧ Only [] w w' := by
  have HR := Lib.hid hr
  have HR' := Lib.hid hr'
  have HL := Lib.hid hr.len
  have HL' := Lib.hid hr'.len
  have hcap := hr.cap
  have hmx := hr.max
  have hmx' := hr'.max
  clear hr hr'
  by_cases h : n' ≤ n
  · have e1 : ¬ (n : Int) < (n' : Int) := by omega
    have e2 : (n' : Int) ≤ (n : Int) := by omega
    have hcut := cut_toT A n c n' h hcap
    go_enter Tryd.func28, Tryd.ntmps28
    go_wp2_with fail
    refine (l5_same A A' n' c n' c' (l.take n') l' w (HR.out.takeT n' h) HR'.out).mono ?_
    rintro e w1 ⟨rfl, hO⟩
    have HO := Lib.hid hO
    clear hO hcut
    go_wp2
    go_ret
    exact ⟨by rw [HL'.out]; rfl, HO.out⟩
  · have e1 : (n : Int) < (n' : Int) := by omega
    have e2 : ¬ (n' : Int) ≤ (n : Int) := by omega
    go_enter Tryd.func28, Tryd.ntmps28
    go_wp2
    go_ret
    refine ⟨?_, Only.refl _ _⟩
    have h9 : decide (l.take l'.length = l') = false := by
      refine decide_eq_false (fun h3 => ?_)
      have h4 := congrArg List.length h3
      rw [List.length_take, HL.out, HL'.out] at h4
      omega
    rw [h9]; rfl
end Go.Proofs.YtdgcfhlfihpbiaaDoor
