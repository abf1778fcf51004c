/- The walk of PackBack. -/
import Derived.Test.YtclafljkeaekfaaPkL4
import Derived.Deep.QuietTactic
import Derived.BigQuiet
import Derived.Deep.RegionLaw
import Derived.Deep.RegionWith
import Derived.Deep.DeepCutAuto
import Derived.Deep.RegionHeld3
set_option linter.unusedVariables false
set_option linter.unusedSimpArgs false
set_option maxRecDepth 100000
namespace Go.Proofs.Ytclafljkeaekfaa
open Go.RowKit
theorem RdV.keep0 {w w' : World} {A : Option Addr} {n c b : Nat} {l : List ValV} (h : RdV w A n c l) (hw : Only [b] w w') (hs : 0 < n → ∀ p, A = some p → p.block ≠ b) : RdV w' A n c l := by
  rcases Nat.eq_zero_or_pos n with h0 | h0
  · exact ⟨h.len, h.cap, h.max, h.ok, fun hp => by omega⟩
  · exact h.keep hw (fun p hp => by simpa using hs h0 p hp)
set_option maxHeartbeats 1000000 in
theorem walk_PackBack (A1 : Option Addr) (n1 c1 : Nat) (l1 : List ValV) (A2 : Option Addr) (n2 c2 : Nat) (D : List UInt8) (w : World) (hr1 : RdV w A1 n1 c1 l1) (hr2 : Rd w A2 n2 c2 D) (hz2 : n2 ≤ 140737488351232) :
    Calls Try.prog 10 #[.slice A1 n1 c1, .slice A2 n2 c2] w fun e w' => e = .returned (.bool true) ∧ Below w.heap.size w w' := by
  have HR1 := Lib.hid hr1
  have HR2 := Lib.hid hr2
  have HD := Lib.hid hr2.len
  clear hr1 hr2
  go_enter Try.func10, Try.ntmps10
  go_wp2_with fail
  refine (l2_fixed w).mono ?_
  rintro e w1 ⟨rfl, hB1⟩
  have HB1 := Lib.hid hB1
  clear hB1
  go_wp2_with fail
  refine (l2_small A1 n1 c1 l1 w1 (HR1.out.ext HB1.out)).mono ?_
  rintro e w2 ⟨vl, rfl, hO, hB⟩
  obtain ⟨M, hM⟩ : ∃ M, M = sml l1 0 := ⟨_, rfl⟩
  rw [← hM] at hO
  have hrt : ∀ y ∈ M, Rt y := by rw [hM]; exact sml_rt l1 0 HR1.out.ok
  have hbk : bulk M ≤ 1048576 := by have := sml_bulk l1 0 (by omega); rw [← hM] at this; omega
  obtain ⟨q, hq⟩ : ∃ q, q = M.length := ⟨_, rfl⟩
  rw [← hq] at hO
  have hq5 : 10 * q ≤ 1048576 := by have := bulk_len M; rw [hq]; omega
  obtain ⟨Al, cl, rfl, hRl⟩ := hO.rd (by omega) (fun y hy => (hrt y hy).ok)
  have HB2 := Lib.hid (HB1.out.trans (hB.mono HB1.out.size))
  have HRl := Lib.hid hRl
  have HRT := Lib.hid hrt
  have HBK := Lib.hid hbk
  have HQ := Lib.hid hq
  clear hO hB hM hrt hbk hq hRl
  go_wp2_with fail
  have hw1 := wrn_cat M HRT.out HBK.out q (by rw [HQ.out]; exact Nat.le_refl _)
  rw [List.take_of_length_le (by rw [HQ.out]; exact Nat.le_refl _)] at hw1
  refine (l2_written Al q cl M w2 HRl.out).mono ?_
  rintro e w3 ⟨hP, -, hB3⟩
  rw [hw1] at hP
  obtain ⟨ua, rfl, hOa⟩ := hP rfl
  obtain ⟨C, hC⟩ : ∃ C, C = cat M := ⟨_, rfl⟩
  have hOa : Own w3 _ ua (cat M).length (cat M) := hOa
  rw [← hC] at hOa
  have hCl : C.length ≤ 1048576 := by rw [hC]; have := cat_len M HRT.out; have := HBK.out; omega
  obtain ⟨m, hm⟩ : ∃ m, m = C.length := ⟨_, rfl⟩
  rw [← hm] at hOa hCl
  obtain ⟨Aa, ca, rfl, hRa⟩ := hOa.rd (by omega)
  have HRa := Lib.hid hRa
  have HB3 := Lib.hid (HB2.out.trans (hB3.mono HB2.out.size))
  have HRl3 := Lib.hid (HRl.out.ext hB3)
  have HC := Lib.hid hC
  have HM := Lib.hid hm
  clear hP hB3 hOa hRa hw1 hC hm
  go_wp2_with fail
  refine (l2_own Aa m ca C w3 HRa.out).mono ?_
  rintro e w4 ⟨u4, rfl, hO4, hB4⟩
  have HO4 := Lib.hid hO4
  have HB4 := Lib.hid (HB3.out.trans (hB4.mono HB3.out.size))
  have HB34 := Lib.hid hB4
  have hs3 := hB4.size
  clear hO4 hB4
  have HR24 := Lib.hid (HR2.out.ext (w' := w4) HB4.out)
  go_wp2_with (at_builtin; refine wp_appB w3.heap.size HO4.out HR24.out hs3 (by omega) _ _ rfl rfl rfl rfl ?_; intro v5 w5 hO5 hG5 hA5; have HO5 := Lib.hid hO5; have HG5 := Lib.hid hG5; clear hO5 hG5 hA5)
  have hB45 := (Below.refl w3.heap.size w4).grown HG5.out hs3 (fun q hq => (HO4.out.blk q hq).1)
  have hs3w : w.heap.size ≤ w3.heap.size := HB3.out.size
  have HB5 := Lib.hid (HB4.out.trans (hB45.mono hs3w))
  have HRl5 := Lib.hid (HRl3.out.ext (HB34.out.trans hB45))
  have hmn : m + n2 ≤ 140737490452480 := by omega
  obtain ⟨A5, c5, rfl, hR5⟩ := HO5.out.rd hmn
  have HR5 := Lib.hid hR5
  obtain ⟨N, hN⟩ : ∃ N, N = m + n2 := ⟨_, rfl⟩
  have hmN : m ≤ N := by omega
  have hNm : ((N : Int) - (m : Int)) = (n2 : Int) := by omega
  have hNm2 : N - m = n2 := by omega
  have HNM := Lib.hid hNm2
  rw [← hN] at HR5 ⊢
  clear hR5 hB45 hN hNm2
  go_wp2_with fail
  refine (pk_NewReader A5 N c5 (C ++ D) w5 HR5.out).mono ?_
  rintro e w6 ⟨b, A6, c6, rfl, hI, hb, hB, hA6⟩
  have hbw : w.heap.size ≤ b := Nat.le_trans HB5.out.size hb
  have HI := Lib.hid hI
  have HRl6 := Lib.hid (HRl5.out.ext hB)
  have HB6 := Lib.hid (HB5.out.trans (hB.mono HB5.out.size))
  have hb6 := HI.out.lt
  have hlb : 0 < q → ∀ p, Al = some p → p.block ≠ b := fun h0 p hp => by
    obtain ⟨bb, oo, rfl, hc⟩ := HRl5.out.at_ h0
    have := World.block_lt_of_cell? w5 _ (hc 0 h0).1
    injection hp with hp
    subst hp
    simp only at this ⊢
    omega
  have HLB := Lib.hid hlb
  clear hI hB hb hA6 hlb
  go_wp2_with fail
  go_loopw [8, 9, 10] (fun ix _ _ wx => ∃ (i at_ : Nat), i ≤ q ∧ ix = .int .i64 i ∧ at_ = (cat (M.take i)).length ∧ IsR wx b A6 N c6 (C ++ D) at_ 0 ∧ Below w.heap.size w wx ∧ RdV wx Al q cl M) (fun x _ _ _ => q - (intOf x).toNat)
  case atStart => exact ⟨0, 0, by omega, rfl, rfl, HI.out, HB6.out, HRl6.out⟩
  case round =>
    obtain ⟨i, at_, hi, rfl, hat, hI, hB, hRx⟩ := hrel
    have HI := Lib.hid hI
    have HB := Lib.hid hB
    have HRx := Lib.hid hRx
    have HAT := Lib.hid hat
    clear hI hB hRx hat
    by_cases hin : i < q
    · obtain ⟨bb, oo, rfl, hc⟩ := HRx.out.at_ (by omega)
      have hci := hc i hin
      obtain ⟨y, hy⟩ : ∃ y, y = M.getD i default := ⟨_, rfl⟩
      rw [← hy] at hci
      have hyr : Rt y := by rw [hy]; exact HRT.out _ (memV M i (by rw [← HQ.out]; exact hin))
      have hca := cat_at M D i (by rw [← HQ.out]; exact hin)
      rw [← hy, ← HC.out, ← HAT.out] at hca
      have hcn := cat_next M i (by rw [← HQ.out]; exact hin)
      rw [← hy, ← HAT.out] at hcn
      obtain ⟨g0, g1, g2, g3⟩ := hci
      have HY := Lib.hid hyr
      have HCN := Lib.hid hcn
      have htb := l2_takeBack y hyr b A6 N c6 (C ++ D) _ at_ wr HI.out hca
      have hysz : y.s.size ≤ 140737488355328 := hyr.ok.s
      obtain ⟨fl, hfl⟩ : ∃ fl, fl = (form y).length := ⟨_, rfl⟩
      have HTB := Lib.hid htb
      have HFL := Lib.hid hfl
      have HY2 := Lib.hid hy
      clear hca hcn htb hfl hy hyr hc
      have hbx := HI.out.lt
      have hwx := HB.out.size
      obtain ⟨mo, hmo⟩ : ∃ mo, mo = mostV y := ⟨_, rfl⟩
      rw [← hmo] at HTB
      have hcase : ((y.kind == 5) = true ∧ mo = y.i) ∨ ((y.kind == 5) = false ∧ mo = (y.s.size : Int)) := by
        rw [hmo]; unfold mostV
        by_cases hk5 : y.kind = 5
        · exact .inl ⟨by simp [hk5], if_pos hk5⟩
        · exact .inr ⟨by simp [hk5], if_neg hk5⟩
      clear hmo
      rcases hcase with ⟨hk5, rfl⟩ | ⟨hk5, rfl⟩
      all_goals (
        go_wp2_with fail
        refine HTB.out.mono ?_
        rintro e7 w7 ⟨rfl, hI7, hO7⟩
        unfold ValV.val
        dsimp only
        have HI7 := Lib.hid hI7
        have hR7 := HRx.out.keep0 hO7 HLB.out
        have HB7 := Lib.hid (HB.out.trans (hO7.below hwx (by simp; omega)))
        have hbz := HB7.out.size
        have HI8 := Lib.hid (HI7.out.ext ((Below.refl _ w7).alloc (Nat.le_refl _) (.cells #[.int .i64 y.kind, .int .u64 y.u, .int .i64 y.i, .string y.s] 27)))
        have hR8 := hR7.ext ((Below.refl _ w7).alloc (Nat.le_refl _) (.cells #[.int .i64 y.kind, .int .u64 y.u, .int .i64 y.i, .string y.s] 27))
        have HB8 := Lib.hid (HB7.out.alloc hbz (.cells #[.int .i64 y.kind, .int .u64 y.u, .int .i64 y.i, .string y.s] 27))
        have hrow := heap_alloc_new w7 (.cells #[.int .i64 y.kind, .int .u64 y.u, .int .i64 y.i, .string y.s] 27)
        have q0 : (w7.alloc (.cells #[.int .i64 y.kind, .int .u64 y.u, .int .i64 y.i, .string y.s] 27)).cell? ⟨w7.heap.size, 0, none⟩ = some (.int .i64 y.kind) := by rw [cell_of_row _ _ 0 _ _ _ hrow]; rfl
        have q1 : (w7.alloc (.cells #[.int .i64 y.kind, .int .u64 y.u, .int .i64 y.i, .string y.s] 27)).cell? ⟨w7.heap.size, 1, none⟩ = some (.int .u64 y.u) := by rw [cell_of_row _ _ 1 _ _ _ hrow]; rfl
        have q2 : (w7.alloc (.cells #[.int .i64 y.kind, .int .u64 y.u, .int .i64 y.i, .string y.s] 27)).cell? ⟨w7.heap.size, 2, none⟩ = some (.int .i64 y.i) := by rw [cell_of_row _ _ 2 _ _ _ hrow]; rfl
        have q3 : (w7.alloc (.cells #[.int .i64 y.kind, .int .u64 y.u, .int .i64 y.i, .string y.s] 27)).cell? ⟨w7.heap.size, 3, none⟩ = some (.string y.s) := by rw [cell_of_row _ _ 3 _ _ _ hrow]; rfl
        obtain ⟨b', o', he, hc8⟩ := hR8.at_ (by omega)
        cases he
        obtain ⟨d0, d1, d2, d3⟩ := hc8 i hin
        rw [← HY2.out] at d0 d1 d2 d3
        have HRR := Lib.hid hR8
        clear g0 g1 g2 g3 hI7 hO7 hR7 hR8 hrow HTB hc8
        have hw3 : (0 : Int) ≤ (i : Int) := by omega
        have hlti : (i : Int) < (q : Int) := by omega
        go_wp2_with fail
        go_region_held3 (fun w' => w'.cell? ⟨bb, oo + i * 4, none⟩ = some (.int .i64 y.kind) ∧ w'.cell? ⟨bb, oo + i * 4 + 1, none⟩ = some (.int .u64 y.u) ∧ w'.cell? ⟨bb, oo + i * 4 + 2, none⟩ = some (.int .i64 y.i) ∧ w'.cell? ⟨bb, oo + i * 4 + 3, none⟩ = some (.string y.s) ∧ w'.cell? ⟨w7.heap.size, 0, none⟩ = some (.int .i64 y.kind) ∧ w'.cell? ⟨w7.heap.size, 1, none⟩ = some (.int .u64 y.u) ∧ w'.cell? ⟨w7.heap.size, 2, none⟩ = some (.int .i64 y.i) ∧ w'.cell? ⟨w7.heap.size, 3, none⟩ = some (.string y.s) ∧ Only [] (w7.alloc (.cells #[.int .i64 y.kind, .int .u64 y.u, .int .i64 y.i, .string y.s] 27)) w')
          (first | assumption | exact ⟨d0, d1, d2, d3, q0, q1, q2, q3, (Only.refl _ _).drew⟩ | exact ⟨d0, d1, d2, d3, q0, q1, q2, q3, Only.refl _ _⟩)
          (first | (go_at_call 35; refine (pk_RErr b A6 N c6 (C ++ D) _ 0 _ (HI8.out.keep (S := []) ‹_ ∧ _ ∧ _ ∧ _ ∧ _ ∧ _ ∧ _ ∧ _ ∧ Only _ _ _›.2.2.2.2.2.2.2.2 (by simp) (by simp))).mono ?_; rintro e9 w9 ⟨rfl, rfl⟩))
        all_goals (
          rename_i hHeld
          have hO9 := hHeld.2.2.2.2.2.2.2.2
          have HI9 := Lib.hid (HI8.out.keep hO9 (by simp) (by simp))
          have HB9 := Lib.hid (HB8.out.trans (hO9.below HB8.out.size (by simp)))
          have HR9 := Lib.hid (HRR.out.keep hO9 (by simp))
          clear hHeld hO9 d0 d1 d2 d3 q0 q1 q2 q3
          go_wp2
          go_roundw
          case rel => exact ⟨i + 1, at_ + (form y).length, by omega, by go_num, by rw [HCN.out], HI9.out, HB9.out, HR9.out⟩
          case measure => simp [intOf]; omega))
    · obtain rfl : q = i := by omega
      have hM : M.take q = M := List.take_of_length_le (by rw [HQ.out]; exact Nat.le_refl _)
      have hat2 : at_ = m := by rw [HAT.out, hM, ← HC.out, HM.out]
      subst hat2
      clear hM
      go_wp2_with fail
      refine (pk_RLeft b A6 N c6 (C ++ D) at_ 0 wr HI.out).mono ?_
      rintro e8 w8 ⟨rfl, hO8⟩
      rw [HNM.out]
      have HI8 := Lib.hid (HI.out.keep hO8 (by simp) (by simp))
      have HB8 := Lib.hid (HB.out.trans (hO8.below HB.out.size (by simp)))
      clear hO8
      go_wp2_with fail
      refine (pk_REnd b A6 N c6 (C ++ D) at_ 0 w8 HI8.out).mono ?_
      rintro e9 w9 ⟨rfl, hI9, hO9⟩
      have HB9 := Lib.hid (HB8.out.trans (hO9.below HB8.out.size (by simp; omega)))
      have hrE : (n2 = 0 ∧ rE N at_ 0 = 0) ∨ (0 < n2 ∧ rE N at_ 0 = 22) := by
        unfold rE
        by_cases h0 : at_ < N
        · exact .inr ⟨by omega, if_pos ⟨rfl, h0⟩⟩
        · exact .inl ⟨by omega, if_neg (by omega)⟩
      clear hI9 hO9
      rcases hrE with ⟨h0, h1⟩ | ⟨h0, h1⟩
      · rw [h1]
        have hn1 : ((n2 : Int) == 0) = true := by simp; omega
        have hn2 : decide ((0 : Int) < (n2 : Int)) = false := decide_eq_false (by omega)
        clear h1
        go_wp2
        go_ret
        exact ⟨by simp, HB9.out⟩
      · rw [h1]
        have hn1 : ((n2 : Int) == 0) = false := by simp; omega
        have hn2 : decide ((0 : Int) < (n2 : Int)) = true := decide_eq_true (by omega)
        clear h1
        go_wp2
        go_ret
        exact ⟨by simp, HB9.out⟩
end Go.Proofs.Ytclafljkeaekfaa
