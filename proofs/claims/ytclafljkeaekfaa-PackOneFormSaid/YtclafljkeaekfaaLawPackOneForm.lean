/- The walk of PackOneForm. -/
import Derived.Test.YtclafljkeaekfaaPk12
set_option linter.unusedVariables false
set_option linter.unusedSimpArgs false
set_option maxRecDepth 100000
namespace Go.Proofs.Ytclafljkeaekfaa
open Go.RowKit
/-- at the i-th kind -/
structure OfInv (w : World) (b : Nat) (A' : Option Addr) (n c' : Nat) (D : List UInt8) (at_ : Nat) (wx : World) : Prop where
  rd : IsR wx b A' n c' D at_ 0
  below : Below w.heap.size w wx
set_option maxHeartbeats 1000000 in
theorem walk_PackOneForm (A : Option Addr) (n c : Nat) (D : List UInt8) (A2 : Option Addr) (n2 c2 : Nat) (ks : List Int) (w : World) (hr : Rd w A n c D) (hz : n ≤ 140737488351232) (hr2 : RdI [] w A2 n2 c2 ks) (hz2 : ∀ x ∈ ks, -9223372036854775808 ≤ x ∧ x < 9223372036854775808) :
    Calls Try.prog 11 #[.slice A n c, .slice A2 n2 c2] w fun e w' => e = .returned (.bool true) ∧ Below w.heap.size w w' := by
  have HR := Lib.hid hr
  have HR2 := Lib.hid hr2
  have HD := Lib.hid hr.len
  have hcap := hr.cap
  have hmx2 := hr2.max
  clear hr hr2 hz2
  go_enter Try.func11, Try.ntmps11
  go_wp2_with fail
  refine (l2_fixed w).mono ?_
  rintro e w1 ⟨rfl, hB1⟩
  have HB1 := Lib.hid hB1
  clear hB1
  go_wp2_with fail
  refine (l2_own A n c D w1 (HR.out.ext HB1.out)).mono ?_
  rintro e w2 ⟨u, rfl, hO, hB⟩
  obtain ⟨A3, c3, rfl, hR3⟩ := hO.rd (by omega)
  have HR3 := Lib.hid hR3
  have HB2 := Lib.hid (HB1.out.trans (hB.mono HB1.out.size))
  clear hO hB hR3
  go_wp2_with fail
  refine (pk_NewReader A3 n c3 D w2 HR3.out).mono ?_
  rintro e w3 ⟨b, A4, c4, rfl, hI, hb, hB, -⟩
  have hbw : w.heap.size ≤ b := Nat.le_trans HB2.out.size hb
  have HI := Lib.hid hI
  have HB3 := Lib.hid (HB2.out.trans (hB.mono HB2.out.size))
  clear hI hB hb
  go_wp2_with fail
  refine (pk_RLeft b A4 n c4 D 0 0 w3 HI.out).mono ?_
  rintro e w4 ⟨rfl, hO⟩
  rw [Nat.sub_zero]
  have HI0 := Lib.hid (show OfInv w b A4 n c4 D 0 w4 from ⟨HI.out.keep hO (by simp) (by simp), HB3.out.trans (hO.below HB3.out.size (by simp))⟩)
  clear hO
  go_wp2_with fail
  go_loopw [4, 7, 8, 9, 10, 11, 12] (fun _ at7 ix _ _ _ _ wx => ∃ (i at_ : Nat), i ≤ n2 ∧ ix = .int .i64 i ∧ at7 = .int .i64 at_ ∧ at_ ≤ n ∧ OfInv w b A4 n c4 D at_ wx) (fun _ _ x _ _ _ _ _ => n2 - (intOf x).toNat)
  case atStart => exact ⟨0, 0, by omega, rfl, rfl, by omega, HI0.out⟩
  case round =>
    obtain ⟨i, at_, hi, rfl, rfl, hat, hI⟩ := hrel
    have HO := Lib.hid hI
    clear hI
    by_cases hin : i < n2
    · obtain ⟨bb, oo, rfl, _, hc⟩ := HR2.out.at_ (by omega)
      have hci := hc i hin
      have hc := (HO.out.below.cell (World.block_lt_of_cell? w _ hci)).trans hci
      obtain ⟨kd, hkd⟩ : ∃ kd, kd = ks.getD i 0 := ⟨_, rfl⟩
      rw [← hkd] at hc
      clear hci hkd
      go_wp2_with fail
      refine (l2_right ⟨kd, 0, 0, ⟨#[]⟩⟩ ⟨by simp, ⟨by simp, by simp⟩, by simp [es_size]⟩ _).mono ?_
      rintro e5 w5 ⟨rfl, hB5⟩
      obtain ⟨r, hr6, hrk⟩ := rgt_kind ⟨kd, 0, 0, ⟨#[]⟩⟩
      unfold ValV.val
      dsimp only
      rw [hrk]
      have HI5 := Lib.hid (HO.out.rd.ext hB5)
      have HB5 := Lib.hid (HO.out.below.trans (hB5.mono HO.out.below.size))
      have hfd := run_field0 (.int .i64 (r : Int)) (.int .u64 (rgt ⟨kd, 0, 0, ⟨#[]⟩⟩).u) (.int .i64 (rgt ⟨kd, 0, 0, ⟨#[]⟩⟩).i) (.string (rgt ⟨kd, 0, 0, ⟨#[]⟩⟩).s) w5
      clear hB5 hrk
      go_wp2_with fail
      refine (l2_takeK r hr6 b A4 n c4 D at_ w5 HI5.out).mono ?_
      rintro e6 w6 ⟨y, at', e', rfl, hI6, hO6, hS⟩
      unfold ValV.val
      dsimp only
      have HI6 := Lib.hid hI6
      have HB6 := Lib.hid (HB5.out.trans (hO6.below HB5.out.size (by simp; omega)))
      have hbz := HB6.out.size
      have HS := Lib.hid hS
      clear hI6 hO6 hS
      have HI7 := Lib.hid (HI6.out.ext ((Below.refl _ w6).alloc (Nat.le_refl _) (.cells #[.int .i64 y.kind, .int .u64 y.u, .int .i64 y.i, .string y.s] 27)))
      go_wp2_with fail
      refine (pk_RErr b A4 n c4 D at' e' _ HI7.out).mono ?_
      rintro e7 w7 ⟨rfl, rfl⟩
      have HB7 := Lib.hid (HB6.out.alloc hbz (.cells #[.int .i64 y.kind, .int .u64 y.u, .int .i64 y.i, .string y.s] 27))
      rcases HS.out with ⟨rfl, hyk, hyr, hys, ha', htk, hle'⟩ | ⟨he', rfl, rfl⟩
      · have HYR := Lib.hid hyr
        have HTK := Lib.hid htk
        have HHS := Lib.hid hys
        by_cases hbig : (1048573 : Int) < (y.s.size : Int)
        · clear HS hyk hyr ha' htk hle' hys
          go_wp2
          go_ret
          exact ⟨by simp, HB7.out⟩
        · have hfl := hyr.short (by omega)
          have hw1 := hyr.wrn_fit hfl
          have hf1 := hyr.len.2
          obtain ⟨F, hF⟩ : ∃ F, F = form y := ⟨_, rfl⟩
          rw [← hF] at hfl hw1 ha' htk hf1
          obtain ⟨fl, hfn⟩ : ∃ fl, fl = F.length := ⟨_, rfl⟩
          rw [← hfn] at hfl ha' htk hf1
          rw [HD.out] at hle'
          subst ha'
          obtain ⟨a2, ha2⟩ : ∃ a2, a2 = at_ + fl := ⟨_, rfl⟩
          rw [← ha2] at hle' HI7
          have hsum : (at_ : Int) + (fl : Int) = (a2 : Int) := by omega
          have hlt2 : at_ ≤ a2 := by omega
          have hfa : a2 - at_ = fl := by omega
          have HW1 := Lib.hid hw1
          have HTF := Lib.hid htk
          have HFN := Lib.hid hfn
          have hf0 : ((fl : Int) == 0) = false := by simp; omega
          have hgtd : decide ((n : Int) < (a2 : Int)) = false := decide_eq_false (by omega)
          have hf1i : (1 : Int) ≤ (fl : Int) := by omega
          obtain ⟨Ac, ecut, hcut⟩ := cut_mid A n c at_ a2 hlt2 hle' hcap
          rw [hfa] at ecut hcut
          have HCUT := Lib.hid hcut
          have HSZ := Lib.hid (show y.s.size ≤ 1048573 by omega)
          clear HS hyk hyr htk hys hw1 hF hfn hcut ha2
          go_wp2_with fail
          have hL := RdV.lit (w6.alloc (.cells #[.int .i64 y.kind, .int .u64 y.u, .int .i64 y.i, .string y.s] 27)) y HYR.out.ok
          rw [show (w6.alloc (.cells #[.int .i64 y.kind, .int .u64 y.u, .int .i64 y.i, .string y.s] 27)).heap.size = w6.heap.size + 1 by simp] at hL
          refine (l2_written _ 1 1 [y] _ hL).mono ?_
          rintro e8 w8 ⟨hP, -, hB⟩
          rw [HW1.out] at hP
          obtain ⟨u8, rfl, hO8⟩ := hP rfl
          have hO8 : Own w8 _ u8 F.length F := hO8
          rw [← HFN.out] at hO8
          obtain ⟨A8, c8, rfl, hR8⟩ := hO8.rd (by omega)
          have HR8 := Lib.hid hR8
          have HI8 := Lib.hid ((HI7.out.ext ((Below.refl _ _).alloc (Nat.le_refl _) (.cells #[.int .i64 y.kind, .int .u64 y.u, .int .i64 y.i, .string y.s] 27))).ext hB)
          have HB8 := Lib.hid ((HB7.out.alloc HB7.out.size (.cells #[.int .i64 y.kind, .int .u64 y.u, .int .i64 y.i, .string y.s] 27)).trans (hB.mono (HB7.out.alloc HB7.out.size _).size))
          have HRD := Lib.hid (HCUT.out _ _ (HR.out.keep (S := []) ⟨HB8.out.os, HB8.out.tape, HB8.out.output, HB8.out.size, fun k hk _ => HB8.out.block k hk⟩ (by simp)))
          rw [HTF.out] at HRD
          clear hP hB hO8 hR8 hL
          go_wp2_with fail
          refine (l2_same A8 Ac fl c8 fl _ F F w8 HR8.out HRD.out).mono ?_
          rintro e9 w9 ⟨rfl, rfl⟩
          rw [decide_eq_true rfl]
          go_wp2_with fail
          refine (pk_RLeft b A4 n c4 D a2 0 _ HI8.out).mono ?_
          rintro e10 w10 ⟨rfl, hO10⟩
          have hnl : ((n - a2 : Nat) : Int) = (n : Int) - (a2 : Int) := by omega
          have HI10 := Lib.hid (show OfInv w b A4 n c4 D a2 w10 from ⟨HI8.out.keep hO10 (by simp) (by simp), HB8.out.trans (hO10.below HB8.out.size (by simp))⟩)
          clear hO10
          go_wp2
          go_roundw
          case rel => exact ⟨i + 1, a2, by omega, by go_num, rfl, hle', HI10.out⟩
          case measure => simp [intOf]; omega
      · have he2 : (e' != 0) = true := by simpa using he'
        clear HS he'
        go_wp2_with fail
        refine (pk_RLeft b A4 n c4 D at' e' _ HI7.out).mono ?_
        rintro e8 w8 ⟨rfl, hO8⟩
        have hnl : ((n - at' : Nat) : Int) = (n : Int) - (at' : Int) := by omega
        have HB8 := Lib.hid (HB7.out.trans (hO8.below HB7.out.size (by simp)))
        have hrow : w8.heap[w6.heap.size]? = some (.cells #[.int .i64 r, .int .u64 0, .int .i64 0, .string ⟨#[]⟩] 27 (0, 0)) := (hO8.blk _ (by simp) (by simp)).trans (heap_alloc_new w6 _)
        have q0 : w8.cell? ⟨w6.heap.size, 0, none⟩ = some (.int .i64 r) := by rw [cell_of_row _ _ _ _ _ _ hrow]; rfl
        have q1 : w8.cell? ⟨w6.heap.size, 1, none⟩ = some (.int .u64 0) := by rw [cell_of_row _ _ _ _ _ _ hrow]; rfl
        have q2 : w8.cell? ⟨w6.heap.size, 2, none⟩ = some (.int .i64 0) := by rw [cell_of_row _ _ _ _ _ _ hrow]; rfl
        have q3 : w8.cell? ⟨w6.heap.size, 3, none⟩ = some (.string ⟨#[]⟩) := by rw [cell_of_row _ _ _ _ _ _ hrow]; rfl
        clear hO8 hrow
        go_wp2
        go_ret
        exact ⟨by simp, HB8.out⟩
    · obtain rfl : n2 = i := by omega
      go_wp2
      go_ret
      exact ⟨by simp, HO.out.below⟩
end Go.Proofs.Ytclafljkeaekfaa
