/- The laws' helper turned. -/
import Derived.Test.YtlandlgjhnnaiaaAnTu
import Derived.Test.YtlandlgjhnnaiaaPg20
import Derived.RegionTactic
import Derived.BigRegion
set_option linter.unusedVariables false
set_option linter.unusedSimpArgs false
set_option maxRecDepth 100000
namespace Go.Proofs.Ytlandlgjhnnaiaa
open Go.RowKit SumMath
theorem bit_test0 (mask : BitVec 32) (j : Nat) : (bits .and .u32 ((mask.toNat : Int) / 2 ^ j) 1 == 0) = !(mask.getLsbD j) := by
  have h1 : (mask.toNat : Int) / 2 ^ j = ((mask.toNat / 2 ^ j : Nat) : Int) := by
    rw [show (2 : Int) ^ j = ((2 ^ j : Nat) : Int) from (Int.natCast_pow 2 j).symm, Int.natCast_ediv]
  have h2 : mask.toNat / 2 ^ j ≤ mask.toNat := Nat.div_le_self _ _
  rw [h1, show (1 : Int) = ((1 : Nat) : Int) from rfl, u32_and_nat _ _ (Nat.lt_of_le_of_lt h2 mask.isLt) (by decide), nat_mask1, BitVec.getLsbD, Nat.testBit_eq_decide_div_mod_eq]
  rcases Nat.mod_two_eq_zero_or_one (mask.toNat / 2 ^ j) with h | h <;> rw [h] <;> simp
theorem l9_turned_out (A : Option Addr) (n c : Nat) (l : List UInt8) (at_ : Int) (mask : BitVec 32) (w : World) (hr : Rd w A n c l) (hn : n ≤ 140737488351232) (ho : at_ < 0 ∨ 8 * (n : Int) ≤ at_) :
    Calls Try.prog 25 #[.slice A n c, .int .i64 at_, .int .u32 mask.toNat] w fun e w' => ∃ v, e = .returned (.tuple #[v, .int .i64 0]) ∧ Own w' w.heap.size v n l ∧ Below w.heap.size w w' := by
  have HR := Lib.hid hr
  clear hr
  go_enter Try.func25, Try.ntmps25
  go_wp2_with fail
  refine (l9_own _ A n c l HR.out (by omega)).mono ?_
  rintro e w1 ⟨v, rfl, hO, hb1⟩
  obtain ⟨A1, c1, rfl, -⟩ := hO.rd (by omega)
  have HO := Lib.hid hO
  have HB := Lib.hid hb1
  clear hO hb1
  by_cases h0 : at_ < 0
  · clear ho
    go_wp2
    go_ret2
    exact ⟨_, rfl, HO.out, HB.out⟩
  · have h1 : 8 * (n : Int) ≤ at_ := by omega
    clear ho
    go_wp2
    go_ret2
    exact ⟨_, rfl, HO.out, HB.out⟩
set_option maxHeartbeats 4000000 in
theorem l9_turned (A : Option Addr) (n c : Nat) (l : List UInt8) (at_ : Nat) (mask : BitVec 32) (w : World) (hr : Rd w A n c l) (hn : n ≤ 140737488351232) (ho : at_ < 8 * n) :
    Calls Try.prog 25 #[.slice A n c, .int .i64 at_, .int .u32 mask.toNat] w fun e w' => ∃ v, e = .returned (.tuple #[v, .int .i64 (tuN 4 n at_ mask 32 : Nat)]) ∧ Own w' w.heap.size v n (tuB 4 at_ mask l 32) ∧ Below w.heap.size w w' := by
  have HR := Lib.hid hr
  have HL := Lib.hid hr.len
  have hmk := mask.isLt
  have hoi : (at_ : Int) < 8 * (n : Int) ∧ (0 : Int) ≤ (at_ : Int) := by omega
  clear hr
  go_enter Try.func25, Try.ntmps25
  go_wp2_with fail
  refine (l9_own _ A n c l HR.out (by omega)).mono ?_
  rintro e w1 ⟨v, rfl, hO, hb1⟩
  obtain ⟨A1, c1, rfl, -⟩ := hO.rd (by omega)
  have HO := Lib.hid hO
  have HB := Lib.hid hb1
  clear hO hb1
  go_wp2_with fail
  go_loopw [9, 10, 11, 12, 13] (fun x9 x10 x _ _ wr => ∃ j : Nat, j ≤ 32 ∧ x = .int .i64 j ∧ x9 = .int .i64 (tuN 4 n at_ mask j : Nat) ∧ x10 = .int .i64 (tuS 4 n at_ mask j : Nat) ∧ Own wr w.heap.size (.slice A1 n c1) n (tuB 4 at_ mask l j) ∧ Below w.heap.size w wr) (fun _ _ x _ _ _ => 32 - (intOf x).toNat)
  case atStart => exact ⟨0, by omega, rfl, rfl, rfl, HO.out, HB.out⟩
  case round =>
    obtain ⟨j, hj, rfl, rfl, rfl, hOj, hB⟩ := hrel
    have HOj := Lib.hid hOj
    have HBj := Lib.hid hB
    have hnle := tuN_le 4 n at_ mask j
    clear hOj hB
    by_cases hj32 : j < 32
    · have hji : (0 : Int) ≤ (j : Int) ∧ (j : Int) < 32 := by omega
      have HBT := Lib.hid (bit_test0 mask j)
      have HTS := Lib.hid (show tuS 4 n at_ mask (j + 1) = if mask.getLsbD j = true ∧ at_ + j < 8 * n ∧ tuS 4 n at_ mask j = 0 then stB 4 (at_ + j) else tuS 4 n at_ mask j from rfl)
      have HTN := Lib.hid (show tuN 4 n at_ mask (j + 1) = if tuH 4 n at_ mask j then tuN 4 n at_ mask j + 1 else tuN 4 n at_ mask j from rfl)
      have HTB := Lib.hid (show tuB 4 at_ mask l (j + 1) = if tuH 4 n at_ mask j then flip1 (tuB 4 at_ mask l j) (at_ + j) else tuB 4 at_ mask l j by rw [tuB, HL.out])
      have HTH := Lib.hid (show tuH 4 n at_ mask j ↔ (mask.getLsbD j = true ∧ at_ + j < 8 * n ∧ stB 4 (at_ + j) = tuS 4 n at_ mask (j + 1)) from Iff.rfl)
      obtain ⟨Nj, hNj⟩ : ∃ N, N = tuN 4 n at_ mask j := ⟨_, rfl⟩
      obtain ⟨Sj, hSj⟩ : ∃ S, S = tuS 4 n at_ mask j := ⟨_, rfl⟩
      rw [← hNj] at HTN hnle ⊢
      rw [← hSj] at HTS ⊢
      clear hNj hSj
      by_cases hbit : mask.getLsbD j = true
      rotate_left
      · have hbt := HBT.out
        rw [show mask.getLsbD j = false by simpa using hbit] at hbt
        have HNX := Lib.hid (show tuN 4 n at_ mask (j + 1) = Nj ∧ tuS 4 n at_ mask (j + 1) = Sj ∧ tuB 4 at_ mask l (j + 1) = tuB 4 at_ mask l j from ⟨by rw [HTN.out, if_neg (fun h => hbit h.1)], by rw [HTS.out, if_neg (fun h => hbit h.1)], by rw [HTB.out, if_neg (fun h => hbit h.1)]⟩)
        clear hbit
        go_wp2
        exact ⟨⟨j + 1, by omega, by go_num, by rw [HNX.out.1], by rw [HNX.out.2.1], by rw [HNX.out.2.2]; exact HOj.out, HBj.out⟩, by simp [intOf]; omega⟩
      have hbt := HBT.out
      rw [hbit] at hbt
      by_cases hk : at_ + j < 8 * n
      rotate_left
      · have hki : 8 * (n : Int) ≤ (at_ : Int) + (j : Int) := by omega
        have HNX := Lib.hid (show tuN 4 n at_ mask (j + 1) = Nj ∧ tuS 4 n at_ mask (j + 1) = Sj ∧ tuB 4 at_ mask l (j + 1) = tuB 4 at_ mask l j from ⟨by rw [HTN.out, if_neg (fun h => hk h.2.1)], by rw [HTS.out, if_neg (fun h => hk h.2.1)], by rw [HTB.out, if_neg (fun h => hk h.2.1)]⟩)
        clear hbit hk
        go_wp2
        exact ⟨⟨j + 1, by omega, by go_num, by rw [HNX.out.1], by rw [HNX.out.2.1], by rw [HNX.out.2.2]; exact HOj.out, HBj.out⟩, by simp [intOf]; omega⟩
      have hki : (at_ : Int) + (j : Int) < 8 * (n : Int) := by omega
      obtain ⟨g, cc, he, hg1, hg2⟩ := HOj.out.form (by omega)
      injection he with he1 he2 he3
      subst he1 he3
      have hcell := HOj.out.cell ((at_ + j) / 8) (by omega)
      have hfree := HOj.out.free ((at_ + j) / 8)
      have h8 := ((tuB 4 at_ mask l j).getD ((at_ + j) / 8) 0).toNat_lt
      have HV := Lib.hid (flip_val ((tuB 4 at_ mask l j).getD ((at_ + j) / 8) 0) (at_ + j))
      have HW := Lib.hid (HOj.out.store ((at_ + j) / 8) ((tuB 4 at_ mask l j).getD ((at_ + j) / 8) 0 ^^^ UInt8.ofNat (2 ^ ((at_ + j) % 8))))
      obtain ⟨x, hx⟩ : ∃ x, x = (tuB 4 at_ mask l j).getD ((at_ + j) / 8) 0 := ⟨_, rfl⟩
      rw [← hx] at hcell h8 HV HW
      have HX := Lib.hid hx
      have HST := Lib.hid (show stB 4 (at_ + j) = if 64 ≤ at_ + j then 3 else if 32 ≤ at_ + j then 2 else 1 from rfl)
      have HG := Lib.hid hg1
      clear hx hg2
      by_cases hp : 64 ≤ at_ + j
      · have hst : stB 4 (at_ + j) = 3 := by rw [HST.out, if_pos hp]
        have hpi : (64 : Int) ≤ (at_ : Int) + (j : Int) := by omega
        by_cases hS0 : Sj = 0
        · subst hS0
          have HNX := Lib.hid (show tuN 4 n at_ mask (j + 1) = Nj + 1 ∧ tuS 4 n at_ mask (j + 1) = 3 ∧ tuB 4 at_ mask l (j + 1) = flip1 (tuB 4 at_ mask l j) (at_ + j) from by
            have h1 : tuS 4 n at_ mask (j + 1) = 3 := by rw [HTS.out, if_pos ⟨hbit, hk, rfl⟩]; exact hst
            have h2 : tuH 4 n at_ mask j := HTH.out.2 ⟨hbit, hk, by rw [h1]; exact hst⟩
            exact ⟨by rw [HTN.out, if_pos h2], h1, by rw [HTB.out, if_pos h2]⟩)
          clear hbit hk
          go_wp2_with fail
          go_region
          go_wp2
          refine ⟨⟨j + 1, by omega, by go_num, by rw [HNX.out.1]; go_num, by rw [HNX.out.2.1]; rfl, ?_, ?_⟩, by simp [intOf]; omega⟩
          · rw [HNX.out.2.2, flip1, ← HX.out]
            have := HW.out
            rw [← HV.out] at this
            exact this
          · exact (HBj.out.setCell (by exact HG.out) _).drew
        · have hS0i : ((Sj : Int) == 0) = false := by simp; omega
          by_cases hSs : Sj = 3
          · subst hSs
            have HNX := Lib.hid (show tuN 4 n at_ mask (j + 1) = Nj + 1 ∧ tuS 4 n at_ mask (j + 1) = 3 ∧ tuB 4 at_ mask l (j + 1) = flip1 (tuB 4 at_ mask l j) (at_ + j) from by
              have h1 : tuS 4 n at_ mask (j + 1) = 3 := by rw [HTS.out, if_neg (fun h => hS0 h.2.2)]
              have h2 : tuH 4 n at_ mask j := HTH.out.2 ⟨hbit, hk, by rw [h1]; exact hst⟩
              exact ⟨by rw [HTN.out, if_pos h2], h1, by rw [HTB.out, if_pos h2]⟩)
            clear hbit hk
            go_wp2_with fail
            go_region
            go_wp2
            refine ⟨⟨j + 1, by omega, by go_num, by rw [HNX.out.1]; go_num, by rw [HNX.out.2.1]; rfl, ?_, ?_⟩, by simp [intOf]; omega⟩
            · rw [HNX.out.2.2, flip1, ← HX.out]
              have := HW.out
              rw [← HV.out] at this
              exact this
            · exact (HBj.out.setCell (by exact HG.out) _).drew
          · have hne : ((3 : Int) == (Sj : Int)) = false := by simp; omega
            have HNX := Lib.hid (show tuN 4 n at_ mask (j + 1) = Nj ∧ tuS 4 n at_ mask (j + 1) = Sj ∧ tuB 4 at_ mask l (j + 1) = tuB 4 at_ mask l j from by
              have h1 : tuS 4 n at_ mask (j + 1) = Sj := by rw [HTS.out, if_neg (fun h => hS0 h.2.2)]
              have h2 : ¬ tuH 4 n at_ mask j := fun h => hSs (by rw [← h1, ← h.2.2]; exact hst)
              exact ⟨by rw [HTN.out, if_neg h2], h1, by rw [HTB.out, if_neg h2]⟩)
            clear hbit hk
            go_wp2
            exact ⟨⟨j + 1, by omega, by go_num, by rw [HNX.out.1], by rw [HNX.out.2.1], by rw [HNX.out.2.2]; exact HOj.out, HBj.out⟩, by simp [intOf]; omega⟩
      have hp3 := hp
      clear hp
      by_cases hp : 32 ≤ at_ + j
      · have hst : stB 4 (at_ + j) = 2 := by rw [HST.out, if_neg hp3, if_pos hp]
        have hpi : (32 : Int) ≤ (at_ : Int) + (j : Int) ∧ (at_ : Int) + (j : Int) < 64 := by omega
        by_cases hS0 : Sj = 0
        · subst hS0
          have HNX := Lib.hid (show tuN 4 n at_ mask (j + 1) = Nj + 1 ∧ tuS 4 n at_ mask (j + 1) = 2 ∧ tuB 4 at_ mask l (j + 1) = flip1 (tuB 4 at_ mask l j) (at_ + j) from by
            have h1 : tuS 4 n at_ mask (j + 1) = 2 := by rw [HTS.out, if_pos ⟨hbit, hk, rfl⟩]; exact hst
            have h2 : tuH 4 n at_ mask j := HTH.out.2 ⟨hbit, hk, by rw [h1]; exact hst⟩
            exact ⟨by rw [HTN.out, if_pos h2], h1, by rw [HTB.out, if_pos h2]⟩)
          clear hbit hk
          go_wp2_with fail
          go_region
          go_wp2
          refine ⟨⟨j + 1, by omega, by go_num, by rw [HNX.out.1]; go_num, by rw [HNX.out.2.1]; rfl, ?_, ?_⟩, by simp [intOf]; omega⟩
          · rw [HNX.out.2.2, flip1, ← HX.out]
            have := HW.out
            rw [← HV.out] at this
            exact this
          · exact (HBj.out.setCell (by exact HG.out) _).drew
        · have hS0i : ((Sj : Int) == 0) = false := by simp; omega
          by_cases hSs : Sj = 2
          · subst hSs
            have HNX := Lib.hid (show tuN 4 n at_ mask (j + 1) = Nj + 1 ∧ tuS 4 n at_ mask (j + 1) = 2 ∧ tuB 4 at_ mask l (j + 1) = flip1 (tuB 4 at_ mask l j) (at_ + j) from by
              have h1 : tuS 4 n at_ mask (j + 1) = 2 := by rw [HTS.out, if_neg (fun h => hS0 h.2.2)]
              have h2 : tuH 4 n at_ mask j := HTH.out.2 ⟨hbit, hk, by rw [h1]; exact hst⟩
              exact ⟨by rw [HTN.out, if_pos h2], h1, by rw [HTB.out, if_pos h2]⟩)
            clear hbit hk
            go_wp2_with fail
            go_region
            go_wp2
            refine ⟨⟨j + 1, by omega, by go_num, by rw [HNX.out.1]; go_num, by rw [HNX.out.2.1]; rfl, ?_, ?_⟩, by simp [intOf]; omega⟩
            · rw [HNX.out.2.2, flip1, ← HX.out]
              have := HW.out
              rw [← HV.out] at this
              exact this
            · exact (HBj.out.setCell (by exact HG.out) _).drew
          · have hne : ((2 : Int) == (Sj : Int)) = false := by simp; omega
            have HNX := Lib.hid (show tuN 4 n at_ mask (j + 1) = Nj ∧ tuS 4 n at_ mask (j + 1) = Sj ∧ tuB 4 at_ mask l (j + 1) = tuB 4 at_ mask l j from by
              have h1 : tuS 4 n at_ mask (j + 1) = Sj := by rw [HTS.out, if_neg (fun h => hS0 h.2.2)]
              have h2 : ¬ tuH 4 n at_ mask j := fun h => hSs (by rw [← h1, ← h.2.2]; exact hst)
              exact ⟨by rw [HTN.out, if_neg h2], h1, by rw [HTB.out, if_neg h2]⟩)
            clear hbit hk
            go_wp2
            exact ⟨⟨j + 1, by omega, by go_num, by rw [HNX.out.1], by rw [HNX.out.2.1], by rw [HNX.out.2.2]; exact HOj.out, HBj.out⟩, by simp [intOf]; omega⟩
      have hp2 := hp
      clear hp
      have hst : stB 4 (at_ + j) = 1 := by rw [HST.out, if_neg hp3, if_neg hp2]
      have hpi : (at_ : Int) + (j : Int) < 32 := by omega
      by_cases hS0 : Sj = 0
      · subst hS0
        have HNX := Lib.hid (show tuN 4 n at_ mask (j + 1) = Nj + 1 ∧ tuS 4 n at_ mask (j + 1) = 1 ∧ tuB 4 at_ mask l (j + 1) = flip1 (tuB 4 at_ mask l j) (at_ + j) from by
          have h1 : tuS 4 n at_ mask (j + 1) = 1 := by rw [HTS.out, if_pos ⟨hbit, hk, rfl⟩]; exact hst
          have h2 : tuH 4 n at_ mask j := HTH.out.2 ⟨hbit, hk, by rw [h1]; exact hst⟩
          exact ⟨by rw [HTN.out, if_pos h2], h1, by rw [HTB.out, if_pos h2]⟩)
        clear hbit hk
        go_wp2_with fail
        go_region
        go_wp2
        refine ⟨⟨j + 1, by omega, by go_num, by rw [HNX.out.1]; go_num, by rw [HNX.out.2.1]; rfl, ?_, ?_⟩, by simp [intOf]; omega⟩
        · rw [HNX.out.2.2, flip1, ← HX.out]
          have := HW.out
          rw [← HV.out] at this
          exact this
        · exact (HBj.out.setCell (by exact HG.out) _).drew
      · have hS0i : ((Sj : Int) == 0) = false := by simp; omega
        by_cases hSs : Sj = 1
        · subst hSs
          have HNX := Lib.hid (show tuN 4 n at_ mask (j + 1) = Nj + 1 ∧ tuS 4 n at_ mask (j + 1) = 1 ∧ tuB 4 at_ mask l (j + 1) = flip1 (tuB 4 at_ mask l j) (at_ + j) from by
            have h1 : tuS 4 n at_ mask (j + 1) = 1 := by rw [HTS.out, if_neg (fun h => hS0 h.2.2)]
            have h2 : tuH 4 n at_ mask j := HTH.out.2 ⟨hbit, hk, by rw [h1]; exact hst⟩
            exact ⟨by rw [HTN.out, if_pos h2], h1, by rw [HTB.out, if_pos h2]⟩)
          clear hbit hk
          go_wp2_with fail
          go_region
          go_wp2
          refine ⟨⟨j + 1, by omega, by go_num, by rw [HNX.out.1]; go_num, by rw [HNX.out.2.1]; rfl, ?_, ?_⟩, by simp [intOf]; omega⟩
          · rw [HNX.out.2.2, flip1, ← HX.out]
            have := HW.out
            rw [← HV.out] at this
            exact this
          · exact (HBj.out.setCell (by exact HG.out) _).drew
        · have hne : ((1 : Int) == (Sj : Int)) = false := by simp; omega
          have HNX := Lib.hid (show tuN 4 n at_ mask (j + 1) = Nj ∧ tuS 4 n at_ mask (j + 1) = Sj ∧ tuB 4 at_ mask l (j + 1) = tuB 4 at_ mask l j from by
            have h1 : tuS 4 n at_ mask (j + 1) = Sj := by rw [HTS.out, if_neg (fun h => hS0 h.2.2)]
            have h2 : ¬ tuH 4 n at_ mask j := fun h => hSs (by rw [← h1, ← h.2.2]; exact hst)
            exact ⟨by rw [HTN.out, if_neg h2], h1, by rw [HTB.out, if_neg h2]⟩)
          clear hbit hk
          go_wp2
          exact ⟨⟨j + 1, by omega, by go_num, by rw [HNX.out.1], by rw [HNX.out.2.1], by rw [HNX.out.2.2]; exact HOj.out, HBj.out⟩, by simp [intOf]; omega⟩
    · obtain rfl : j = 32 := by omega
      go_wp2
      go_ret2
      exact ⟨_, rfl, HOj.out, HBj.out⟩
end Go.Proofs.Ytlandlgjhnnaiaa
