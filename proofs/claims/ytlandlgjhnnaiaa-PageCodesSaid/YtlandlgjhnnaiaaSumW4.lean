/- The walk of sum's over. For every slice of bytes. -/
import Derived.Test.YtlandlgjhnnaiaaSumW3
set_option linter.unusedVariables false
set_option linter.unusedSimpArgs false
namespace Go.Proofs.Ytlandlgjhnnaiaa
open Go.RowKit SumMath
set_option maxHeartbeats 400000 in
theorem sum_over (x : BitVec 32) (A : Option Addr) (n c : Nat) (l : List UInt8) (w : World) (hr : Rd w A n c l) :
    Calls Try.prog 66 #[.int .u32 x.toNat, .slice A n c] w fun e w' => e = .returned (.int .u32 (ov x l).toNat) ∧ Below w.heap.size w w' := by
  have hm := hr.max
  have HR := Lib.hid hr
  clear hr
  go_enter Try.func66, Try.ntmps66
  go_wp2_with fail
  refine (sum_halves w).mono ?_
  rintro e w1 ⟨rfl, hb1⟩
  have ht : (w1.alloc (.cells (tabV 0) 84)).there w1.heap.size 0 (tabV 16).size := by
    have := there_of_row (heap_alloc_new w1 (.cells (tabV 0) 84))
    rwa [tabV_size] at this ⊢
  have hW : ∃ W, W = (w1.alloc (.cells (tabV 0) 84)).setCells w1.heap.size 0 (tabV 16).toList := ⟨_, rfl⟩
  obtain ⟨W, hW⟩ := hW
  have hbW : Below w.heap.size w W := by rw [hW]; exact below_setCells hb1.size _ _ (hb1.alloc hb1.size _)
  have htab : W.heap[w1.heap.size]? = some (.cells (tabV 16) 84 (0, 0)) := by
    rw [hW, heap_setCells_at _ _ _ _ _ _ (heap_alloc_new _ _), splc_all _ _ (by rw [Array.length_toList, tabV_size, tabV_size])]
  have HW := Lib.hid hW
  clear hW
  have HRW := Lib.hid (HR.out.ext hbW)
  have HB := Lib.hid hbW
  have HT := Lib.hid htab
  have Hth := Lib.hid ht
  clear hbW htab ht
  go_wp2_with (first | (refine wpList_store_mid rfl _ _ _ rfl w1.heap.size 0 (tabV 16) rfl rfl Hth.out (by rw [tabV_size]; kernel_rfl) (tabV_one 16) ?_; rw [← tab0_lit, ← HW.out]))
  go_loop [0, 7, 11] (fun v _ i => ∃ k : Nat, k ≤ n ∧ v = .int .u32 (ov x (l.take k)).toNat ∧ i = .int .i64 k) (fun _ _ i => n - (intOf i).toNat)
  case atStart => exact ⟨0, by omega, rfl, rfl⟩
  case round =>
    obtain ⟨k, hk, rfl, rfl⟩ := hrel
    by_cases hlt : k < n
    · obtain ⟨b, o, rfl, hc⟩ := HRW.out.at_ (by omega)
      have hcell := hc k hlt
      clear hc
      have h8 := (l.getD k 0).toNat_lt
      have HS := Lib.hid (take_snoc l k 0 (by rw [HR.out.len]; exact hlt))
      generalize l.getD k 0 = cc at *
      obtain ⟨y, hy⟩ : ∃ y, y = ov x (l.take k) := ⟨_, rfl⟩
      obtain ⟨x1, hx1⟩ : ∃ x1, x1 = y ^^^ BitVec.ofNat 32 cc.toNat := ⟨_, rfl⟩
      obtain ⟨x2, hx2⟩ : ∃ x2, x2 = Tn 4 x1 := ⟨_, rfl⟩
      obtain ⟨x3, hx3⟩ : ∃ x3, x3 = Tn 4 x2 := ⟨_, rfl⟩
      have r1 := xor_byte y cc
      have r2 := nib_and x1
      have r3 := cell_of_row W w1.heap.size (x1.toNat % 16) _ _ _ HT.out
      rw [tabV_get 16 _ (Nat.mod_lt _ (by decide)), if_pos (Nat.mod_lt _ (by decide))] at r3
      have r4 := nib_xor x1
      have r5 := nib_and x2
      have r6 := cell_of_row W w1.heap.size (x2.toNat % 16) _ _ _ HT.out
      rw [tabV_get 16 _ (Nat.mod_lt _ (by decide)), if_pos (Nat.mod_lt _ (by decide))] at r6
      have r7 := nib_xor x2
      have g1 : x1.toNat % 16 < 16 := Nat.mod_lt _ (by decide)
      have g2 : x2.toNat % 16 < 16 := Nat.mod_lt _ (by decide)
      have l1 := x1.isLt
      have l2 := x2.isLt
      rw [← hx1] at r1
      rw [← hx2] at r4
      rw [← hx3] at r7
      rw [← hy]
      generalize x1.toNat % 16 = j1 at *
      generalize x2.toNat % 16 = j2 at *
      generalize Tn 4 (BitVec.ofNat 32 j1) = t1 at *
      generalize Tn 4 (BitVec.ofNat 32 j2) = t2 at *
      have HY := Lib.hid hy
      have HX1 := Lib.hid hx1
      have HX2 := Lib.hid hx2
      have HX3 := Lib.hid hx3
      clear hy hx1 hx2 hx3
      go_wp2
      refine ⟨⟨k + 1, by omega, iv (by rw [HS.out, ov_snoc, ← HY.out, ← by1_two, ← HX1.out, ← HX2.out, ← HX3.out]), by go_num⟩, by simp [intOf]; omega⟩
    · go_wp2
      go_ret
      exact ⟨ret_u32 (by rw [List.take_of_length_le (by rw [HR.out.len]; omega)]), HB.out⟩
end Go.Proofs.Ytlandlgjhnnaiaa
