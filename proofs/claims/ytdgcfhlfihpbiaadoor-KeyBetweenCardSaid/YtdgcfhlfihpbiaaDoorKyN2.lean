/- The walks of Number and Unnumber, the program's and the reference's. -/
import Derived.Test.YtdgcfhlfihpbiaaDoorKyN
import Derived.IntWalk
import Derived.Test.YtdgcfhlfihpbiaaDoorKy3
set_option linter.unusedVariables false
set_option linter.unusedSimpArgs false
set_option maxRecDepth 100000
namespace Go.Proofs.YtdgcfhlfihpbiaaDoor
open Go.RowKit
def NbPost (n : Int) (w : World) (e : Ending) (w' : World) : Prop := e = .returned (.tuple #[.string (nbA n).1, .int .i64 (nbA n).2]) ∧ Below w.heap.size w w'
theorem mk8 (W : World) : (Instr.makeSlice 42 (.int .i64 8) (.int .i64 8)).run Tryd.prog W = .ok (.slice (some ⟨W.heap.size, 0, none⟩) 8 8) (W.alloc (.cells (zc 8) 5)) := mk_u8 8 8 (by omega) (by omega) W
theorem or8 (N c : Nat) (hc : c < 256) (h : N * 256 + c < 9223372036854775808) : bits .or .i64 ((N : Int) * 256) (c : Int) = ((N * 256 + c : Nat) : Int) := by
  show IntKind.i64.wrap ((BitVec.ofInt 64 ((N : Int) * 256) ||| BitVec.ofInt 64 (c : Int)).toNat : Nat) = _
  rw [BitVec.toNat_or, BitVec.toNat_ofInt, BitVec.toNat_ofInt]
  have e1 : (((N : Int) * 256) % ((2 ^ 64 : Nat) : Int)).toNat = N * 2 ^ 8 := by omega
  have e2 : ((c : Int) % ((2 ^ 64 : Nat) : Int)).toNat = c := by omega
  rw [e1, e2, Nat.mul_comm, ← Nat.two_pow_add_eq_or_of_lt (show c < 2 ^ 8 by omega)]
  rw [show ((2 ^ 8 * N + c : Nat) : Int) = ((N * 256 + c : Nat) : Int) by omega]
  exact IntWalk.i64_in _ (by omega)
theorem Own.storeI {W : World} {base n g cap : Nat} {l : List UInt8} (h : Own W base (.slice (some ⟨g, 0, none⟩) n cap) n l) (j q : Nat) (v : Int) (hv : v = (q : Int) % 256) : Own (W.setCell ⟨g, j, none⟩ (.int .u8 v)) base (.slice (some ⟨g, 0, none⟩) n cap) n (l.set j (UInt8.ofNat q)) := by
  rw [hv, ← ofNat_int]
  exact h.store j _
set_option maxHeartbeats 2000000 in
theorem ky_Number (n : Int) (hn1 : -9223372036854775808 ≤ n) (hn2 : n ≤ 9223372036854775807) (w : World) : Calls Tryd.prog 30 #[.int .i64 n] w (NbPost n w) := by
  by_cases h : n < 0
  · have HA := Lib.hid (show nbA n = (⟨#[]⟩, 1) from if_pos h)
    go_enter Tryd.func30, Tryd.ntmps30
    go_wp2
    go_ret2
    exact ⟨by rw [HA.out]; rfl, Below.refl _ _⟩
  · obtain ⟨m, rfl⟩ : ∃ m : Nat, n = m := ⟨n.toNat, by omega⟩
    have HA := Lib.hid (show nbA (m : Int) = (bstr (beN 8 m), 0) by unfold nbA; rw [if_neg h, Int.toNat_natCast])
    have hmk := mk8
    go_enter Tryd.func30, Tryd.ntmps30
    go_wp2_with fail
    clear hmk
    go_loopw [5, 11] (fun _ x wx => ∃ k : Nat, k ≤ 8 ∧ x = .int .i64 k ∧ Own wx w.heap.size (.slice (some ⟨w.heap.size, 0, none⟩) 8 8) 8 (zs k m) ∧ Below w.heap.size w wx) (fun _ x _ => 8 - (intOf x).toNat)
    case atStart => exact ⟨0, by omega, rfl, Own.made8 w _ (Nat.le_refl _), (Below.refl _ w).alloc (Nat.le_refl _) _⟩
    case round =>
      obtain ⟨k, hk, rfl, hO, hB⟩ := hrel
      have HO := Lib.hid hO
      have HB := Lib.hid hB
      have HZ := Lib.hid (fun hk => zs_step m k hk)
      by_cases hk8 : k < 8
      · have hcell := hO.cell k hk8
        have hfree := hO.free k
        clear hO hB
        obtain ⟨k2, hk2⟩ : ∃ k2, k2 = k + 1 := ⟨_, rfl⟩
        have HK2 := Lib.hid hk2
        rw [← hk2] at HZ
        clear hk2
        generalize (zs k m).getD k 0 = y at *
        rcases (by omega : k = 0 ∨ k = 1 ∨ k = 2 ∨ k = 3 ∨ k = 4 ∨ k = 5 ∨ k = 6 ∨ k = 7) with rfl | rfl | rfl | rfl | rfl | rfl | rfl | rfl
        all_goals (
          go_wp2
          exact ⟨⟨k2, by rw [HK2.out]; decide, by rw [HK2.out]; rfl, by rw [HZ.out hk8]; exact HO.out.storeI _ _ _ (by simp only [Nat.reduceSub, Nat.reducePow]; omega), HB.out.setCell (by simp) _⟩, by simp [intOf]⟩)
      · obtain rfl : k = 8 := by omega
        obtain ⟨A4, c4, he, hR4⟩ := hO.rd (by omega)
        injection he with he1 he2 he3
        subst he1 he3
        rw [zs_end] at hR4
        have hstr := hR4.str
        obtain ⟨sm, hsm⟩ : ∃ sm, sm = bstr (beN 8 m) := ⟨_, rfl⟩
        rw [← hsm] at hstr HA
        clear hO hB hR4 hsm
        go_wp2
        go_ret2
        exact ⟨by rw [HA.out]; rfl, HB.out⟩
def UnPost (s : ByteArray) (w : World) (e : Ending) (w' : World) : Prop := e = .returned (.tuple #[.int .i64 (unA s).1, .int .i64 (unA s).2]) ∧ w' = w
theorem un_step (s : ByteArray) (j : Nat) (h : j < s.size) : unB (s.data.toList.take (j + 1)) = unB (s.data.toList.take j) * 256 + (s[j]'h).toNat := by
  have h1 := str_len s
  rw [take_snoc s.data.toList j 0 (by rw [h1]; exact h), unB_snoc, bget s j h]
theorem un_small (s : ByteArray) (h8 : s.size = 8) (h0 : (s.data.toList.getD 0 0).toNat ≤ 127) : ∀ j, j ≤ 8 → unB (s.data.toList.take j) < 128 * 256 ^ (j - 1) := by
  have hl := str_len s
  match hs : s.data.toList with
  | [] => rw [hs] at hl; simp at hl; omega
  | c :: r =>
    rw [hs] at h0 hl
    intro j hj
    cases j with
    | zero => simp [unB]
    | succ j =>
      rw [List.take_succ_cons, unB]
      have h1 := unB_lt (r.take j)
      have h2 : (r.take j).length = j := by simp at hl ⊢; omega
      rw [h2] at h1 ⊢
      have h3 : c.toNat ≤ 127 := h0
      have h4 : c.toNat * 256 ^ j ≤ 127 * 256 ^ j := Nat.mul_le_mul_right _ h3
      simp only [Nat.add_sub_cancel]
      omega
set_option maxHeartbeats 2000000 in
theorem ky_Unnumber (s : ByteArray) (w : World) (hsz : s.size ≤ 140737488355328) : Calls Tryd.prog 31 #[.string s] w (UnPost s w) := by
  by_cases h8 : s.size = 8
  · have hg0 := bget s 0 (by omega)
    by_cases h0 : 127 < (s.data.toList.getD 0 0).toNat
    · have HA := Lib.hid (show unA s = (0, 2) from if_pos (.inr h0))
      obtain ⟨c0, hc0⟩ : ∃ c0, c0 = s[0] := ⟨_, rfl⟩
      have h1 : (127 : Int) < ((s[0]'(by omega)).toNat : Int) := by rw [hg0]; omega
      clear hg0 h0 hc0
      go_enter Tryd.func31, Tryd.ntmps31
      go_wp2
      go_ret2
      exact ⟨by rw [HA.out]; rfl, rfl⟩
    · have HA := Lib.hid (show unA s = (((unB s.data.toList : Nat) : Int), 0) from if_neg (by omega))
      have h1 : ¬ (127 : Int) < ((s[0]'(by omega)).toNat : Int) := by rw [hg0]; omega
      have HS := Lib.hid (fun j hj => un_step s j hj)
      have HB := Lib.hid (un_small s h8 (by omega))
      have hT : s.data.toList.take 8 = s.data.toList := List.take_of_length_le (by rw [str_len]; omega)
      have HT := Lib.hid hT
      clear hg0 h0 hT
      go_enter Tryd.func31, Tryd.ntmps31
      go_wp2_with fail
      go_loop [4, 5, 14] (fun v _ x => ∃ k N : Nat, k ≤ 8 ∧ x = .int .i64 k ∧ v = .int .i64 N ∧ N = unB (s.data.toList.take k)) (fun _ _ x => 8 - (intOf x).toNat)
      case atStart => exact ⟨0, 0, by omega, rfl, rfl, rfl⟩
      case round =>
        obtain ⟨k, N, hk, rfl, rfl, hN⟩ := hrel
        have HN := Lib.hid hN
        have hb := HB.out k hk
        rw [← hN] at hb
        clear hN
        by_cases hk8 : k < 8
        · have hks : k < s.size := by omega
          have hst := HS.out k hks
          rw [← HN.out] at hst
          have hb2 := HB.out (k + 1) hk8
          rw [hst] at hb2
          obtain ⟨c, hc⟩ : ∃ c, c = s[k] := ⟨_, rfl⟩
          rw [← hc] at hst hb2
          have HST := Lib.hid hst
          have hcl := c.toNat_lt
          have hbb : N * 256 + c.toNat < 9223372036854775808 := by
            refine Nat.lt_of_lt_of_le hb2 ?_
            rcases (by omega : k = 0 ∨ k = 1 ∨ k = 2 ∨ k = 3 ∨ k = 4 ∨ k = 5 ∨ k = 6 ∨ k = 7) with rfl | rfl | rfl | rfl | rfl | rfl | rfl | rfl <;> decide
          have hor := or8 N c.toNat (by omega) hbb
          clear hst hb2 hb
          have HW := Lib.hid (show wrap64 ((s[k].toNat : Nat) : Int) = (c.toNat : Int) by rw [← hc]; unfold wrap64; omega)
          have HOR := Lib.hid hor
          clear hor
          go_wp2
          exact ⟨⟨k + 1, N * 256 + c.toNat, by omega, by go_num, by rw [HW.out, HOR.out], HST.out.symm⟩, by simp [intOf]; omega⟩
        · obtain rfl : k = 8 := by omega
          rw [HT.out] at HN
          go_wp2
          go_ret2
          exact ⟨by rw [HA.out, ← HN.out]; rfl, rfl⟩
  · have HA := Lib.hid (show unA s = (0, 2) from if_pos (.inl h8))
    have h1 : ((s.size : Int) == 8) = false := by simp; omega
    go_enter Tryd.func31, Tryd.ntmps31
    go_wp2
    go_ret2
    exact ⟨by rw [HA.out]; rfl, rfl⟩
set_option maxHeartbeats 2000000 in
theorem kr_Number (n : Int) (hn1 : -9223372036854775808 ≤ n) (hn2 : n ≤ 9223372036854775807) (w : World) : Calls Tryd.prog 33 #[.int .i64 n] w (NbPost n w) := by
  by_cases h : n < 0
  · have HA := Lib.hid (show nbA n = (⟨#[]⟩, 1) from if_pos h)
    go_enter Tryd.func33, Tryd.ntmps33
    go_wp2
    go_ret2
    exact ⟨by rw [HA.out]; rfl, Below.refl _ _⟩
  · obtain ⟨m, rfl⟩ : ∃ m : Nat, n = m := ⟨n.toNat, by omega⟩
    have HA := Lib.hid (show nbA (m : Int) = (bstr (beN 8 m), 0) by unfold nbA; rw [if_neg h, Int.toNat_natCast])
    have hmk := mk8
    go_enter Tryd.func33, Tryd.ntmps33
    go_wp2_with fail
    clear hmk
    go_loopw [0, 5] (fun v x wx => ∃ k : Nat, k ≤ 8 ∧ x = .int .i64 (7 - (k : Int)) ∧ v = .int .i64 ((m / 256 ^ k : Nat) : Int) ∧ Own wx w.heap.size (.slice (some ⟨w.heap.size, 0, none⟩) 8 8) 8 (zt k m) ∧ Below w.heap.size w wx) (fun _ x _ => (intOf x + 1).toNat)
    case atStart => exact ⟨0, by omega, rfl, by simp, Own.made8 w _ (Nat.le_refl _), (Below.refl _ w).alloc (Nat.le_refl _) _⟩
    case round =>
      obtain ⟨k, hk, rfl, rfl, hO, hB⟩ := hrel
      have HO := Lib.hid hO
      have HB := Lib.hid hB
      have HZ := Lib.hid (fun hk => zt_step m k hk)
      by_cases hk8 : k < 8
      · have hcell := hO.cell (7 - k) (by omega)
        have hfree := hO.free (7 - k)
        clear hO hB
        obtain ⟨k2, hk2⟩ : ∃ k2, k2 = k + 1 := ⟨_, rfl⟩
        have HK2 := Lib.hid hk2
        rw [← hk2] at HZ
        generalize (zt k m).getD (7 - k) 0 = y at *
        obtain ⟨q, hq⟩ : ∃ q, q = m / 256 ^ k := ⟨_, rfl⟩
        have hqm : q ≤ 9223372036854775807 := by
          have := Nat.div_le_self m (256 ^ k)
          omega
        have HQ := Lib.hid (show m / 256 ^ k2 = q / 256 by rw [hk2, Nat.pow_succ, ← Nat.div_div_eq_div_mul, hq])
        rw [← hq] at HZ ⊢
        clear hk2 hq
        rcases (by omega : k = 0 ∨ k = 1 ∨ k = 2 ∨ k = 3 ∨ k = 4 ∨ k = 5 ∨ k = 6 ∨ k = 7) with rfl | rfl | rfl | rfl | rfl | rfl | rfl | rfl
        all_goals (
          go_wp2
          exact ⟨⟨k2, by rw [HK2.out]; decide, by rw [HK2.out]; rfl, by rw [HQ.out]; go_num, by rw [HZ.out hk8]; exact HO.out.storeI _ _ _ (by first | rfl | omega), HB.out.setCell (by simp) _⟩, by simp [intOf]⟩)
      · obtain rfl : k = 8 := by omega
        obtain ⟨A4, c4, he, hR4⟩ := hO.rd (by omega)
        injection he with he1 he2 he3
        subst he1 he3
        rw [zt_end] at hR4
        have hstr := hR4.str
        obtain ⟨sm, hsm⟩ : ∃ sm, sm = bstr (beN 8 m) := ⟨_, rfl⟩
        rw [← hsm] at hstr HA
        clear hO hB hR4 hsm
        go_wp2
        go_ret2
        exact ⟨by rw [HA.out]; rfl, HB.out⟩
set_option maxHeartbeats 2000000 in
theorem kr_Unnumber (s : ByteArray) (w : World) (hsz : s.size ≤ 140737488355328) : Calls Tryd.prog 34 #[.string s] w (UnPost s w) := by
  by_cases h8 : s.size = 8
  · have hg0 := bget s 0 (by omega)
    by_cases h0 : 127 < (s.data.toList.getD 0 0).toNat
    · have HA := Lib.hid (show unA s = (0, 2) from if_pos (.inr h0))
      obtain ⟨c0, hc0⟩ : ∃ c0, c0 = s[0] := ⟨_, rfl⟩
      have h1 : (127 : Int) < ((s[0]'(by omega)).toNat : Int) := by rw [hg0]; omega
      clear hg0 h0 hc0
      go_enter Tryd.func34, Tryd.ntmps34
      go_wp2
      go_ret2
      exact ⟨by rw [HA.out]; rfl, rfl⟩
    · have HA := Lib.hid (show unA s = (((unB s.data.toList : Nat) : Int), 0) from if_neg (by omega))
      have h1 : ¬ (127 : Int) < ((s[0]'(by omega)).toNat : Int) := by rw [hg0]; omega
      have HS := Lib.hid (fun j hj => un_step s j hj)
      have HB := Lib.hid (un_small s h8 (by omega))
      have hT : s.data.toList.take 8 = s.data.toList := List.take_of_length_le (by rw [str_len]; omega)
      have HT := Lib.hid hT
      clear hg0 h0 hT
      go_enter Tryd.func34, Tryd.ntmps34
      go_wp2_with fail
      go_loop [4, 5] (fun v x => ∃ k N : Nat, k ≤ 8 ∧ x = .int .i64 k ∧ v = .int .i64 N ∧ N = unB (s.data.toList.take k)) (fun _ x => 8 - (intOf x).toNat)
      case atStart => exact ⟨0, 0, by omega, rfl, rfl, rfl⟩
      case round =>
        obtain ⟨k, N, hk, rfl, rfl, hN⟩ := hrel
        have HN := Lib.hid hN
        have hb := HB.out k hk
        rw [← hN] at hb
        clear hN
        by_cases hk8 : k < 8
        · have hks : k < s.size := by omega
          have hst := HS.out k hks
          rw [← HN.out] at hst
          have hb2 := HB.out (k + 1) hk8
          rw [hst] at hb2
          obtain ⟨c, hc⟩ : ∃ c, c = s[k] := ⟨_, rfl⟩
          rw [← hc] at hst hb2
          have HST := Lib.hid hst
          have hcl := c.toNat_lt
          have hbb : N * 256 + c.toNat < 9223372036854775808 := by
            refine Nat.lt_of_lt_of_le hb2 ?_
            rcases (by omega : k = 0 ∨ k = 1 ∨ k = 2 ∨ k = 3 ∨ k = 4 ∨ k = 5 ∨ k = 6 ∨ k = 7) with rfl | rfl | rfl | rfl | rfl | rfl | rfl | rfl <;> decide
          clear hst hb2 hb
          have HW := Lib.hid (show wrap64 ((s[k].toNat : Nat) : Int) = (c.toNat : Int) by rw [← hc]; unfold wrap64; omega)
          have HW2 := Lib.hid (show wrap64 ((N : Int) * 256 + (c.toNat : Int)) = ((N * 256 + c.toNat : Nat) : Int) by unfold wrap64; omega)
          go_wp2
          refine ⟨⟨k + 1, N * 256 + c.toNat, by omega, by go_num, ?_, HST.out.symm⟩, by simp [intOf]; omega⟩
          rw [HW.out, HW2.out]
        · obtain rfl : k = 8 := by omega
          rw [HT.out] at HN
          go_wp2
          go_ret2
          exact ⟨by rw [HA.out, ← HN.out]; rfl, rfl⟩
  · have HA := Lib.hid (show unA s = (0, 2) from if_pos (.inl h8))
    have h1 : ((s.size : Int) == 8) = false := by simp; omega
    go_enter Tryd.func34, Tryd.ntmps34
    go_wp2
    go_ret2
    exact ⟨by rw [HA.out]; rfl, rfl⟩
end Go.Proofs.YtdgcfhlfihpbiaaDoor
