/- The walk of PackCounts. -/
import Derived.Test.YtclafljkeaekfaaPk8
set_option linter.unusedVariables false
set_option linter.unusedSimpArgs false
set_option maxRecDepth 100000
namespace Go.Proofs.Ytclafljkeaekfaa
open Go.RowKit
theorem RdV.lit1 (w : World) (x : ValV) (hx : x.ok) : RdV (w.alloc (.cells #[.int .i64 x.kind, .int .u64 x.u, .int .i64 x.i, .string x.s] 27)) (some ⟨w.heap.size, 0, none⟩) 1 1 [x] :=
  ⟨rfl, Nat.le_refl _, by omega, fun y hy => by simp at hy; subst hy; exact hx, fun _ => ⟨_, _, rfl, fun j hj => by
    obtain rfl : j = 0 := by omega
    simp only [cell_of_row _ _ _ _ _ _ (heap_alloc_new w _)]
    exact ⟨rfl, rfl, rfl, rfl⟩⟩⟩
theorem wrn_one (x : ValV) (h5 : x.kind ≠ 5) (hl : (form x).length ≤ 1048576) : wrn 1048576 [x] 1 = (form x, 0) := by
  have hp : preE 0 x = 0 := if_neg h5
  have := lay_fits (lim := 1048576) (L := []) (F := form x) (by simpa using hl)
  show (stL 1048576 [] 0 x, stE 1048576 [] 0 x) = _
  unfold stL stE
  rw [hp, this.1, this.2]
  rfl
set_option maxHeartbeats 1000000 in
theorem walk_PackCounts (x : Int) (i : Int) (s : ByteArray) (w : World) (hx : 0 ≤ x ∧ x < 18446744073709551616) (hi : -9223372036854775808 ≤ i ∧ i < 9223372036854775808) (hs : s.size ≤ 140737488351232) :
    Calls Try.prog 4 #[.int .u64 x, .int .i64 i, .string s] w fun e w' => e = .returned (.bool true) ∧ Below w.heap.size w w' := by
  obtain ⟨v, rfl⟩ := Int.eq_ofNat_of_zero_le hx.1
  have HV := Lib.hid (show v < 2 ^ 64 by omega)
  have hlv := nf_length_le v
  have hpv := nf_length_pos v
  clear hx
  go_enter Try.func4, Try.ntmps4
  go_wp2_with fail
  refine (l2_fixed w).mono ?_
  rintro e w1 ⟨rfl, hB1⟩
  have HB1 := Lib.hid hB1
  clear hB1
  go_wp2_with fail
  have hR := RdV.lit1 w1 ⟨0, v, 0, ⟨#[]⟩⟩ ⟨HV.out, ⟨by simp, by simp⟩, by simp [ByteArray.size]⟩
  have hW1 := wrn_one ⟨0, v, 0, ⟨#[]⟩⟩ (by simp) (by show (nf v).length ≤ 1048576; omega)
  have hB2 : Below w.heap.size w (w1.alloc (.cells #[.int .i64 0, .int .u64 v, .int .i64 0, .string ⟨#[]⟩] 27)) := HB1.out.alloc HB1.out.size _
  refine (l2_written _ 1 1 _ _ hR).mono ?_
  rintro e w2 ⟨hP, -, hB⟩
  rw [hW1] at hP
  obtain ⟨u, rfl, hO⟩ := hP rfl
  have hO : Own w2 _ u (nf v).length (nf v) := hO
  obtain ⟨A2, c2, rfl, hR2⟩ := hO.rd (by omega)
  have HR2 := Lib.hid hR2
  have HB2 := Lib.hid (hB2.trans (hB.mono hB2.size))
  obtain ⟨n, hn⟩ : ∃ n, n = (nf v).length := ⟨_, rfl⟩
  rw [← hn] at HR2 hlv hpv ⊢
  have HN := Lib.hid hn
  clear hR hW1 hB2 hP hB hO hR2 hn
  go_wp2_with fail
  refine (l2_counts v HV.out A2 n c2 HN.out w2 HR2.out).mono ?_
  rintro e w3 ⟨rfl, rfl⟩
  have hn1 : ¬ (n : Int) < 1 := by omega
  have hn2 : ¬ (10 : Int) < (n : Int) := by omega
  obtain ⟨z, hz⟩ : ∃ z, z = zz i := ⟨_, rfl⟩
  have hzlt := zz_lt i hi.1 hi.2
  rw [← hz] at hzlt
  have HZ := Lib.hid hz
  have hlz := nf_length_le z
  have htw : ∃ t : Nat, IntKind.u64.wrap (IntKind.u64.wrap i * 2) = (t : Int) ∧ t < 18446744073709551616 ∧ ((0 ≤ i ∧ t = z) ∨ (i < 0 ∧ t = 18446744073709551615 - z)) := by
    refine ⟨(IntKind.u64.wrap (IntKind.u64.wrap i * 2)).toNat, ?_, ?_, ?_⟩
    · rw [u64_wrap, u64_wrap]; omega
    · rw [u64_wrap, u64_wrap]; omega
    · rw [u64_wrap, u64_wrap, hz]
      unfold zz
      by_cases h : 0 ≤ i
      · rw [if_pos h]; left; omega
      · rw [if_neg h]; right; omega
  obtain ⟨t, htw, htlt, htc⟩ := htw
  clear hz
  have hxor := u64_notx t htlt
  have hcase : (0 ≤ i ∧ t = z ∧ i * 2 = (z : Int)) ∨ (i < 0 ∧ bits .xor .u64 IntKind.u64.max (t : Int) = (z : Int)) := by
    rcases htc with h | ⟨h, h2⟩
    · refine .inl ⟨h.1, h.2, ?_⟩
      have := HZ.out
      unfold zz at this
      rw [if_pos h.1] at this
      omega
    · exact .inr ⟨h, by rw [hxor]; omega⟩
  clear hxor htc htlt
  rcases hcase with ⟨hneg, rfl, hxz⟩ | ⟨hneg, hxz⟩
  all_goals (
    go_wp2_with fail
    have hR := RdV.lit1 w3 ⟨1, 0, i, ⟨#[]⟩⟩ ⟨by simp, hi, by simp [ByteArray.size]⟩
    have hW1 := wrn_one ⟨1, 0, i, ⟨#[]⟩⟩ (by simp) (by show (nf (zz i)).length ≤ 1048576; have := nf_length_le (zz i); omega)
    have hB3 := HB2.out.alloc HB2.out.size (.cells #[.int .i64 1, .int .u64 0, .int .i64 i, .string ⟨#[]⟩] 27)
    refine (l2_written _ 1 1 _ _ hR).mono ?_
    rintro e w4 ⟨hP, -, hB⟩
    rw [hW1] at hP
    obtain ⟨u4, rfl, hO⟩ := hP rfl
    have hO : Own w4 _ u4 (nf (zz i)).length (nf (zz i)) := hO
    rw [← HZ.out] at hO
    obtain ⟨A4, c4, rfl, hR4⟩ := hO.rd (by omega)
    have HR4 := Lib.hid hR4
    have HB4 := Lib.hid (hB3.trans (hB.mono hB3.size))
    obtain ⟨n4, hn4⟩ : ∃ n4, n4 = (nf (zz i)).length := ⟨_, rfl⟩
    rw [← HZ.out] at hn4
    rw [← hn4] at HR4 ⊢
    have HN4 := Lib.hid hn4
    have HZL := Lib.hid hzlt
    clear hR hW1 hB3 hP hB hO hR4 hn4
    go_wp2_with fail
    refine (l2_counts _ HZL.out A4 n4 c4 HN4.out w4 HR4.out).mono ?_
    rintro e w5 ⟨rfl, rfl⟩
    by_cases hbig : (1048566 : Int) < (s.size : Int)
    · go_wp2
      go_ret
      exact ⟨by simp, HB4.out⟩
    · obtain ⟨q, hq⟩ : ∃ q, q = (nf s.size).length := ⟨_, rfl⟩
      have hq10 := nf_length_le s.size
      have hq1 := nf_length_pos s.size
      rw [← hq] at hq10 hq1
      obtain ⟨dn, hdn⟩ : ∃ dn, dn = q + s.size := ⟨_, rfl⟩
      have hsub : (dn : Int) - (s.size : Int) = (q : Int) := by omega
      have hdb : dn ≤ 1048576 := by omega
      have hqd : q ≤ dn := by omega
      have hq1i : (1 : Int) ≤ (q : Int) := by omega
      have hss : IntKind.u64.wrap (s.size : Int) = (s.size : Int) := IntWalk.u64_in _ (by omega)
      have HQ := Lib.hid hq
      have HDN := Lib.hid hdn
      have hfl : (form ⟨4, 0, 0, s⟩).length = dn := by
        show (nf s.size ++ s.data.toList).length = dn
        rw [List.length_append, str_len, ← hq, hdn]
      clear hq hdn
      go_wp2_with fail
      have hR := RdV.lit1 w5 ⟨4, 0, 0, s⟩ ⟨by simp, ⟨by simp, by simp⟩, by show s.size ≤ _; omega⟩
      have hW1 := wrn_one ⟨4, 0, 0, s⟩ (by simp) (by rw [hfl]; exact hdb)
      have hB3 := HB4.out.alloc HB4.out.size (.cells #[.int .i64 4, .int .u64 0, .int .i64 0, .string s] 27)
      refine (l2_written _ 1 1 _ _ hR).mono ?_
      rintro e w6 ⟨hP, -, hB⟩
      rw [hW1] at hP
      obtain ⟨u6, rfl, hO⟩ := hP rfl
      have hO : Own w6 _ u6 (form ⟨4, 0, 0, s⟩).length (nf s.size ++ s.data.toList) := hO
      rw [hfl] at hO
      obtain ⟨A6, c6, rfl, hR6⟩ := hO.rd (by omega)
      have hcap6 := hR6.cap
      have HR6 := Lib.hid hR6
      have HB6 := Lib.hid (hB3.trans (hB.mono hB3.size))
      obtain ⟨A7, ecut, hcut⟩ := cut_from A6 dn c6 q hqd
      have hstr := (hcut _ _ hR6).str
      have HT := Lib.hid (show Rd w6 A6 q c6 (nf s.size) from by
        have h1 := hR6.take q hqd
        rw [HQ.out, List.take_left'] at h1
        · rw [HQ.out]; exact h1
        · rfl)
      have hds : bstr ((nf s.size ++ s.data.toList).drop q) = s := by
        rw [HQ.out, List.drop_left']
        · exact bstr_eq s
        · rfl
      rw [hds] at hstr
      have hqc : q ≤ c6 := by omega
      clear hR hW1 hB3 hP hB hO hR6 hcut hds hfl
      go_wp2_with fail
      refine (l2_counts _ (by omega) A6 q c6 HQ.out w6 HT.out).mono ?_
      rintro e w7 ⟨rfl, rfl⟩
      go_wp2
      go_ret
      exact ⟨by simp, HB6.out⟩)
end Go.Proofs.Ytclafljkeaekfaa
