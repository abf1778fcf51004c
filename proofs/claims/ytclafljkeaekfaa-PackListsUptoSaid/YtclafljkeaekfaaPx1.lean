/- Walks of the reference's writer. -/
import Derived.Test.YtclafljkeaekfaaPkX
set_option linter.unusedVariables false
set_option linter.unusedSimpArgs false
namespace Go.Proofs.Ytclafljkeaekfaa
open Go.RowKit
theorem Own.sep {w : World} {base n c : Nat} {A : Option Addr} {l : List UInt8} (h : Own w base (.slice A n c) n l) : ∀ p, A = some p → base ≤ p.block := by
  intro p hp
  rcases h.2 with ⟨h1, _⟩ | ⟨g, cap, cur, h1, hb, _⟩
  · injection h1 with h1 _ _
    rw [hp] at h1; simp at h1
  · injection h1 with h1 _ _
    rw [hp] at h1
    injection h1 with h1
    rw [h1]; exact hb
theorem IsX.sep {w : World} {b base lim : Nat} {L : List UInt8} {v : Value} {e : Int} (h : IsX w b base lim L v e) {k : Nat} (hk : w.heap.size ≤ k) : k ∉ b :: v.ownBlock.toList := by
  intro hm
  have h1 := h.lt
  have h2 := h.le
  rcases List.mem_cons.1 hm with rfl | hm
  · omega
  · have := (h.own.blk k (by simpa using hm)).2; omega
theorem mod_add128 (y : Nat) : ((y : Int) % 128 + 128) = (((UInt8.ofNat (y % 128 + 128)).toNat : Nat) : Int) := by
  rw [ofNat_toNat _ (by omega)]; omega
set_option maxRecDepth 100000 in
theorem px_Form (v : Nat) (hv : v < 2 ^ 64) (w : World) :
    Calls Try.prog 77 #[.int .u64 v] w fun e w' => ∃ u, e = .returned u ∧ Own w' w.heap.size u (nf v).length (nf v) ∧ Below w.heap.size w w' := by
  have HV := Lib.hid hv
  clear hv
  go_enter Try.func77, Try.ntmps77
  go_wp2_with fail
  go_loopw [0, 3] (fun x s wr => ∃ k y : Nat, ∃ Lk : List UInt8, k ≤ 9 ∧ x = .int .u64 y ∧ y * 128 ^ k < 2 ^ 64 ∧ Own wr w.heap.size s Lk.length Lk ∧ nf v = Lk ++ nfF (10 - k) y ∧ Lk.length = k ∧ Below w.heap.size w wr) (fun x _ _ => (intOf x).toNat)
  case atStart => exact ⟨0, v, [], by omega, rfl, by simpa using HV.out, Own.nil _ _, rfl, rfl, Below.refl _ _⟩
  case round =>
    obtain ⟨k, y, Lk, hk, rfl, hy, hO, hN, hL, hB⟩ := hrel
    have HO := Lib.hid hO
    have HN := Lib.hid hN
    have HB := Lib.hid hB
    have HY := Lib.hid hy
    have hy2 : (y : Int) < 18446744073709551616 := by
      have h1 : y * 1 ≤ y * 128 ^ k := Nat.mul_le_mul_left _ (Nat.pow_pos (by omega))
      omega
    clear hO hN hB hy
    have hLk : Lk.length ≤ 9 := by omega
    have HL := Lib.hid hL
    have hz := HB.out.size
    clear hL
    by_cases hc : 128 ≤ y
    · have hc2 : (128 : Int) ≤ (y : Int) := by omega
      have hor := mod_add128 y
      have HT := Lib.hid (show k < 9 by
        rcases Nat.lt_or_ge k 9 with h | h
        · exact h
        · exfalso
          obtain rfl : k = 9 := by omega
          have h1 : 128 * 128 ^ 9 ≤ y * 128 ^ 9 := Nat.mul_le_mul_right _ hc
          have h2 := HY.out
          have h3 : (2 : Nat) ^ 64 < 128 * 128 ^ 9 := by decide
          omega)
      obtain ⟨cc, hcc⟩ : ∃ cc, cc = UInt8.ofNat (y % 128 + 128) := ⟨_, rfl⟩
      rw [← hcc] at hor
      have HC := Lib.hid hcc
      clear hcc
      go_wp2_with (at_builtin; refine wp_appB w.heap.size (HO.out.alloc _) (Rd.lit wr [cc] 1 rfl (by omega)) (by simp; omega) (by omega) _ _ rfl rfl rfl rfl ?_; intro v1 w1 hO1 hG1 hA1; have HO1 := Lib.hid hO1; have HG1 := Lib.hid hG1; clear hO1 hG1 hA1)
      go_roundw
      case rel =>
        refine ⟨k + 1, y / 128, Lk ++ [cc], by have := HT.out; omega, by go_num, ?_, by simpa using HO1.out, ?_, by simp [HL.out], (HB.out.alloc HB.out.size _).grown HG1.out (by simp; omega) (fun k hk => (HO.out.blk k hk).1)⟩
        · have h2 := HY.out
          rw [Nat.pow_succ, ← Nat.mul_assoc, Nat.mul_right_comm]
          exact Nat.lt_of_le_of_lt (Nat.mul_le_mul_right _ (Nat.div_mul_le_self y 128)) h2
        · rw [HN.out, show 10 - k = (10 - (k + 1)) + 1 by have := HT.out; omega, nfF_more _ _ hc, HC.out]
          simp
      case measure => simp [intOf]; omega
    · have hc2 : ¬ (128 : Int) ≤ (y : Int) := by omega
      obtain ⟨cc, rfl⟩ : ∃ cc : UInt8, y = cc.toNat := ⟨UInt8.ofNat y, (ofNat_toNat y (by omega)).symm⟩
      have HNF := Lib.hid (show nf v = Lk ++ [cc] by rw [HN.out, show 10 - k = (9 - k) + 1 by omega, nfF_last _ _ (by omega)]; simp)
      go_wp2_with (at_builtin; refine wp_appB w.heap.size (HO.out.alloc _) (Rd.lit wr [cc] 1 rfl (by omega)) (by simp; omega) (by omega) _ _ rfl rfl rfl rfl ?_; intro v1 w1 hO1 hG1 hA1; have HO1 := Lib.hid hO1; have HG1 := Lib.hid hG1; clear hO1 hG1 hA1)
      go_ret
      exact ⟨_, rfl, by rw [HNF.out]; simpa using HO1.out, (HB.out.alloc HB.out.size _).grown HG1.out (by simp; omega) (fun k hk => (HO.out.blk k hk).1)⟩
theorem px_Form' (v : Nat) (hv : v < 2 ^ 64) (w : World) :
    Calls Try.prog 77 #[.int .u64 v] w fun e w' => ∃ A c, e = .returned (.slice A (nf v).length c) ∧ Rd w' A (nf v).length c (nf v) ∧ (∀ p, A = some p → w.heap.size ≤ p.block) ∧ Below w.heap.size w w' := by
  refine (px_Form v hv w).mono ?_
  rintro e w' ⟨u, rfl, hO, hB⟩
  obtain ⟨A, c, rfl, hR⟩ := hO.rd (by have := nf_length_le v; omega)
  exact ⟨A, c, rfl, hR, hO.sep, hB⟩
theorem px_Signed (v : Int) (h1 : -9223372036854775808 ≤ v) (h2 : v < 9223372036854775808) (w : World) :
    Calls Try.prog 78 #[.int .i64 v] w fun e w' => e = .returned (.int .u64 (zz v)) ∧ w' = w := by
  by_cases h0 : 0 ≤ v
  · have HZ := Lib.hid (show v * 2 = ((zz v : Nat) : Int) by unfold zz; rw [if_pos h0]; omega)
    go_enter Try.func78, Try.ntmps78
    go_wp2
    go_ret
    rw [← HZ.out]
    exact ⟨congrArg (fun z => Ending.returned (.int .u64 z)) rfl, rfl⟩
  · have HZ := Lib.hid (show -(v + 1) * 2 + 1 = ((zz v : Nat) : Int) by unfold zz; rw [if_neg h0]; omega)
    have hm : -9223372036854775808 ≤ -(v + 1) ∧ 0 ≤ -(v + 1) := by omega
    go_enter Try.func78, Try.ntmps78
    go_wp2
    go_ret
    rw [← HZ.out]
    exact ⟨congrArg (fun z => Ending.returned (.int .u64 z)) rfl, rfl⟩

set_option maxRecDepth 100000 in
set_option maxHeartbeats 4000000 in
theorem px_lay (b base lim : Nat) (L : List UInt8) (v : Value) (e : Int) (A : Option Addr) (n c : Nat) (F : List UInt8) (w : World) (h : IsX w b base lim L v e) (hr : Rd w A n c F) (hs : ∀ p, A = some p → p.block ∉ b :: v.ownBlock.toList) :
    Calls Try.prog 76 #[.pointer (some ⟨b, 0, none⟩), .slice A n c] w fun e1 w' => e1 = .returned (.tuple #[]) ∧ XPost w b base lim v (layL lim L e F) (layE lim L e F) w' := by
  have c0 := h.c0
  have c1 := h.c1
  have c2 := h.c2
  have f2 := h.fz 2
  have hsm := h.small
  have hmo := h.most
  have hle := h.le
  have hmx := hr.max
  have HLEN := Lib.hid hr.len
  have HI := Lib.hid h
  have HR := Lib.hid hr
  obtain ⟨Aw, cw, rfl⟩ := h.slice
  obtain ⟨m, hm⟩ : ∃ m, m = L.length := ⟨_, rfl⟩
  rw [← hm] at c0 hsm
  have HM := Lib.hid hm
  have HS := Lib.hid hs
  clear h hr hm hs
  by_cases he : e = 0
  · subst he
    have hw1 : IntKind.i64.wrap ((m : Int) + (n : Int)) = (m : Int) + (n : Int) := IntWalk.i64_in _ (by omega)
    by_cases h1 : (lim : Int) < (m : Int) + (n : Int)
    · have d1 : decide ((lim : Int) < (m : Int) + (n : Int)) = true := decide_eq_true h1
      have HLL := Lib.hid (lay_long (lim := lim) (L := L) (F := F) (by rw [HLEN.out, ← HM.out]; omega))
      go_enter Try.func76, Try.ntmps76
      go_wp2_with fail
      go_quiet ((fail))
      clear hw1 d1
      go_wp2
      ((try simp only [Exit.inBlock, Exit.then]); refine bodyPost_ret (results_none rfl _ _ _) rfl ?_)
      refine ⟨by simp, ?_⟩
      rw [HLL.out.1, HLL.out.2]
      exact ⟨_, (HI.out.drew nq).setErr 23, ((Only.refl _ _).drewN nq).setCell (by simp) _, .inl rfl⟩
    · have d1 : decide ((lim : Int) < (m : Int) + (n : Int)) = false := decide_eq_false h1
      have HLL := Lib.hid (lay_fits (lim := lim) (L := L) (F := F) (by rw [HLEN.out, ← HM.out]; omega))
      have hfit : m + n ≤ 1048576 := by omega
      have hfit2 : m + n ≤ lim := by omega
      go_enter Try.func76, Try.ntmps76
      go_wp2_with fail
      go_quiet ((fail))
      clear hw1 d1
      go_wp2_with fail
      go_loopw [4] (fun x wx => ∃ i : Nat, i ≤ n ∧ x = .int .i64 i ∧ XPost w b base lim (.slice Aw m cw) (L ++ F.take i) 0 wx) (fun x _ => n - (intOf x).toNat)
      case atStart => exact ⟨0, by omega, rfl, _, by rw [HM.out]; simpa using HI.out.drew nq, (Only.refl _ _).drewN nq, .inl rfl⟩
      case round =>
        obtain ⟨i, hi, rfl, hP⟩ := hrel
        have HP := Lib.hid hP
        clear hP
        by_cases hin : i < n
        · obtain ⟨vx, hIx, hOx, hAx⟩ := HP.out
          have hRx := HR.out.keep hOx (by rw [HM.out]; exact HS.out)
          obtain ⟨bb, oo, rfl, hc⟩ := hRx.at_ (by omega)
          have hci := hc i hin
          obtain ⟨x, hx⟩ : ∃ x, x = F.getD i 0 := ⟨_, rfl⟩
          rw [← hx] at hci
          have HT := Lib.hid (show F.take (i + 1) = F.take i ++ [x] by rw [hx]; exact take_snoc F i 0 (by rw [HLEN.out]; exact hin))
          have hlx : (L ++ F.take i).length = m + i := by rw [List.length_append, List.length_take, HLEN.out, ← HM.out]; omega
          have hOw := hIx.own
          rw [hlx] at hOw
          obtain ⟨Ax, cx, rfl⟩ := hOw.slice
          have g0 := hIx.c0
          have g9 := hIx.fz 0
          have hbx := hIx.le
          have hblt := hIx.lt
          have hbw := lt_of_block hIx.st
          have HIx := Lib.hid hIx
          have HOx := Lib.hid hOx
          have HAx := Lib.hid hAx
          have HOw := Lib.hid hOw
          clear hc hx hRx hIx hOx hAx hOw hlx
          have hw3 : (0 : Int) ≤ (i : Int) := by omega
          go_wp2_with fail
          go_region_law (first | (refine step_appB (W := wr.drew.alloc (.cells #[.int .u8 (x.toNat : Int)] 5)) (ys := [x]) base (by exact HOw.out.drew.alloc _) (by exact Rd.lit wr.drew [x] 1 rfl (by omega)) (by simp; omega) (by omega) _ _ rfl rfl rfl rfl ?_; intro v1 w1 hO1 hG1 hA1; obtain ⟨A1, k1, rfl⟩ := hO1.slice; have HX := Lib.hid (XStep.one _ HIx.out hO1 hG1 hA1); have k0 := HX.out.cc; have k9 := HX.out.fz; clear hO1 hG1 hA1))
          all_goals (
            have hp := HX.out.post HIx.out (by rw [List.length_append, List.length_append, List.length_take, HLEN.out, ← HM.out]; simp; omega)
            have HQ := Lib.hid (XPost.step HOx.out HAx.out hp)
            clear hp k0 k9
            go_wp2
            go_roundw
            case rel => exact ⟨i + 1, by omega, by go_num, by rw [HT.out, ← List.append_assoc]; exact HQ.out⟩
            case measure => simp [intOf]; omega)
        · obtain rfl : n = i := by omega
          have HT := Lib.hid (show F.take n = F from List.take_of_length_le (by rw [HLEN.out]; exact Nat.le_refl _))
          have h9 := HP.out
          rw [HT.out] at h9
          have HQ := Lib.hid h9
          obtain ⟨vx, hIx, hOx, hAx⟩ := HP.out
          have g0 := hIx.c0
          clear h9 hIx hOx hAx
          go_wp2
          go_end0
          refine ⟨by simp, ?_⟩
          rw [HLL.out.1, HLL.out.2, ← HM.out]
          exact HQ.out
  · have HE := Lib.hid he
    have he2 : (e != 0) = true := by simpa using he
    clear he
    go_enter Try.func76, Try.ntmps76
    go_wp2
    ((try simp only [Exit.inBlock, Exit.then]); refine bodyPost_ret (results_none rfl _ _ _) rfl ?_)
    refine ⟨by simp, ?_⟩
    rw [(lay_stuck HE.out).1, (lay_stuck HE.out).2]
    exact XPost.same HI.out (Only.refl _ _)
end Go.Proofs.Ytclafljkeaekfaa
