/- The reference's space: Free, Held, Give, Take. -/
import Derived.Test.YtodondpggkohjaaSpQ2
set_option linter.unusedVariables false
set_option linter.unusedSimpArgs false
set_option maxRecDepth 100000
namespace Go.Proofs.Ytodondpggkohjaa
open Go.RowKit
section
variable {D : List Nat} {r N first : Nat} {was now : List Int} {w : World}
/-- how many of the first k are free -/
def frN (first : Nat) (was now : List Int) : Nat → Nat
  | 0 => 0
  | k + 1 => if ((first + k : Nat) : Int) ∉ now ∧ ((first + k : Nat) : Int) ∉ was then frN first was now k + 1 else frN first was now k
theorem frN_le (first : Nat) (was now : List Int) : ∀ k, frN first was now k ≤ k
  | 0 => Nat.le_refl _
  | k + 1 => by
    have := frN_le first was now k
    rw [frN]; split <;> omega
theorem rs_Free (h : RsOk D w r N first was now) (hN : first ≤ N) (hN2 : N ≤ 4096) :
    Calls Try.prog 32 #[.pointer (some ⟨r, 0, none⟩)] w fun e w' => e = .returned (.int .i64 (frN first was now (N - first) : Nat)) ∧ w' = w := by
  have H := Lib.hid h
  obtain ⟨A, n, c, A', n', c', h1, h2, h3⟩ := h
  obtain ⟨c0, c1, c2, c3⟩ := rs_cells h1
  clear h1 h2 h3
  go_enter Try.func32, Try.ntmps32
  go_wp2_with fail
  go_loopw [3, 4] (fun v x wx => ∃ k : Nat, first + k ≤ N ∧ x = .int .i64 ((first + k : Nat) : Int) ∧ v = .int .i64 (frN first was now k : Nat) ∧ wx = w) (fun _ x _ => N - (intOf x).toNat)
  case atStart => exact ⟨0, by omega, rfl, rfl, rfl⟩
  case round =>
    obtain ⟨k, hk, rfl, rfl, rfl⟩ := hrel
    by_cases hkn : first + k < N
    · have hle := frN_le first was now k
      obtain ⟨q, hq⟩ : ∃ q : Nat, q = first + k := ⟨_, rfl⟩
      have hqi : (0 : Int) ≤ (q : Int) ∧ (q : Int) < (N : Int) := by omega
      have HF := Lib.hid (rs_freeC (q : Int) H.out)
      have HST := Lib.hid (show frN first was now (k + 1) = if ((q : Nat) : Int) ∉ now ∧ ((q : Nat) : Int) ∉ was then frN first was now k + 1 else frN first was now k by rw [hq]; rfl)
      have HQ := Lib.hid hq
      rw [← hq]
      clear hq
      obtain ⟨f, hf⟩ : ∃ f, f = frN first was now k := ⟨_, rfl⟩
      rw [← hf] at HST hle ⊢
      clear hf
      by_cases hb : ((q : Nat) : Int) ∉ now ∧ ((q : Nat) : Int) ∉ was
      · rw [decide_eq_true hb] at HF
        have HN := Lib.hid (show frN first was now (k + 1) = f + 1 by rw [HST.out, if_pos hb])
        clear hb
        go_wp2_with fail
        refine HF.out.mono ?_
        rintro e w1 ⟨rfl, hw1⟩
        subst hw1
        go_wp2
        go_roundw
        case rel => exact ⟨k + 1, by have := HQ.out; omega, by have := HQ.out; go_num, by rw [HN.out]; go_num, by first | rfl | trivial⟩
        case measure => simp [intOf]; omega
      · rw [decide_eq_false hb] at HF
        have HN := Lib.hid (show frN first was now (k + 1) = f by rw [HST.out, if_neg hb])
        clear hb
        go_wp2_with fail
        refine HF.out.mono ?_
        rintro e w1 ⟨rfl, hw1⟩
        subst hw1
        go_wp2
        go_roundw
        case rel => exact ⟨k + 1, by have := HQ.out; omega, by have := HQ.out; go_num, by rw [HN.out], by first | rfl | trivial⟩
        case measure => simp [intOf]; omega
    · have HE := Lib.hid (show N - first = k by omega)
      obtain ⟨q, hq⟩ : ∃ q : Nat, q = first + k := ⟨_, rfl⟩
      obtain rfl : q = N := by omega
      rw [← hq]
      clear hq hkn hk
      go_wp2
      go_ret
      exact ⟨by rw [HE.out]; rfl, rfl⟩
/-- those of the list that are told, of the first k -/
def fil (p : Int → Bool) (l : List Int) (k : Nat) : List Int := (l.take k).filter p
theorem fil_step (p : Int → Bool) (l : List Int) (k : Nat) (y : Int) (h : l.take (k + 1) = l.take k ++ [y]) : fil p l (k + 1) = if p y = true then fil p l k ++ [y] else fil p l k := by
  unfold fil
  rw [h, List.filter_append]
  by_cases hp : p y = true
  · rw [if_pos hp, List.filter_cons_of_pos hp]; rfl
  · rw [if_neg hp, List.filter_cons_of_neg hp]; simp
theorem fil_len (p : Int → Bool) (l : List Int) (k : Nat) : (fil p l k).length ≤ k := by
  unfold fil
  exact Nat.le_trans (List.length_filter_le _ _) (by rw [List.length_take]; omega)
theorem rs_Held (h : RsOk D w r N first was now) (hn : was.length ≤ 17592186044415) :
    Calls Try.prog 34 #[.pointer (some ⟨r, 0, none⟩)] w fun e w' => ∃ v, e = .returned v ∧ OwnI w' w.heap.size v (was.filter fun x => decide (x ∉ now)).length (was.filter fun x => decide (x ∉ now)) ∧ Below w.heap.size w w' := by
  obtain ⟨A, n, c, A', n', c', h1, h2, h3⟩ := h
  have HH := Lib.hid h1
  have HW := Lib.hid h2
  have HNW := Lib.hid h3
  have HL := Lib.hid h2.len
  have hnn : n ≤ 17592186044415 := by rw [← h2.len]; exact hn
  clear h1 h2 h3 hn
  have hc0 := rs_cells HH.out
  go_enter Try.func34, Try.ntmps34
  go_wp2_with fail
  clear hc0
  go_loopw [3, 4] (fun v x wx => ∃ k m : Nat, k ≤ n ∧ x = .int .i64 k ∧ m ≤ k ∧ m = (fil (fun x => decide (x ∉ now)) was k).length ∧ OwnI wx w.heap.size v m (fil (fun x => decide (x ∉ now)) was k) ∧ Below w.heap.size w wx) (fun _ x _ => n - (intOf x).toNat)
  case atStart => exact ⟨0, 0, by omega, rfl, by omega, rfl, OwnI.nil _ _, Below.refl _ _⟩
  case round =>
    obtain ⟨k, m, hk, rfl, hmk, hm, hO, hB⟩ := hrel
    have HO := Lib.hid hO
    have HB := Lib.hid hB
    have HM := Lib.hid hm
    have hz := hB.size
    have hd := rs_cells ((hB.block r (lt_of_block HH.out)).trans HH.out)
    clear hO hB hm
    by_cases hkn : k < n
    · have hR := HW.out.ext HB.out
      obtain ⟨b, o, rfl, -, hc⟩ := hR.at_ (by omega)
      have hcell := hc k hkn
      obtain ⟨y, hy⟩ : ∃ y, y = was.getD k 0 := ⟨_, rfl⟩
      rw [← hy] at hcell
      have HST := Lib.hid (fil_step (fun x => decide (x ∉ now)) was k y (by rw [hy]; exact take_snoc was k 0 (by rw [HL.out]; exact hkn)))
      have hki : (0 : Int) ≤ (k : Int) ∧ (k : Int) < (n : Int) := by omega
      have HIN := Lib.hid (fun j => rs_in A' n' c' now y (wr.drewN j) ((HNW.out.ext HB.out).only ((Only.refl [] wr).drewN j) (by simp)))
      clear hc hy hR
      by_cases hb : y ∈ now
      · rw [decide_eq_true hb] at HIN
        have HN := Lib.hid (show fil (fun x => decide (x ∉ now)) was (k + 1) = fil (fun x => decide (x ∉ now)) was k by rw [HST.out, if_neg (by simpa using hb)])
        clear hb
        go_wp2_with fail
        go_quiet ((go_at_call 37; exact Calls.quiet_of_same (HIN.out _)))
        go_wp2
        go_roundw
        case rel => exact ⟨k + 1, m, by omega, by go_num, by omega, by rw [HN.out]; exact HM.out, by rw [HN.out]; exact HO.out, below_drewN HB.out _⟩
        case measure => simp [intOf]; omega
      · rw [decide_eq_false hb] at HIN
        have HN := Lib.hid (show fil (fun x => decide (x ∉ now)) was (k + 1) = fil (fun x => decide (x ∉ now)) was k ++ [y] by rw [HST.out, if_pos (by simpa using hb)])
        clear hb
        go_wp2_with fail
        go_quiet ((go_at_call 37; exact Calls.quiet_of_same (HIN.out _)))
        have hd2 := rs_cells (w := wr.drewN nq) ((HB.out.block r (lt_of_block HH.out)).trans HH.out)
        have hcell2 : (wr.drewN nq).cell? ⟨b, o + k, none⟩ = some (.int .i64 y) := hcell
        have HO2 := Lib.hid (show OwnI (wr.drewN nq) w.heap.size _ m _ from HO.out)
        have HB2 := Lib.hid (below_drewN HB.out nq)
        clear hd hcell
        go_wp2_with (at_builtin; refine wp_appI1 (w0 := w) w.heap.size y HO2.out HB2.out hz (by omega) _ _ rfl rfl rfl rfl ?_; intro v1 w1 hO1 hB1; have HO1 := Lib.hid hO1; have HB1 := Lib.hid hB1; clear hO1 hB1)
        go_roundw
        case rel => exact ⟨k + 1, m + 1, by omega, by go_num, by omega, by rw [HN.out, List.length_append, ← HM.out]; rfl, by rw [HN.out]; exact HO1.out, HB1.out⟩
        case measure => simp [intOf]; omega
    · obtain rfl : k = n := by omega
      have HT := Lib.hid (show fil (fun x => decide (x ∉ now)) was k = was.filter fun x => decide (x ∉ now) by unfold fil; rw [List.take_of_length_le (by rw [HL.out]; exact Nat.le_refl _)])
      rw [HT.out] at HO HM
      obtain ⟨A1, cc, rfl⟩ := HO.out.slice
      go_wp2
      go_ret
      exact ⟨_, rfl, by rw [← HM.out]; exact HO.out, HB.out⟩
end
end Go.Proofs.Ytodondpggkohjaa
