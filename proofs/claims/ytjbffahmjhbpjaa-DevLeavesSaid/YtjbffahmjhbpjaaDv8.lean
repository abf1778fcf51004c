/- The device's Medium, Down, Counts. -/
import Derived.Test.YtjbffahmjhbpjaaDv7
set_option linter.unusedVariables false
set_option linter.unusedSimpArgs false
set_option maxRecDepth 100000
namespace Go.Proofs.Ytjbffahmjhbpjaa
open Go.RowKit
theorem Rd.ofRange {w : World} {g off n c : Nat} {D : List UInt8} (hl : D.length = n) (hc : n ≤ c) (hm : n ≤ 140737490452480) (h : w.rangeAt g off (bv D)) : Rd w (some ⟨g, off, none⟩) n c D :=
  ⟨hl, hc, hm, fun _ => ⟨g, off, rfl, fun j hj => h j _ (bv_get D j (by omega))⟩⟩
theorem med_step (M : List UInt8) (k : Nat) : M.take ((k + 1) * 512) = M.take (k * 512) ++ blkM M k := by
  unfold blkM
  rw [show (k + 1) * 512 = k * 512 + 512 by omega, List.take_add]
theorem dv_Medium (w : World) (b g : Nat) (vc : Value) (D : DS) (h : IsV w b g vc D) :
    Calls Try.prog 23 #[.pointer (some ⟨b, 0, none⟩)] w fun e w' => ∃ u, e = .returned u ∧ Own w' w.heap.size u (D.n * 512) D.M ∧ Below w.heap.size w w' := by
  have HV := Lib.hid h
  have c0 := h.dev.c0
  have hsm := h.dev.small
  have HLM := Lib.hid h.dev.len
  obtain ⟨n, hn⟩ : ∃ n, n = D.n := ⟨_, rfl⟩
  rw [← hn] at c0 hsm ⊢
  have hmk : ∀ W, (Instr.makeSlice 29 (.int .i64 0) (.int .i64 ((n : Int) * 512))).run Try.prog W = .ok (.slice (some ⟨W.heap.size, 0, none⟩) 0 (n * 512)) (W.alloc (.cells (zc (n * 512)) 5)) := fun W => by
    have h9 := mk_u8_0 (n * 512) (by omega) W
    rw [show ((n * 512 : Nat) : Int) = (n : Int) * 512 by omega] at h9
    exact h9
  have HN := Lib.hid hn
  have c0a := (h.ext ((Below.refl _ w).alloc (Nat.le_refl _) (.cells (zc (n * 512)) 5))).dev.c0
  rw [← hn] at c0a
  clear h hn
  go_enter Try.func23, Try.ntmps23
  go_wp2_with fail
  clear hmk c0a
  go_loopw [3, 4, 17] (fun v _ x wx => ∃ k : Nat, k ≤ n ∧ x = .int .i64 k ∧ Own wx w.heap.size v (k * 512) (D.M.take (k * 512)) ∧ Below w.heap.size w wx) (fun _ _ x _ => n - (intOf x).toNat)
  case atStart => exact ⟨0, by omega, rfl, by simpa using Own.made0 w w.heap.size (n * 512) (Nat.le_refl _) (by omega), (Below.refl _ w).alloc (Nat.le_refl _) _⟩
  case round =>
    obtain ⟨k, hk, rfl, hO, hB⟩ := hrel
    have HO := Lib.hid hO
    have HB := Lib.hid hB
    have hz := hB.size
    have hV := HV.out.ext hB
    have d0 := hV.dev.c0
    rw [← HN.out] at d0
    by_cases hkn : k < n
    · have hmd := hV.med k (by rw [← HN.out]; exact hkn)
      have HRB := Lib.hid (Rd.ofRange (n := 512) (c := 512) hmd.2 (Nat.le_refl _) (by omega) hmd.1)
      have HST := Lib.hid (med_step D.M k)
      have hkk : (0 : Int) ≤ (k : Int) ∧ (k : Int) < (n : Int) := by omega
      clear hO hB hV hmd
      go_wp2_with (at_builtin; refine wp_app (w0 := w) w.heap.size HO.out HRB.out HB.out hz (by omega) _ _ rfl rfl rfl rfl ?_; intro v1 w1 hO1 hB1 hG1 hA1; have HO1 := Lib.hid hO1; have HB1 := Lib.hid hB1; clear hO1 hB1 hG1 hA1)
      go_roundw
      case rel => exact ⟨k + 1, by omega, by go_num, by rw [HST.out, show (k + 1) * 512 = k * 512 + 512 by omega]; exact HO1.out, HB1.out⟩
      case measure => simp [intOf]; omega
    · obtain rfl : n = k := by omega
      have HT := Lib.hid (show D.M.take (n * 512) = D.M from List.take_of_length_le (by rw [HLM.out, HN.out]; exact Nat.le_refl _))
      clear hO hB hV
      go_wp2
      go_ret
      exact ⟨_, rfl, by rw [← HT.out]; exact HO.out, HB.out⟩
end Go.Proofs.Ytjbffahmjhbpjaa
