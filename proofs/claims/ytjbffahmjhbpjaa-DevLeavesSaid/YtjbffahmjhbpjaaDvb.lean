/- The device's Flush. -/
import Derived.Test.YtjbffahmjhbpjaaDva
set_option linter.unusedVariables false
set_option linter.unusedSimpArgs false
set_option maxRecDepth 100000
namespace Go.Proofs.Ytjbffahmjhbpjaa
open Go.RowKit
theorem actD_keeps (D : DS) : (actD D).2.C = D.C ∧ (actD D).2.M = D.M ∧ (actD D).2.n = D.n ∧ (actD D).2.rd = D.rd ∧ (actD D).2.wr = D.wr ∧ (actD D).2.fl = D.fl := by
  unfold actD; split
  · exact ⟨rfl, rfl, rfl, rfl, rfl, rfl⟩
  · split
    · exact ⟨rfl, rfl, rfl, rfl, rfl, rfl⟩
    · split <;> exact ⟨rfl, rfl, rfl, rfl, rfl, rfl⟩
def flD (D : DS) : Int × DS := if (actD D).1 = true then (0, { (actD D).2 with C := [], M := layA (fun _ => 512) 0 (actD D).2.C (actD D).2.M, fl := (actD D).2.fl + 1 }) else (6, (actD D).2)
theorem dv_Flush (w : World) (b g : Nat) (vc : Value) (D : DS) (h : IsV w b g vc D) (hl : D.left < 9223372036854775808) (hq : D.C.length ≤ 100000000000) (hfl : D.fl < 9223372036854775807) :
    Calls Try.prog 21 #[.pointer (some ⟨b, 0, none⟩)] w fun e w' => e = .returned (.int .i64 (flD D).1) ∧ ∃ vc', IsV w' b g vc' (flD D).2 ∧ Fr (dvS b g vc) (dvS b g vc') w w' := by
  have HA := Lib.hid (dv_act w b g vc D hl h)
  have hk := actD_keeps D
  clear h
  cases hact : (actD D).1 with
  | false =>
    have HW := Lib.hid (show flD D = (6, (actD D).2) by unfold flD; rw [if_neg (by simp [hact])])
    rw [hact] at HA
    rw [HW.out]
    clear hact hk
    go_enter Try.func21, Try.ntmps21
    go_wp2_with fail
    refine HA.out.mono ?_
    rintro e w2 ⟨rfl, hV, hF⟩
    have HV2 := Lib.hid hV
    have HF2 := Lib.hid hF
    clear hV hF
    go_wp2
    go_ret
    exact ⟨rfl, vc, HV2.out, HF2.out⟩
  | true =>
    have HW := Lib.hid (show flD D = (0, { (actD D).2 with C := [], M := layA (fun _ => 512) 0 (actD D).2.C (actD D).2.M, fl := (actD D).2.fl + 1 }) by unfold flD; rw [if_pos hact])
    rw [hact] at HA
    rw [HW.out]
    obtain ⟨D2, hD2⟩ : ∃ D2, D2 = (actD D).2 := ⟨_, rfl⟩
    rw [← hD2] at HA hk ⊢
    clear hact hD2
    go_enter Try.func21, Try.ntmps21
    go_wp2_with fail
    refine HA.out.mono ?_
    rintro e w2 ⟨rfl, hV, hF⟩
    have HF2 := Lib.hid hF
    have HS := Lib.hid (dv_settleF w2 b g vc D2 hV (by rw [hk.1]; exact hq))
    clear hV hF
    go_wp2_with fail
    refine HS.out.mono ?_
    rintro e w3 ⟨rfl, hV3, hF3⟩
    have c7 : w3.cell? ⟨b, 7, none⟩ = some (.int .i64 (D2.fl : Int)) := hV3.dev.cell 7
    have f7 := frozen_of_row w3 b 7 _ _ hV3.dev.st
    have hw7 : (0 : Int) ≤ (D2.fl : Int) ∧ (D2.fl : Int) < 9223372036854775807 := by have := hk.2.2.2.2.2; omega
    have HS7 := Lib.hid (hV3.store 7 (.int .i64 ((D2.fl : Int) + 1)) { D2 with C := [], M := layA (fun _ => 512) 0 D2.C D2.M, fl := D2.fl + 1 } rfl rfl rfl (by simp))
    have HF3 := Lib.hid hF3
    clear hV3 hF3 hk
    go_wp2
    go_ret
    exact ⟨rfl, _, HS7.out.1, HF2.out.trans (HF3.out.trans HS7.out.2)⟩
end Go.Proofs.Ytjbffahmjhbpjaa
