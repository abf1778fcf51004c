/- The device's Edit, Counts. -/
import Derived.Test.YtjbffahmjhbpjaaDv6
set_option linter.unusedVariables false
set_option linter.unusedSimpArgs false
set_option maxRecDepth 100000
namespace Go.Proofs.Ytjbffahmjhbpjaa
open Go.RowKit
theorem only_setRow (w : World) (g : Nat) (cs : Array Value) : Only [g] w (w.setRow g cs) := ⟨rfl, rfl, rfl, by simp [World.setRow], fun k hk hs => setRow_other w g k _ (fun e => hs (by simp [e]))⟩
theorem IsV.setMed {w w' : World} {b g : Nat} {vc : Value} {D : DS} {M' : List UInt8} (h : IsV w b g vc D) (ho : Only [g] w w') (hm : w'.heap[g]? = some (.cells (bv M').toArray 78 (0, 0))) (hl : M'.length = D.M.length) :
    IsV w' b g vc { D with M := M' } ∧ Fr (dvS b g vc) (dvS b g vc) w w' :=
  ⟨⟨h.dev.medium ho hm hl, h.ca.keep ho (fun k hk => by simp; exact (h.nb k hk).2), h.nb⟩, ho.mono (by simp [dvS]), fun k hk => .inl hk⟩
def edD (D : DS) (num at_ : Int) (L : List UInt8) : Int × DS :=
  if ¬ (0 ≤ num ∧ num < D.n) then (60, D) else if at_ < 0 ∨ 512 < at_ ∨ 512 - at_ < L.length then (1, D) else (0, { D with M := splice D.M (num.toNat * 512 + at_.toNat) L })
theorem dv_Edit (w : World) (b g : Nat) (vc : Value) (D : DS) (num at_ : Int) (A : Option Addr) (m c : Nat) (L : List UInt8) (h : IsV w b g vc D) (hr : Rd w A m c L) (hat : -9223372036854775808 ≤ at_ ∧ at_ < 9223372036854775808) :
    Calls Try.prog 18 #[.pointer (some ⟨b, 0, none⟩), .int .i64 num, .int .i64 at_, .slice A m c] w fun e w' => e = .returned (.int .i64 (edD D num at_ L).1) ∧ IsV w' b g vc (edD D num at_ L).2 ∧ Fr (dvS b g vc) (dvS b g vc) w w' := by
  have HH := Lib.hid (dv_has w b g vc D num h)
  have HV := Lib.hid h
  have HR := Lib.hid hr
  have hlen := hr.len
  have hmx := hr.max
  have c0 := h.dev.c0
  clear h hr
  by_cases h1 : 0 ≤ num ∧ num < (D.n : Int)
  · rw [decide_eq_true h1] at HH
    obtain ⟨k, rfl⟩ : ∃ k : Nat, num = k := ⟨num.toNat, by omega⟩
    rcases (by omega : at_ < 0 ∨ (¬ at_ < 0 ∧ 512 < at_) ∨ (0 ≤ at_ ∧ at_ ≤ 512 ∧ 512 - at_ < (m : Int)) ∨ (0 ≤ at_ ∧ at_ ≤ 512 ∧ (m : Int) ≤ 512 - at_)) with h2 | ⟨h2, h3⟩ | ⟨h2, h3, h4⟩ | ⟨h2, h3, h4⟩
    · have HW := Lib.hid (show edD D k at_ L = (1, D) by unfold edD; rw [if_neg (by simpa using h1), if_pos (by omega)])
      rw [HW.out]
      clear hlen
      go_enter Try.func18, Try.ntmps18
      go_wp2_with fail
      refine HH.out.mono ?_
      rintro e w1 ⟨rfl, rfl⟩
      go_wp2
      go_ret
      exact ⟨rfl, HV.out, Fr.refl _ _⟩
    · have HW := Lib.hid (show edD D k at_ L = (1, D) by unfold edD; rw [if_neg (by simpa using h1), if_pos (by omega)])
      rw [HW.out]
      clear hlen
      go_enter Try.func18, Try.ntmps18
      go_wp2_with fail
      refine HH.out.mono ?_
      rintro e w1 ⟨rfl, rfl⟩
      go_wp2
      go_ret
      exact ⟨rfl, HV.out, Fr.refl _ _⟩
    · have HW := Lib.hid (show edD D k at_ L = (1, D) by unfold edD; rw [if_neg (by simpa using h1), if_pos (by omega)])
      rw [HW.out]
      clear hlen
      go_enter Try.func18, Try.ntmps18
      go_wp2_with fail
      refine HH.out.mono ?_
      rintro e w1 ⟨rfl, rfl⟩
      go_wp2
      go_ret
      exact ⟨rfl, HV.out, Fr.refl _ _⟩
    · obtain ⟨a, rfl⟩ : ∃ a : Nat, at_ = a := ⟨at_.toNat, by omega⟩
      have HW := Lib.hid (show edD D k a L = (0, { D with M := splice D.M (k * 512 + a) L }) by unfold edD; rw [if_neg (by simpa using h1), if_neg (by omega), Int.toNat_natCast, Int.toNat_natCast])
      rw [HW.out]
      have hml := HV.out.dev.len
      have ha : a ≤ 512 := by omega
      have hkn : k < D.n := by omega
      by_cases hm0 : m = 0
      · subst hm0
        obtain rfl : L = [] := List.eq_nil_of_length_eq_zero hlen
        have hsp : splice D.M (k * 512 + a) [] = D.M := by simp [splice]
        rw [hsp]
        have hcp := fun (dp sp : Option Addr) (dl dc sc : Nat) => run_copy_none (P := Try.prog) w 29 29 3 5 dp sp dl dc 0 sc Try.underlying29 sz_u8 (by simp)
        clear hlen hml hsp
        by_cases ha5 : a = 512
        · subst ha5
          go_enter Try.func18, Try.ntmps18
          go_wp2_with fail
          refine HH.out.mono ?_
          rintro e w1 ⟨rfl, rfl⟩
          go_wp2
          go_ret
          exact ⟨rfl, HV.out, Fr.refl _ _⟩
        · go_enter Try.func18, Try.ntmps18
          go_wp2_with fail
          refine HH.out.mono ?_
          rintro e w1 ⟨rfl, rfl⟩
          go_wp2
          go_ret
          exact ⟨rfl, HV.out, Fr.refl _ _⟩
      · have ha5 : a < 512 := by omega
        obtain ⟨bb, oo, rfl, hc⟩ := HR.out.at_ (by omega)
        have hfit : k * 512 + a + L.length ≤ D.M.length := by omega
        have hcp := run_copy_row (P := Try.prog) w 29 29 3 5 g (k * 512 + a) (512 - a) (512 - a) ⟨bb, oo, none⟩ m c (bv D.M).toArray 78 (bv L) Try.underlying29 sz_u8 HV.out.dev.med (by rw [bv_length, hlen]; exact (Nat.min_eq_left (by omega)).symm) (fun j v hv => by
          have hj : j < m := by
            rcases Nat.lt_or_ge j m with h | h
            · exact h
            · rw [List.getElem?_eq_none (by rw [bv_length, hlen]; exact h)] at hv; cases hv
          rw [bv_get L j (by omega)] at hv
          rw [Addr.add_mid, ← hv]; exact hc j hj) (by rw [List.size_toArray, bv_length, bv_length]; exact hfit) (bv_one _)
        have he : ((bv D.M).toArray.toList.take (k * 512 + a) ++ bv L ++ (bv D.M).toArray.toList.drop (k * 512 + a + (bv L).length)).toArray = (bv (splice D.M (k * 512 + a) L)).toArray := by
          rw [← splice_bv]
          simp [splice]
        rw [he] at hcp
        have HSM := Lib.hid (HV.out.setMed (only_setRow w g (bv (splice D.M (k * 512 + a) L)).toArray) (setRow_heap w g _ _ _ _ HV.out.dev.med) (by simp [splice]; omega))
        have hne : ¬ 512 = a := by omega
        clear hlen hml hc he hfit
        go_enter Try.func18, Try.ntmps18
        go_wp2_with fail
        refine HH.out.mono ?_
        rintro e w1 ⟨rfl, rfl⟩
        go_wp2
        go_ret
        exact ⟨rfl, HSM.out.1, HSM.out.2⟩
  · rw [decide_eq_false h1] at HH
    have HW := Lib.hid (show edD D num at_ L = (60, D) by unfold edD; rw [if_pos h1])
    rw [HW.out]
    clear hlen h1
    go_enter Try.func18, Try.ntmps18
    go_wp2_with fail
    refine HH.out.mono ?_
    rintro e w1 ⟨rfl, rfl⟩
    go_wp2
    go_ret
    exact ⟨rfl, HV.out, Fr.refl _ _⟩
end Go.Proofs.Ytjbffahmjhbpjaa
