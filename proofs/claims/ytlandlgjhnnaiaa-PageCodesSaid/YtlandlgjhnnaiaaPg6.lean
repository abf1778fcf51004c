/- The reference's rising and keysOf. -/
import Derived.Test.YtlandlgjhnnaiaaPgM2
import Derived.BigQuiet
set_option linter.unusedVariables false
set_option linter.unusedSimpArgs false
set_option maxRecDepth 100000
namespace Go.Proofs.Ytlandlgjhnnaiaa
open Go.RowKit
set_option maxHeartbeats 2000000 in
theorem rn_rising (A : Option Addr) (n c : Nat) (l : List ByteArray) (w : World) (hr : RdT w A n c l) :
    Calls Try.prog 64 #[.slice A n c] w fun e w' => e = .returned (.bool (riseGo noS l)) ∧ Only [] w w' := by
  have HR := Lib.hid hr
  have HL := Lib.hid hr.len
  have hmx := hr.max
  obtain ⟨L, hL⟩ : ∃ L, L = riseGo noS l := ⟨_, rfl⟩
  have HLL := Lib.hid hL
  rw [← hL]
  clear hr hL
  go_enter Try.func64, Try.ntmps64
  go_wp2_with fail
  go_loopw [3] (fun x wr => ∃ k : Nat, k ≤ n ∧ x = .int .i64 k ∧ L = riseGo (lastT l k) (l.drop k) ∧ Only [] w wr) (fun x _ => n - (intOf x).toNat)
  case atStart => exact ⟨0, by omega, rfl, HLL.out, Only.refl _ _⟩
  case round =>
    obtain ⟨k, hk, rfl, hE, hO⟩ := hrel
    have HE := Lib.hid hE
    have HO := Lib.hid hO
    clear hE hO
    by_cases hkn : k < n
    · obtain ⟨bb, oo, rfl, hc⟩ := (HR.out.keep HO.out (by simp)).at_ (by omega)
      have hck := hc k hkn
      have HC1 := Lib.hid (fun (h : 0 < k) => hc (k - 1) (by omega))
      clear hc
      have hst := HE.out
      rw [riseGo_step _ _ _ (by rw [HL.out]; exact hkn)] at hst
      have HA := Lib.hid (rise_ask l k)
      have HKK := Lib.hid (show lastT l (k + 1) = l.getD k default from rfl)
      obtain ⟨R, hR⟩ : ∃ R, R = riseGo (l.getD k default) (l.drop (k + 1)) := ⟨_, rfl⟩
      have HRR := Lib.hid (show R = riseGo (lastT l (k + 1)) (l.drop (k + 1)) from hR)
      rw [← hR] at hst
      have HC2 := Lib.hid (show 0 < k → wr.cell? ⟨bb, oo + (k - 1), none⟩ = some (.string (lastT l k)) from fun h => by
        have h1 := HC1.out h
        cases k with
        | zero => omega
        | succ k => exact h1)
      obtain ⟨key, he⟩ : ∃ e, e = l.getD k default := ⟨_, rfl⟩
      rw [← he] at hck hst HKK HA
      clear he hR
      obtain ⟨last, hla⟩ : ∃ last, last = lastT l k := ⟨_, rfl⟩
      rw [← hla] at hst HA HC2
      clear hla
      have hk0 : (0 : Int) ≤ (k : Int) ∧ (k : Int) < (n : Int) ∧ (n : Int) ≤ 13000000000000 := by omega
      by_cases c1 : key.size < 1
      · have HST := Lib.hid (show L = false by rw [hst]; simp [keyOk]; omega)
        have d1 : decide ((key.size : Int) < 1) = true := by simp; omega
        clear hst
        go_wp2_with fail
        go_quiet ((fail))
        go_wp2
        go_ret
        exact ⟨by rw [HST.out]; rfl, HO.out.drewN _⟩
      have d1 : decide ((key.size : Int) < 1) = false := by simp; omega
      by_cases c2 : 120 < key.size
      · have HST := Lib.hid (show L = false by rw [hst]; simp [keyOk]; omega)
        have d2 : decide ((120 : Int) < (key.size : Int)) = true := by simp; omega
        clear hst
        go_wp2_with fail
        go_quiet ((fail))
        go_wp2
        go_ret
        exact ⟨by rw [HST.out]; rfl, HO.out.drewN _⟩
      have d2 : decide ((120 : Int) < (key.size : Int)) = false := by simp; omega
      have hko : keyOk key = true := by simp [keyOk]; omega
      have ha := HA.out hko
      rw [ha, hko] at hst
      clear ha
      by_cases c3 : k = 0
      · have HST := Lib.hid (show L = R by simpa [c3] using hst)
        have d3 : decide (0 < k) = false := by simp; omega
        have HK0 := Lib.hid c3
        clear hst hko c3
        go_wp2_with fail
        go_quiet ((fail))
        go_wp2
        go_roundw
        case rel => exact ⟨k + 1, by omega, by go_num, by rw [HST.out]; exact HRR.out, HO.out.drewN _⟩
        case measure => simp [intOf]; omega
      have d3 : decide (0 < k) = true := by simp; omega
      have hcl := HC2.out (by omega)
      have hw1 : IntKind.i64.wrap ((k : Int) - 1) = ((k - 1 : Nat) : Int) := by
        have := wrap_i64_nat (k - 1) (by omega)
        rwa [show ((k - 1 : Nat) : Int) = (k : Int) - 1 by omega] at this ⊢
      rw [decide_eq_false c3, Bool.false_or, Bool.true_and] at hst
      obtain ⟨lb, hlb⟩ : ∃ lb, Op.bytesLess last.toList key.toList = lb := ⟨_, rfl⟩
      rw [hlb] at hst
      have hk1 : (0 : Int) ≤ ((k - 1 : Nat) : Int) ∧ ((k - 1 : Nat) : Int) < (n : Int) := by omega
      clear hko c3
      cases lb
      · have HST := Lib.hid (show L = false by simpa using hst)
        clear hst
        go_wp2_with fail
        go_quiet ((fail))
        go_wp2
        go_ret
        exact ⟨by rw [HST.out]; rfl, HO.out.drewN _⟩
      · have HST := Lib.hid (show L = R by simpa using hst)
        clear hst
        go_wp2_with fail
        go_quiet ((fail))
        go_wp2
        go_roundw
        case rel => exact ⟨k + 1, by omega, by go_num, by rw [HST.out]; exact HRR.out, HO.out.drewN _⟩
        case measure => simp [intOf]; omega
    · obtain rfl : n = k := by omega
      have HD := Lib.hid (show l.drop n = [] from List.drop_of_length_le (by rw [HL.out]; omega))
      go_wp2
      go_ret
      exact ⟨by rw [HE.out, HD.out]; rfl, HO.out⟩
theorem rn_keysOf (A : Option Addr) (n c : Nat) (l : List En) (w : World) (hr : RdE w A n c l) :
    Calls Try.prog 65 #[.slice A n c] w fun e w' => ∃ v, e = .returned v ∧ OwnT w' w.heap.size v n (l.map (·.key)) ∧ Below w.heap.size w w' := by
  have HR := Lib.hid hr
  have HL := Lib.hid hr.len
  have hmx := hr.max
  clear hr
  go_enter Try.func65, Try.ntmps65
  go_wp2_with fail
  go_loopw [3, 4] (fun v x wr => ∃ k : Nat, k ≤ n ∧ x = .int .i64 k ∧ OwnT wr w.heap.size v k ((l.take k).map (·.key)) ∧ Below w.heap.size w wr) (fun _ x _ => n - (intOf x).toNat)
  case atStart => exact ⟨0, by omega, rfl, OwnT.nil _ _, Below.refl _ _⟩
  case round =>
    obtain ⟨k, hk, rfl, hO, hB⟩ := hrel
    have HO := Lib.hid hO
    have HB := Lib.hid hB
    have hz := hB.size
    clear hO hB
    by_cases hkn : k < n
    · obtain ⟨bb, oo, rfl, hc⟩ := HR.out.at_ (by omega)
      have hck := cell_ext (w' := wr) (w := w) (hb := (HB.out)) (hc k hkn).1
      clear hc
      have HT := Lib.hid (show (l.take (k + 1)).map (·.key) = (l.take k).map (·.key) ++ [(l.getD k default).key] by rw [take_snoc l k default (by rw [HL.out]; exact hkn)]; simp)
      obtain ⟨x, hx⟩ : ∃ x, x = (l.getD k default).key := ⟨_, rfl⟩
      rw [← hx] at hck HT
      clear hx
      go_wp2_with (at_builtin; refine wp_appT1 w.heap.size x HO.out hz (by omega) _ _ rfl rfl rfl rfl ?_; intro v1 w1 hO1 hG1 hA1; have HO1 := Lib.hid hO1; have HG1 := Lib.hid hG1; clear hO1 hG1 hA1)
      go_roundw
      case rel => exact ⟨k + 1, by omega, by go_num, by rw [HT.out]; exact HO1.out, (HB.out.alloc HB.out.size _).grown HG1.out (by simp; omega) (fun q hq => (HO.out.blk q hq).1)⟩
      case measure => simp [intOf]; omega
    · obtain rfl : n = k := by omega
      have HT := Lib.hid (show l.take n = l from List.take_of_length_le (by rw [HL.out]; omega))
      go_wp2
      go_ret
      exact ⟨_, rfl, by have := HO.out; rwa [HT.out] at this, HB.out⟩
end Go.Proofs.Ytlandlgjhnnaiaa
