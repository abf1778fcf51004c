/- The walk of the reader's Text. -/
import Derived.Test.YtclafljkeaekfaaPk4
import Derived.Deep.RegionLaw
import Derived.Deep.RegionWith
import Derived.Deep.DeepCutAuto
set_option linter.unusedVariables false
set_option linter.unusedSimpArgs false
set_option maxRecDepth 100000
namespace Go.Proofs.Ytclafljkeaekfaa
open Go.RowKit
section
variable (b : Nat) (A : Option Addr) (n c : Nat) (L : List UInt8) (at_ : Nat) (e : Int) (w : World)
set_option maxHeartbeats 2000000 in
theorem pk_RText (most : Int) (hmo : -9223372036854775808 ≤ most ∧ most < 9223372036854775808) (h : IsR w b A n c L at_ e) :
    Calls Try.prog 48 #[.pointer (some ⟨b, 0, none⟩), .int .i64 most] w fun e1 w' => e1 = .returned (.string (bstr (rT L at_ e most).1)) ∧ IsR w' b A n c L (rT L at_ e most).2.1 (rT L at_ e most).2.2 ∧ Only [b] w w' := by
  have H := Lib.hid h
  have c1 := h.c1
  have hle := h.le
  have hmx := h.rd.max
  have hcap := h.rd.cap
  have HL := Lib.hid h.rd.len
  clear h
  go_enter Try.func48, Try.ntmps48
  go_wp2_with fail
  refine (pk_RUint b A n c L at_ e w H.out).mono ?_
  rintro e1 w1 ⟨rfl, hI, hO⟩
  have hlt := rU_lt L at_ e
  obtain ⟨v, hv⟩ : ∃ v, v = (rU L at_ e).1 := ⟨_, rfl⟩
  obtain ⟨a1, ha⟩ : ∃ a1, a1 = (rU L at_ e).2.1 := ⟨_, rfl⟩
  obtain ⟨e1, hee⟩ : ∃ e1, e1 = (rU L at_ e).2.2 := ⟨_, rfl⟩
  rw [← hv] at hlt ⊢
  rw [← ha, ← hee] at hI
  have hC : rT L at_ e most = if e1 ≠ 0 then ([], a1, e1) else if most < (v : Int) then ([], at_, 23) else if L.length - a1 < v then ([], at_, 20) else ((L.drop a1).take v, a1 + v, 0) := by rw [rT, ← hv, ← ha, ← hee]
  rw [HL.out] at hC
  have HC := Lib.hid hC
  have HI := Lib.hid hI
  have HO := Lib.hid hO
  have k1 := hI.c1
  have k2 := hI.c2
  have k0 := hI.c0
  have g1 := hI.fz 1
  have hle1 := hI.le
  clear hI hO hv ha hee hlt hC
  by_cases he : e1 = 0
  · subst he
    by_cases h1 : most < 0
    · have HB := Lib.hid (show rT L at_ e most = ([], at_, 23) by rw [HC.out, if_neg (by simp), if_pos (by omega)])
      go_wp2_with fail
      refine (pk_fail b A n c L _ _ _ at_ 23 hle HI.out).mono ?_
      rintro e2 w2 ⟨rfl, hI, hO⟩
      have HI2 := Lib.hid hI
      have HO2 := Lib.hid (HO.out.trans hO)
      clear hI hO
      go_wp2
      go_ret
      rw [HB.out]
      exact ⟨rfl, HI2.out, HO2.out⟩
    · obtain ⟨m, rfl⟩ := Int.eq_ofNat_of_zero_le (show 0 ≤ most by omega)
      have hwm : IntKind.u64.wrap (m : Int) = (m : Int) := IntWalk.u64_in _ (by omega)
      have HMO := Lib.hid hmo
      clear hmo h1
      by_cases h2 : (m : Int) < (v : Int)
      · have HB := Lib.hid (show rT L at_ e m = ([], at_, 23) by rw [HC.out, if_neg (by simp), if_pos h2])
        go_wp2_with fail
        refine (pk_fail b A n c L _ _ _ at_ 23 hle HI.out).mono ?_
        rintro e2 w2 ⟨rfl, hI, hO⟩
        have HI2 := Lib.hid hI
        have HO2 := Lib.hid (HO.out.trans hO)
        clear hI hO
        go_wp2
        go_ret
        rw [HB.out]
        exact ⟨rfl, HI2.out, HO2.out⟩
      · obtain ⟨lf, hlf⟩ : ∃ lf, lf = n - a1 := ⟨_, rfl⟩
        have hwl : IntKind.u64.wrap (lf : Int) = (lf : Int) := IntWalk.u64_in _ (by omega)
        have HLF := Lib.hid hlf
        by_cases h3 : (lf : Int) < (v : Int)
        · have HB := Lib.hid (show rT L at_ e m = ([], at_, 20) by rw [HC.out, if_neg (by simp), if_neg h2, if_pos (by omega)])
          clear hlf
          go_wp2_with fail
          refine (pk_RLeft b A n c L a1 0 w1 HI.out).mono ?_
          rintro e2 w2 ⟨rfl, hO⟩
          rw [← HLF.out]
          have HI2 := Lib.hid (HI.out.keep hO (by simp) (by simp))
          have HO2 := Lib.hid (HO.out.trans (hO.mono (by simp)))
          clear hO
          go_wp2_with fail
          refine (pk_fail b A n c L _ _ _ at_ 20 hle HI2.out).mono ?_
          rintro e3 w3 ⟨rfl, hI, hO⟩
          have HI3 := Lib.hid hI
          have HO3 := Lib.hid (HO2.out.trans hO)
          clear hI hO
          go_wp2
          go_ret
          rw [HB.out]
          exact ⟨rfl, HI3.out, HO3.out⟩
        · have HB := Lib.hid (show rT L at_ e m = ((L.drop a1).take v, a1 + v, 0) by rw [HC.out, if_neg (by simp), if_neg h2, if_neg (by omega)])
          obtain ⟨s, hs⟩ : ∃ s, s = a1 + v := ⟨_, rfl⟩
          have hvn : s ≤ n := by omega
          obtain ⟨A', ecut, hcut⟩ := cut_mid A n c a1 s (by omega) hvn hcap
          have hsv : (a1 : Int) + v = (s : Int) := by omega
          have hss : (s : Int) - v = (a1 : Int) := by omega
          have HSV := Lib.hid hs
          have hvb : (v : Int) ≤ 140737490452480 := by omega
          have HCUT := Lib.hid hcut
          clear hlf hcut
          go_wp2_with fail
          refine (pk_RLeft b A n c L a1 0 w1 HI.out).mono ?_
          rintro e2 w2 ⟨rfl, hO⟩
          rw [← HLF.out]
          have HI2 := Lib.hid (HI.out.keep hO (by simp) (by simp))
          have HO2 := Lib.hid (HO.out.trans (hO.mono (by simp)))
          have m0 := HI2.out.c0
          have m1 := HI2.out.c1
          have f1 := HI2.out.fz 1
          clear hO
          have HI3 := Lib.hid (HI2.out.setAt s hvn)
          clear hs
          go_upto_region 12 with fail
          have hstr : ∀ k, (convert 28 9 (.slice A' (s - a1) (c - a1))).run Try.prog ((w2.setCell ⟨b, 1, none⟩ (.int .i64 (s : Int))).drewN k) = .ok (.string (bstr ((L.drop a1).take (s - a1)))) ((w2.setCell ⟨b, 1, none⟩ (.int .i64 (s : Int))).drewN k) :=
            fun k => ((HCUT.out _ _ HI3.out.rd).drew k).str
          have hw1 : IntKind.i64.wrap ((s : Int) - v) = (a1 : Int) := by rw [hss]; exact IntWalk.i64_in _ (by omega)
          go_quiet ((fail))
          clear hw1 hss hsv
          go_wp2
          go_ret
          rw [HB.out]
          refine ⟨?_, ?_, (HO2.out.setCell (by simp) _).drewN _⟩
          · rw [show s - a1 = v by have := HSV.out; omega]; rfl
          · rw [← HSV.out]; exact HI3.out.drew _
  · have HB := Lib.hid (show rT L at_ e most = ([], a1, e1) by rw [HC.out, if_pos he])
    have he2 : (e1 != 0) = true := by simpa using he
    clear he
    go_wp2
    go_ret
    rw [HB.out]
    exact ⟨rfl, HI.out, HO.out⟩
end
end Go.Proofs.Ytclafljkeaekfaa
