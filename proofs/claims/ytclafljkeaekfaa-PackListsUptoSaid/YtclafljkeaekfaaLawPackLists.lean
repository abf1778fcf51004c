/- The walk of PackLists (over arguments of bulk at most 1048576). -/
import Derived.Test.YtclafljkeaekfaaPkT3
import Derived.Test.YtclafljkeaekfaaLawPackTexts
import Derived.Test.YtclafljkeaekfaaRowTU
set_option linter.unusedVariables false
set_option linter.unusedSimpArgs false
set_option maxRecDepth 100000
namespace Go.Proofs.Ytclafljkeaekfaa
open Go.RowKit
theorem tsum_bulk (l : List ByteArray) : tsum l ≤ 10 * bulkT l := by
  induction l with
  | nil => simp [tsum]
  | cons x r ih => unfold tsum bulkT at ih ⊢; simp only [List.map_cons, List.sum_cons]; omega
theorem tsum_take_le (l : List ByteArray) (k : Nat) : tsum (l.take k) ≤ tsum l := by
  have := tsum_append (l.take k) (l.drop k)
  rw [List.take_append_drop] at this; omega
theorem tcat_mem {s : ByteArray} {l : List ByteArray} (h : s ∈ l) : s.size ≤ (tcat l).length := by
  induction l with
  | nil => cases h
  | cons x r ih =>
    rw [tcat_cons, List.length_append]
    rcases List.mem_cons.1 h with rfl | h
    · unfold tf; rw [List.length_append, str_len]; omega
    · have := ih h; omega
theorem tall_le (l : List ByteArray) (hn : l.length ≤ 4096) : (tall l).length ≤ 2 + tsum l := by
  have h1 := nf_short2 l.length (by omega)
  have h2 := tcat_len l
  unfold tall; rw [List.length_append]; omega
theorem uxA_nil (D : List UInt8) (h : (uxA D).2 ≠ 0) : (uxA D).1 = [] := by
  unfold uxA at h ⊢
  split
  · rfl
  · rename_i h1
    rw [if_neg h1] at h
    split
    · rfl
    · rename_i h2; rw [if_neg h2] at h; exact absurd rfl h
theorem tsum_mem {s : ByteArray} {l : List ByteArray} (h : s ∈ l) : s.size ≤ tsum l := by
  induction l with
  | nil => cases h
  | cons x r ih =>
    unfold tsum at ih ⊢
    simp only [List.map_cons, List.sum_cons]
    rcases List.mem_cons.1 h with rfl | h
    · omega
    · have := ih h; omega
set_option maxHeartbeats 2000000 in
theorem walk_PackLists (A : Option Addr) (n c : Nat) (l : List ByteArray) (A2 : Option Addr) (n2 c2 : Nat) (D : List UInt8) (A3 : Option Addr) (n3 c3 : Nat) (R : List UInt8) (w : World) (hr : RdT w A n c l) (hz : bulkT l ≤ 1048576) (hr2 : Rd w A2 n2 c2 D) (hz2 : n2 ≤ 1048576) (hr3 : Rd w A3 n3 c3 R) (hz3 : n3 ≤ 1048576) :
    Calls Try.prog 9 #[.slice A n c, .slice A2 n2 c2, .slice A3 n3 c3] w fun e w' => e = .returned (.bool true) ∧ Below w.heap.size w w' := by
  have HR := Lib.hid hr
  have HR2 := Lib.hid hr2
  have HR3 := Lib.hid hr3
  have HL := Lib.hid hr.len
  have HL2 := Lib.hid hr2.len
  have HL3 := Lib.hid hr3.len
  have hnb : n ≤ 1048576 := by have := bulkT_len l; rw [hr.len] at this; omega
  have HZ := Lib.hid hz
  have htb : tsum l ≤ 10485760 := by have := tsum_bulk l; omega
  have HTB := Lib.hid htb
  clear hr hr2 hr3 hz htb
  go_enter Try.func9, Try.ntmps9
  go_wp2_with fail
  refine (l2_fixed w).mono ?_
  rintro e w1 ⟨rfl, hB1⟩
  have HB1 := Lib.hid hB1
  clear hB1
  go_wp2_with fail
  go_loop [8, 9] (fun s x => ∃ k t : Nat, k ≤ n ∧ x = .int .i64 k ∧ t = tsum (l.take k) ∧ s = .int .i64 ((2 + t : Nat) : Int)) (fun _ x => n - (intOf x).toNat)
  case atStart => exact ⟨0, 0, by omega, rfl, rfl, rfl⟩
  case round =>
    obtain ⟨k, t, hk, rfl, ht, rfl⟩ := hrel
    have htl : t ≤ 10485760 := by rw [ht]; have := tsum_take_le l k; have := HTB.out; omega
    have HT := Lib.hid ht
    clear ht
    by_cases hkn : k < n
    · obtain ⟨bb, oo, rfl, hc⟩ := HR.out.at_ (by omega)
      have hck := cell_ext HB1.out (hc k hkn)
      clear hc
      have hsz := bulkT_mem (memT l k (by rw [HL.out]; exact hkn))
      obtain ⟨x, hx⟩ : ∃ x, x = l.getD k default := ⟨_, rfl⟩
      rw [← hx] at hck hsz
      have hxs : x.size ≤ 1048576 := by have := HZ.out; omega
      have HS := Lib.hid (show t + (10 + x.size) = tsum (l.take (k + 1)) by rw [tsum_snoc l k (by rw [HL.out]; exact hkn), ← hx, HT.out])
      have hw : ((2 + t : Nat) : Int) = 2 + (t : Int) := by omega
      clear hx hsz
      go_wp2
      go_round
      case rel => exact ⟨k + 1, t + (10 + x.size), by omega, by go_num, HS.out, iv (by omega)⟩
      case measure => simp [intOf]; omega
    · obtain rfl : n = k := by omega
      have HTW := Lib.hid (show t = tsum l by rw [HT.out, List.take_of_length_le (by rw [HL.out]; exact Nat.le_refl _)])
      have hw : ((2 + t : Nat) : Int) = 2 + (t : Int) := by omega
      rcases (show (n ≤ 4096 ∧ 2 + t ≤ 1048576) ∨ (n ≤ 4096 ∧ ¬ 2 + t ≤ 1048576) ∨ ¬ n ≤ 4096 by omega) with ⟨h1, h2⟩ | ⟨h1, h2⟩ | h1
      · have e1 : decide ((n : Int) ≤ 4096) = true := decide_eq_true (by omega)
        have e2 : decide (2 + (t : Int) ≤ 1048576) = true := decide_eq_true (by omega)
        have e3 : (n : Int) ≤ 4096 := by omega
        have e4 : 2 + (t : Int) ≤ 1048576 := by omega
        have hln : l.length ≤ 4096 := by rw [HL.out]; exact h1
        have htl2 : (tall l).length ≤ 1048576 := by have := tall_le l hln; have := HTW.out; omega
        have hss : ∀ s ∈ l, s.size ≤ 1048576 := fun s hs => by have := tsum_mem hs; have := HTW.out; omega
        have HTA := Lib.hid htl2
        have htx := txL_whole l hln htl2
        rw [HL.out] at htx
        have HTX := Lib.hid htx
        have HSS := Lib.hid hss
        have HUB := Lib.hid (uxA_back l hln htl2 hss)
        have HUE := Lib.hid (fun hR => uxA_behind l R hln hR hss)
        clear hln htl2 hss htx h2
        go_wp2_with fail
        refine (l2_ownTexts A n c l w1 (HR.out.ext HB1.out) (by omega)).mono ?_
        rintro e w2 ⟨u2, rfl, hO2, hB2⟩
        obtain ⟨A2', c2', rfl, hR2'⟩ := hO2.rd (by omega)
        have HR2' := Lib.hid hR2'
        have HB2 := Lib.hid (HB1.out.trans (hB2.mono HB1.out.size))
        clear hO2 hB2 hR2'
        go_wp2_with fail
        refine (pk_Texts A2' n c2' l w2 HR2'.out (fun s hs => by have := HSS.out s hs; omega)).mono ?_
        rintro e w3 hP
        rw [HTX.out] at hP
        obtain ⟨u3, rfl, hO3⟩ := hP.1 rfl
        obtain ⟨T, hT⟩ : ∃ T, T = tall l := ⟨_, rfl⟩
        have hO3 : Own w3 w2.heap.size u3 (tall l).length (tall l) := hO3
        rw [← hT] at hO3 HTA HUB HUE
        obtain ⟨nt, hnt⟩ : ∃ nt, nt = T.length := ⟨_, rfl⟩
        rw [← hnt] at hO3 HTA
        have hnt2 : nt ≤ 1048576 := HTA.out
        obtain ⟨A3', c3', rfl, hR3'⟩ := hO3.rd (by omega)
        have HR3' := Lib.hid hR3'
        have HB3 := Lib.hid (HB2.out.trans (hP.2.2.mono HB2.out.size))
        have HNT := Lib.hid hnt
        clear hP hO3 hR3' hT hnt
        go_wp2_with fail
        refine (l2_own A3' nt c3' T w3 HR3'.out).mono ?_
        rintro e w4 ⟨u4, rfl, hO4, hB4⟩
        obtain ⟨A4, c4, rfl, hR4⟩ := hO4.rd (by omega)
        have HR4 := Lib.hid hR4
        have HB4 := Lib.hid (HB3.out.trans (hB4.mono HB3.out.size))
        have HR3'4 := Lib.hid (HR3'.out.ext hB4)
        clear hO4 hB4 hR4
        go_wp2_with fail
        refine (pk_Untexts A4 nt c4 T w4 HR4.out).mono ?_
        rintro e w5 ⟨u5, rfl, hO5, hB5⟩
        rw [HUB.out] at hO5 ⊢
        obtain ⟨A5, c5, rfl, hR5⟩ := hO5.rd (by rw [HL.out]; omega)
        rw [HL.out] at hR5 ⊢
        have HR5 := Lib.hid hR5
        have HB5 := Lib.hid (HB4.out.trans (hB5.mono HB4.out.size))
        have HR3'5 := Lib.hid (HR3'4.out.ext hB5)
        clear hO5 hB5 hR5
        go_wp2_with fail
        refine (l2_sameTexts A A5 n c n c5 l l w5 (HR.out.ext HB5.out) HR5.out).mono ?_
        rintro e w6 ⟨rfl, hO6⟩
        rw [decide_eq_true rfl]
        have HB6 := Lib.hid (HB5.out.trans (hO6.below HB5.out.size (by simp)))
        have HR3'6 := Lib.hid (HR3'5.out.keep hO6 (by simp))
        clear hO6
        go_wp2_with fail
        refine (l2_own A3' nt c3' T w6 HR3'6.out).mono ?_
        rintro e w7 ⟨u7, rfl, hO7, hB7⟩
        have HO7 := Lib.hid hO7
        have HB7 := Lib.hid (HB6.out.trans (hB7.mono HB6.out.size))
        have hz7 := hB7.size
        have hz6 := HB6.out.size
        have HR37 := Lib.hid (HR3.out.ext (w' := w7) HB7.out)
        clear hO7 hB7
        go_wp2_with (at_builtin; refine wp_appB w6.heap.size HO7.out HR37.out hz7 (by omega) _ _ rfl rfl rfl rfl ?_; intro v8 w8 hO8 hG8 hA8; obtain ⟨A8, c8, rfl, hR8⟩ := hO8.rd (by omega); have HR8 := Lib.hid hR8; have HG8 := Lib.hid hG8; clear hO8 hG8 hA8 hR8)
        have HB8 := Lib.hid (HB7.out.grown HG8.out (by omega) (fun q hq => by have := (HO7.out.blk q hq).1; omega))
        refine (pk_Untexts A8 (nt + n3) c8 (T ++ R) w8 HR8.out).mono ?_
        rintro e w9 ⟨u9, rfl, hO9, hB9⟩
        have HB9 := Lib.hid (HB8.out.trans (hB9.mono HB8.out.size))
        clear hO9 hB9
        by_cases hR0 : n3 = 0
        · have hRn : R = [] := List.eq_nil_of_length_eq_zero (by rw [HL3.out]; exact hR0)
          have hg0 : (uxA (T ++ R)).2 = 0 := by rw [hRn, List.append_nil, HUB.out]
          rw [hg0]
          have hn30 : ((n3 : Int) == 0) = true := by simp; omega
          clear hg0 hRn
          go_wp2_with fail
          refine (l2_own A2 n2 c2 D w9 (HR2.out.ext HB9.out)).mono ?_
          rintro e w20 ⟨u20, rfl, hO20, hB20⟩
          obtain ⟨A20, c20, rfl, hR20⟩ := hO20.rd (by omega)
          have HR20 := Lib.hid hR20
          have HB20 := Lib.hid (HB9.out.trans (hB20.mono HB9.out.size))
          clear hO20 hB20 hR20
          go_wp2_with fail
          refine (pk_Untexts A20 n2 c20 D w20 HR20.out).mono ?_
          rintro e w21 ⟨u21, rfl, hO21, hB21⟩
          have HB21 := Lib.hid (HB20.out.trans (hB21.mono HB20.out.size))
          have HDA := Lib.hid (uxA_ok D)
          have HDN := Lib.hid (uxA_nil D)
          obtain ⟨X, hX⟩ : ∃ X, X = (uxA D).1 := ⟨_, rfl⟩
          obtain ⟨ue, hue⟩ : ∃ ue, ue = (uxA D).2 := ⟨_, rfl⟩
          rw [← hX] at hO21 HDA HDN
          rw [← hue] at HDA HDN ⊢
          obtain ⟨m, hm⟩ : ∃ m, m = X.length := ⟨_, rfl⟩
          rw [← hm] at hO21
          have HM := Lib.hid hm
          clear hX hue hB21 hm
          by_cases hue0 : ue = 0
          · subst hue0
            obtain ⟨h1, h2, h3⟩ := HDA.out rfl
            have HM3 := Lib.hid (show m ≤ 4096 by rw [HM.out]; exact h3)
            obtain ⟨A21, c21, rfl, hR21⟩ := hO21.rd (by have := HM3.out; omega)
            have HR21 := Lib.hid hR21
            have htx := txL_whole X h3 (by rw [← h2]; exact h1)
            rw [← h2, ← HM.out] at htx
            have HTX := Lib.hid htx
            have hXs : ∀ s ∈ X, s.size ≤ 140737488351232 := fun s hs => by
              have h4 := tcat_mem hs
              have h5 := congrArg List.length h2
              unfold tall at h5
              rw [List.length_append] at h5
              omega
            have HXS := Lib.hid hXs
            have HD1 := Lib.hid h1
            clear hO21 hR21 h1 h2 h3 htx hXs
            go_wp2_with fail
            refine (pk_Texts A21 m c21 X w21 HR21.out HXS.out).mono ?_
            rintro e w22 hP
            rw [HTX.out] at hP
            obtain ⟨Ax, nx, cx, LL, rfl, hRx, hLL, hnx⟩ := hP.rd HD1.out
            rw [if_pos rfl] at hLL
            subst hLL
            have HRx := Lib.hid hRx
            have HB22 := Lib.hid (HB21.out.trans (hP.2.2.mono HB21.out.size))
            clear hP hRx
            go_wp2_with fail
            refine (l2_same Ax A2 nx cx n2 c2 LL LL w22 HRx.out (HR2.out.ext HB22.out)).mono ?_
            rintro e w23 ⟨rfl, rfl⟩
            rw [decide_eq_true rfl]
            go_wp2
            go_ret
            exact ⟨by simp, HB22.out⟩
          · have hue1 : (ue != 0) = true := by simpa using hue0
            obtain ⟨A21, c21, rfl⟩ := hO21.slice
            have hm0 : m = 0 := by rw [HM.out, HDN.out hue0]; rfl
            subst hm0
            clear hue0 hO21
            go_wp2
            go_ret
            exact ⟨by simp, HB21.out⟩
        · have hRn : R ≠ [] := fun h => hR0 (by rw [← HL3.out, h]; rfl)
          obtain ⟨ge, hge⟩ : ∃ ge, ge = (uxA (T ++ R)).2 := ⟨_, rfl⟩
          have hg0 := HUE.out hRn
          rw [← hge] at hg0 ⊢
          have hg1 : (ge == 0) = false := by simpa using hg0
          have hn30 : ((n3 : Int) == 0) = false := by simp; omega
          clear hg0 hRn hge
          go_wp2_with fail
          refine (l2_own A2 n2 c2 D w9 (HR2.out.ext HB9.out)).mono ?_
          rintro e w20 ⟨u20, rfl, hO20, hB20⟩
          obtain ⟨A20, c20, rfl, hR20⟩ := hO20.rd (by omega)
          have HR20 := Lib.hid hR20
          have HB20 := Lib.hid (HB9.out.trans (hB20.mono HB9.out.size))
          clear hO20 hB20 hR20
          go_wp2_with fail
          refine (pk_Untexts A20 n2 c20 D w20 HR20.out).mono ?_
          rintro e w21 ⟨u21, rfl, hO21, hB21⟩
          have HB21 := Lib.hid (HB20.out.trans (hB21.mono HB20.out.size))
          have HDA := Lib.hid (uxA_ok D)
          have HDN := Lib.hid (uxA_nil D)
          obtain ⟨X, hX⟩ : ∃ X, X = (uxA D).1 := ⟨_, rfl⟩
          obtain ⟨ue, hue⟩ : ∃ ue, ue = (uxA D).2 := ⟨_, rfl⟩
          rw [← hX] at hO21 HDA HDN
          rw [← hue] at HDA HDN ⊢
          obtain ⟨m, hm⟩ : ∃ m, m = X.length := ⟨_, rfl⟩
          rw [← hm] at hO21
          have HM := Lib.hid hm
          clear hX hue hB21 hm
          by_cases hue0 : ue = 0
          · subst hue0
            obtain ⟨h1, h2, h3⟩ := HDA.out rfl
            have HM3 := Lib.hid (show m ≤ 4096 by rw [HM.out]; exact h3)
            obtain ⟨A21, c21, rfl, hR21⟩ := hO21.rd (by have := HM3.out; omega)
            have HR21 := Lib.hid hR21
            have htx := txL_whole X h3 (by rw [← h2]; exact h1)
            rw [← h2, ← HM.out] at htx
            have HTX := Lib.hid htx
            have hXs : ∀ s ∈ X, s.size ≤ 140737488351232 := fun s hs => by
              have h4 := tcat_mem hs
              have h5 := congrArg List.length h2
              unfold tall at h5
              rw [List.length_append] at h5
              omega
            have HXS := Lib.hid hXs
            have HD1 := Lib.hid h1
            clear hO21 hR21 h1 h2 h3 htx hXs
            go_wp2_with fail
            refine (pk_Texts A21 m c21 X w21 HR21.out HXS.out).mono ?_
            rintro e w22 hP
            rw [HTX.out] at hP
            obtain ⟨Ax, nx, cx, LL, rfl, hRx, hLL, hnx⟩ := hP.rd HD1.out
            rw [if_pos rfl] at hLL
            subst hLL
            have HRx := Lib.hid hRx
            have HB22 := Lib.hid (HB21.out.trans (hP.2.2.mono HB21.out.size))
            clear hP hRx
            go_wp2_with fail
            refine (l2_same Ax A2 nx cx n2 c2 LL LL w22 HRx.out (HR2.out.ext HB22.out)).mono ?_
            rintro e w23 ⟨rfl, rfl⟩
            rw [decide_eq_true rfl]
            go_wp2
            go_ret
            exact ⟨by simp, HB22.out⟩
          · have hue1 : (ue != 0) = true := by simpa using hue0
            obtain ⟨A21, c21, rfl⟩ := hO21.slice
            have hm0 : m = 0 := by rw [HM.out, HDN.out hue0]; rfl
            subst hm0
            clear hue0 hO21
            go_wp2
            go_ret
            exact ⟨by simp, HB21.out⟩
      · have e1 : decide ((n : Int) ≤ 4096) = true := decide_eq_true (by omega)
        have e2 : decide (2 + (t : Int) ≤ 1048576) = false := decide_eq_false (by omega)
        have e3 : (n : Int) ≤ 4096 := by omega
        have e4 : ¬ 2 + (t : Int) ≤ 1048576 := by omega
        clear h1 h2
        go_wp2_with fail
        refine (l2_own A2 n2 c2 D w1 (HR2.out.ext HB1.out)).mono ?_
        rintro e w20 ⟨u20, rfl, hO20, hB20⟩
        obtain ⟨A20, c20, rfl, hR20⟩ := hO20.rd (by omega)
        have HR20 := Lib.hid hR20
        have HB20 := Lib.hid (HB1.out.trans (hB20.mono HB1.out.size))
        clear hO20 hB20 hR20
        go_wp2_with fail
        refine (pk_Untexts A20 n2 c20 D w20 HR20.out).mono ?_
        rintro e w21 ⟨u21, rfl, hO21, hB21⟩
        have HB21 := Lib.hid (HB20.out.trans (hB21.mono HB20.out.size))
        have HDA := Lib.hid (uxA_ok D)
        have HDN := Lib.hid (uxA_nil D)
        obtain ⟨X, hX⟩ : ∃ X, X = (uxA D).1 := ⟨_, rfl⟩
        obtain ⟨ue, hue⟩ : ∃ ue, ue = (uxA D).2 := ⟨_, rfl⟩
        rw [← hX] at hO21 HDA HDN
        rw [← hue] at HDA HDN ⊢
        obtain ⟨m, hm⟩ : ∃ m, m = X.length := ⟨_, rfl⟩
        rw [← hm] at hO21
        have HM := Lib.hid hm
        clear hX hue hB21 hm
        by_cases hue0 : ue = 0
        · subst hue0
          obtain ⟨h1, h2, h3⟩ := HDA.out rfl
          have HM3 := Lib.hid (show m ≤ 4096 by rw [HM.out]; exact h3)
          obtain ⟨A21, c21, rfl, hR21⟩ := hO21.rd (by have := HM3.out; omega)
          have HR21 := Lib.hid hR21
          have htx := txL_whole X h3 (by rw [← h2]; exact h1)
          rw [← h2, ← HM.out] at htx
          have HTX := Lib.hid htx
          have hXs : ∀ s ∈ X, s.size ≤ 140737488351232 := fun s hs => by
            have h4 := tcat_mem hs
            have h5 := congrArg List.length h2
            unfold tall at h5
            rw [List.length_append] at h5
            omega
          have HXS := Lib.hid hXs
          have HD1 := Lib.hid h1
          clear hO21 hR21 h1 h2 h3 htx hXs
          go_wp2_with fail
          refine (pk_Texts A21 m c21 X w21 HR21.out HXS.out).mono ?_
          rintro e w22 hP
          rw [HTX.out] at hP
          obtain ⟨Ax, nx, cx, LL, rfl, hRx, hLL, hnx⟩ := hP.rd HD1.out
          rw [if_pos rfl] at hLL
          subst hLL
          have HRx := Lib.hid hRx
          have HB22 := Lib.hid (HB21.out.trans (hP.2.2.mono HB21.out.size))
          clear hP hRx
          go_wp2_with fail
          refine (l2_same Ax A2 nx cx n2 c2 LL LL w22 HRx.out (HR2.out.ext HB22.out)).mono ?_
          rintro e w23 ⟨rfl, rfl⟩
          rw [decide_eq_true rfl]
          go_wp2
          go_ret
          exact ⟨by simp, HB22.out⟩
        · have hue1 : (ue != 0) = true := by simpa using hue0
          obtain ⟨A21, c21, rfl⟩ := hO21.slice
          have hm0 : m = 0 := by rw [HM.out, HDN.out hue0]; rfl
          subst hm0
          clear hue0 hO21
          go_wp2
          go_ret
          exact ⟨by simp, HB21.out⟩
      · have e1 : decide ((n : Int) ≤ 4096) = false := decide_eq_false (by omega)
        have e3 : ¬ (n : Int) ≤ 4096 := by omega
        clear h1
        go_wp2_with fail
        refine (l2_own A2 n2 c2 D w1 (HR2.out.ext HB1.out)).mono ?_
        rintro e w20 ⟨u20, rfl, hO20, hB20⟩
        obtain ⟨A20, c20, rfl, hR20⟩ := hO20.rd (by omega)
        have HR20 := Lib.hid hR20
        have HB20 := Lib.hid (HB1.out.trans (hB20.mono HB1.out.size))
        clear hO20 hB20 hR20
        go_wp2_with fail
        refine (pk_Untexts A20 n2 c20 D w20 HR20.out).mono ?_
        rintro e w21 ⟨u21, rfl, hO21, hB21⟩
        have HB21 := Lib.hid (HB20.out.trans (hB21.mono HB20.out.size))
        have HDA := Lib.hid (uxA_ok D)
        have HDN := Lib.hid (uxA_nil D)
        obtain ⟨X, hX⟩ : ∃ X, X = (uxA D).1 := ⟨_, rfl⟩
        obtain ⟨ue, hue⟩ : ∃ ue, ue = (uxA D).2 := ⟨_, rfl⟩
        rw [← hX] at hO21 HDA HDN
        rw [← hue] at HDA HDN ⊢
        obtain ⟨m, hm⟩ : ∃ m, m = X.length := ⟨_, rfl⟩
        rw [← hm] at hO21
        have HM := Lib.hid hm
        clear hX hue hB21 hm
        by_cases hue0 : ue = 0
        · subst hue0
          obtain ⟨h1, h2, h3⟩ := HDA.out rfl
          have HM3 := Lib.hid (show m ≤ 4096 by rw [HM.out]; exact h3)
          obtain ⟨A21, c21, rfl, hR21⟩ := hO21.rd (by have := HM3.out; omega)
          have HR21 := Lib.hid hR21
          have htx := txL_whole X h3 (by rw [← h2]; exact h1)
          rw [← h2, ← HM.out] at htx
          have HTX := Lib.hid htx
          have hXs : ∀ s ∈ X, s.size ≤ 140737488351232 := fun s hs => by
            have h4 := tcat_mem hs
            have h5 := congrArg List.length h2
            unfold tall at h5
            rw [List.length_append] at h5
            omega
          have HXS := Lib.hid hXs
          have HD1 := Lib.hid h1
          clear hO21 hR21 h1 h2 h3 htx hXs
          go_wp2_with fail
          refine (pk_Texts A21 m c21 X w21 HR21.out HXS.out).mono ?_
          rintro e w22 hP
          rw [HTX.out] at hP
          obtain ⟨Ax, nx, cx, LL, rfl, hRx, hLL, hnx⟩ := hP.rd HD1.out
          rw [if_pos rfl] at hLL
          subst hLL
          have HRx := Lib.hid hRx
          have HB22 := Lib.hid (HB21.out.trans (hP.2.2.mono HB21.out.size))
          clear hP hRx
          go_wp2_with fail
          refine (l2_same Ax A2 nx cx n2 c2 LL LL w22 HRx.out (HR2.out.ext HB22.out)).mono ?_
          rintro e w23 ⟨rfl, rfl⟩
          rw [decide_eq_true rfl]
          go_wp2
          go_ret
          exact ⟨by simp, HB22.out⟩
        · have hue1 : (ue != 0) = true := by simpa using hue0
          obtain ⟨A21, c21, rfl⟩ := hO21.slice
          have hm0 : m = 0 := by rw [HM.out, HDN.out hue0]; rfl
          subst hm0
          clear hue0 hO21
          go_wp2
          go_ret
          exact ⟨by simp, HB21.out⟩
end Go.Proofs.Ytclafljkeaekfaa
