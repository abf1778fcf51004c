/- Walks: Compare, the reference's Compare, fixed. -/
import Derived.Test.YtdgcfhlfihpbiaaDoorKy4
import Derived.Test.YtdgcfhlfihpbiaaDoorKyM2
import Derived.Laws.Cover1
set_option linter.unusedVariables false
set_option linter.unusedSimpArgs false
set_option maxRecDepth 100000
namespace Go.Proofs.YtdgcfhlfihpbiaaDoor
open Go.RowKit
theorem kl_cmp (x y : ByteArray) (w : World) :
    Calls Tryd.prog 40 #[.string x, .string y] w fun e w' => e = .returned (.int .i64 (cmS x y)) ∧ w' = w := by
  rcases cmS_cases x y with ⟨h1, h2, h3⟩ | ⟨h1, h2, h3⟩ | ⟨h1, h2, h3⟩
  · have H1 := Lib.hid h1
    subst h2
    have h4 : Op.bytesLess x.toList x.toList = false := h3
    clear h1 h3
    go_enter Tryd.func40, Tryd.ntmps40
    go_wp2
    go_ret
    rw [H1.out]; exact ⟨by simp, rfl⟩
  · have H1 := Lib.hid h1
    have h4 : Op.bytesLess x.toList y.toList = true := h2
    clear h1 h2 h3
    go_enter Tryd.func40, Tryd.ntmps40
    go_wp2
    go_ret
    rw [H1.out]; exact ⟨by simp, rfl⟩
  · have H1 := Lib.hid h1
    have h4 : Op.bytesLess x.toList y.toList = false := h2
    have h5 : (x.toList == y.toList) = false := beq_eq_false_iff_ne.2 (fun h => h3 (toList_inj' h))
    clear h1 h2 h3
    go_enter Tryd.func40, Tryd.ntmps40
    go_wp2
    go_ret
    rw [H1.out]; exact ⟨by simp, rfl⟩
theorem kl_slices (A A' : Option Addr) (n c n' c' : Nat) (l l' : List ByteArray) (w : World) (hr : RdT w A n c l) (hr' : RdT w A' n' c' l') :
    Calls Tryd.prog 35 #[.slice A n c, .slice A' n' c'] w fun e w' => e = .returned (.int .i64 (cmT l l')) ∧ w' = w := by
  have HR := Lib.hid hr
  have HR' := Lib.hid hr'
  have hm := hr.max
  have hm' := hr'.max
  have HL := Lib.hid hr.len
  have HL' := Lib.hid hr'.len
  clear hr hr'
  obtain ⟨t, ht⟩ : ∃ t, t = cmT l l' := ⟨_, rfl⟩
  rw [← ht]
  have HT := Lib.hid ht
  clear ht
  go_enter Tryd.func35, Tryd.ntmps35
  go_wp2_with fail
  go_loop [11] (fun x => ∃ k : Nat, k ≤ n ∧ k ≤ n' ∧ x = .int .i64 k ∧ t = cmT (l.drop k) (l'.drop k)) (fun x => n - (intOf x).toNat)
  case atStart => exact ⟨0, by omega, by omega, rfl, by simpa using HT.out⟩
  case round =>
    obtain ⟨k, hk, hk', rfl, hE⟩ := hrel
    have HE := Lib.hid hE
    clear hE
    by_cases hkn : k < n
    · obtain ⟨bb, oo, rfl, hc⟩ := HR.out.at_ (by omega)
      have hck := hc k hkn
      obtain ⟨x, hx⟩ : ∃ x, x = l.getD k default := ⟨_, rfl⟩
      rw [← hx] at hck
      have hk0 : (0 : Int) ≤ (k : Int) ∧ (k : Int) < (n : Int) := by omega
      clear hc
      by_cases hkn' : k < n'
      · obtain ⟨b2, o2, rfl, hc2⟩ := HR'.out.at_ (by omega)
        have hck2 := hc2 k hkn'
        obtain ⟨y, hy⟩ : ∃ y, y = l'.getD k default := ⟨_, rfl⟩
        rw [← hy] at hck2
        have hst := cmT_step l l' k (by rw [HL.out]; exact hkn) (by rw [HL'.out]; exact hkn')
        rw [← hx, ← hy, ← HE.out] at hst
        have hge : ¬ (n' : Int) ≤ (k : Int) := by omega
        have hgd : decide ((n' : Int) ≤ (k : Int)) = false := decide_eq_false hge
        obtain ⟨d, hd⟩ : ∃ d, d = cmS x y := ⟨_, rfl⟩
        rw [← hd] at hst
        have HD := Lib.hid hd
        clear hc2 hx hy hd
        by_cases h0 : d = 0
        · have h01 : (d != 0) = false := by simp [h0]
          rw [if_pos h0] at hst
          have HST := Lib.hid hst
          clear hst h0
          go_wp2_with fail
          refine (kl_cmp x y w).mono ?_
          rintro e w' ⟨rfl, rfl⟩
          rw [← HD.out]
          go_wp2
          go_round
          case rel => exact ⟨k + 1, by omega, by omega, by go_num, HST.out⟩
          case measure => simp [intOf]; omega
        · have h01 : (d != 0) = true := by simpa using h0
          rw [if_neg h0] at hst
          have HST := Lib.hid hst
          clear hst h0
          go_wp2_with fail
          refine (kl_cmp x y w).mono ?_
          rintro e w' ⟨rfl, rfl⟩
          rw [← HD.out]
          go_wp2
          go_ret
          rw [HST.out]; exact ⟨by simp, rfl⟩
      · have hge : (n' : Int) ≤ (k : Int) := by omega
        have hgd : decide ((n' : Int) ≤ (k : Int)) = true := decide_eq_true hge
        have HST := Lib.hid (show t = 1 by rw [HE.out]; exact cmT_end2 l l' k (by rw [HL.out]; exact hkn) (by rw [HL'.out]; omega))
        clear hx
        go_wp2
        go_ret
        rw [HST.out]; exact ⟨by simp, rfl⟩
    · obtain rfl : n = k := by omega
      by_cases hnn : n < n'
      · have hd1 : (n : Int) < (n' : Int) := by omega
        have HST := Lib.hid (show t = -1 by rw [HE.out]; exact cmT_end1 l l' n (by rw [HL.out]; exact Nat.le_refl _) (by rw [HL'.out]; exact hnn))
        go_wp2
        go_ret
        rw [HST.out]; exact ⟨by simp, rfl⟩
      · have hd1 : ¬ (n : Int) < (n' : Int) := by omega
        have HST := Lib.hid (show t = 0 by rw [HE.out]; exact cmT_end0 l l' n (by rw [HL.out]; exact Nat.le_refl _) (by rw [HL'.out]; omega))
        go_wp2
        go_ret
        rw [HST.out]; exact ⟨by simp, rfl⟩
theorem ky_Compare (A A' : Option Addr) (n c n' c' : Nat) (l l' : List ByteArray) (w : World) (hr : RdT w A n c l) (hr' : RdT w A' n' c' l') :
    Calls Tryd.prog 18 #[.slice A n c, .slice A' n' c'] w fun e w' => e = .returned (.int .i64 (cmT l l')) ∧ w' = w := by
  have HC := Lib.hid (kl_slices A A' n c n' c' l l' w hr hr')
  clear hr hr'
  go_enter Tryd.func18, Tryd.ntmps18
  go_wp2_with fail
  refine HC.out.mono ?_
  rintro e w' ⟨rfl, rfl⟩
  go_wp2
  go_ret
  exact ⟨by simp, rfl⟩
theorem kr_Compare (A A' : Option Addr) (n c n' c' : Nat) (l l' : List ByteArray) (w : World) (hr : RdT w A n c l) (hr' : RdT w A' n' c' l') :
    Calls Tryd.prog 19 #[.slice A n c, .slice A' n' c'] w fun e w' => e = .returned (.int .i64 (cmT l l')) ∧ Only [] w w' := by
  have HR := Lib.hid hr
  have HR' := Lib.hid hr'
  have hm := hr.max
  have hm' := hr'.max
  have HL := Lib.hid hr.len
  have HL' := Lib.hid hr'.len
  clear hr hr'
  obtain ⟨t, ht⟩ : ∃ t, t = cmT l l' := ⟨_, rfl⟩
  rw [← ht]
  have HT := Lib.hid ht
  clear ht
  go_enter Tryd.func19, Tryd.ntmps19
  go_wp2_with fail
  go_loopw [5] (fun x wx => ∃ k : Nat, k ≤ n ∧ k ≤ n' ∧ x = .int .i64 k ∧ t = cmT (l.drop k) (l'.drop k) ∧ Only [] w wx) (fun x _ => n - (intOf x).toNat)
  case atStart => exact ⟨0, by omega, by omega, rfl, by simpa using HT.out, Only.refl _ _⟩
  case round =>
    obtain ⟨k, hk, hk', rfl, hE, hO⟩ := hrel
    have HE := Lib.hid hE
    have HO := Lib.hid hO
    clear hE hO
    by_cases hkk : k < n ∧ k < n'
    · obtain ⟨hkn, hkn'⟩ := hkk
      obtain ⟨bb, oo, rfl, hc⟩ := (HR.out.keep HO.out (by simp)).at_ (by omega)
      have hck := hc k hkn
      obtain ⟨x, hx⟩ : ∃ x, x = l.getD k default := ⟨_, rfl⟩
      rw [← hx] at hck
      have hk0 : (0 : Int) ≤ (k : Int) ∧ (k : Int) < (n : Int) ∧ (k : Int) < (n' : Int) := by omega
      obtain ⟨b2, o2, rfl, hc2⟩ := (HR'.out.keep HO.out (by simp)).at_ (by omega)
      have hck2 := hc2 k hkn'
      obtain ⟨y, hy⟩ : ∃ y, y = l'.getD k default := ⟨_, rfl⟩
      rw [← hy] at hck2
      have hst := cmT_step l l' k (by rw [HL.out]; exact hkn) (by rw [HL'.out]; exact hkn')
      rw [← hx, ← hy, ← HE.out] at hst
      have e1 : (k : Int) < (n : Int) := by omega
      have e2 : (k : Int) < (n' : Int) := by omega
      clear hc hc2 hx hy
      rcases cmS_cases x y with ⟨h1, h2, h3⟩ | ⟨h1, h2, h3⟩ | ⟨h1, h2, h3⟩
      · rw [if_pos h1] at hst
        have HST := Lib.hid hst
        subst h2
        have h4 : Op.bytesLess x.toList x.toList = false := h3
        clear hst h1 h3
        go_wp2_with fail
        go_quiet ((fail))
        go_wp2_with fail
        go_quiet ((fail))
        go_wp2
        go_roundw
        case rel => exact ⟨k + 1, by omega, by omega, by go_num, HST.out, HO.out.drewN _⟩
        case measure => simp [intOf]; omega
      · rw [if_neg (by rw [h1]; decide), h1] at hst
        have HST := Lib.hid hst
        have h4 : Op.bytesLess x.toList y.toList = true := h2
        clear hst h1 h2 h3
        go_wp2_with fail
        go_quiet ((fail))
        go_wp2
        go_ret
        rw [HST.out]; exact ⟨by simp, HO.out.drewN _⟩
      · rw [if_neg (by rw [h1]; decide), h1] at hst
        have HST := Lib.hid hst
        have h4 : Op.bytesLess x.toList y.toList = false := h2
        have h5 : (x.toList == y.toList) = false := beq_eq_false_iff_ne.2 (fun h => h3 (toList_inj' h))
        clear hst h1 h2 h3
        go_wp2_with fail
        go_quiet ((fail))
        go_wp2_with fail
        go_quiet ((fail))
        go_wp2
        go_ret
        rw [HST.out]; exact ⟨by simp, (HO.out.drewN _).drewN _⟩
    · have hex : (¬ (k : Int) < (n : Int)) ∨ ((k : Int) < (n : Int) ∧ ¬ (k : Int) < (n' : Int)) := by omega
      have htri : (n < n' ∧ t = -1) ∨ (n' < n ∧ t = 1) ∨ (n = n' ∧ t = 0) := by
        rcases Nat.lt_trichotomy n n' with h | h | h
        · have : k = n := by omega
          exact .inl ⟨h, by rw [HE.out]; exact cmT_end1 l l' k (by rw [HL.out]; omega) (by rw [HL'.out]; omega)⟩
        · exact .inr (.inr ⟨h, by rw [HE.out]; exact cmT_end0 l l' k (by rw [HL.out]; omega) (by rw [HL'.out]; omega)⟩)
        · have : k = n' := by omega
          exact .inr (.inl ⟨h, by rw [HE.out]; exact cmT_end2 l l' k (by rw [HL.out]; omega) (by rw [HL'.out]; omega)⟩)
      clear hkk
      rcases hex with h1 | ⟨h1, h1'⟩
      all_goals (
        rcases htri with ⟨h2, h3⟩ | ⟨h2, h3⟩ | ⟨h2, h3⟩
        · have HST := Lib.hid h3
          have e1 : (n : Int) < (n' : Int) := by omega
          clear h3 h2
          go_wp2
          go_ret
          rw [HST.out]; exact ⟨by simp, HO.out⟩
        · have HST := Lib.hid h3
          have e1 : ¬ (n : Int) < (n' : Int) := by omega
          have e2 : (n' : Int) < (n : Int) := by omega
          clear h3 h2
          go_wp2
          go_ret
          rw [HST.out]; exact ⟨by simp, HO.out⟩
        · have HST := Lib.hid h3
          have e1 : ¬ (n : Int) < (n' : Int) := by omega
          have e2 : ¬ (n' : Int) < (n : Int) := by omega
          clear h3 h2
          go_wp2
          go_ret
          rw [HST.out]; exact ⟨by simp, HO.out⟩)
def fa : ByteArray := ⟨#[97]⟩
def fb : ByteArray := ⟨#[98]⟩
def fk : ByteArray := ⟨#[97, 0, 1, 98, 0, 1]⟩
theorem f_mk : mkA [fa, fb] = (fk, 0) := by decide
theorem f_sp : spA fk.data.toList = ([fa, fb], 0) := by decide
theorem f_cm : cmT [fa] [fa, fb] = -1 := by
  have h1 : cmS fa fa = 0 := by unfold cmS; rw [ltS_irr]; simp
  rw [cmT, if_pos h1]; rfl
set_option maxHeartbeats 1000000 in
theorem l5_fixed (w : World) (hm : MaxL w) : Calls Tryd.prog 13 #[] w fun e w' => e = .returned (.bool true) ∧ Below w.heap.size w w' := by
  have HM := Lib.hid hm
  have HP := Lib.hid hm.pos
  clear hm
  go_enter Tryd.func13, Tryd.ntmps13
  go_wp2_with fail
  have hB0 : Below w.heap.size w (w.alloc (.cells #[.string ⟨#[97]⟩, .string ⟨#[98]⟩] 9)) := (Below.refl _ w).alloc (Nat.le_refl _) _
  refine (ky_Make _ 2 2 [fa, fb] _ (RdT.lit w [fa, fb] 2 rfl (by omega)) (by decide) (HM.out.ext hB0 HP.out)).mono ?_
  rintro e w1 ⟨rfl, hB1⟩
  rw [f_mk]
  have HB1 := Lib.hid (hB0.trans (hB1.mono (by simp)))
  clear hB0 hB1
  go_wp2_with fail
  refine (ky_Split fk w1 (by decide)).mono ?_
  rintro e w2 ⟨u, rfl, hO2, hB2⟩
  rw [f_sp] at hO2 ⊢
  obtain ⟨A2, c2, rfl, hR2⟩ := hO2.rd (by decide)
  have HR2 := Lib.hid hR2
  have HB2 := Lib.hid (HB1.out.trans (hB2.mono HB1.out.size))
  clear hO2 hB2 hR2
  dsimp only
  have hfe : (fk.toList == [97, 0, 1, 98, 0, 1]) = true := by rw [ByteArray.toList_eq]; rfl
  go_wp2_with fail
  refine (l5_same A2 _ 2 c2 2 2 [fa, fb] [fa, fb] _ (HR2.out.ext ((Below.refl _ w2).alloc (Nat.le_refl _) _)) (RdT.lit w2 [fa, fb] 2 rfl (by omega))).mono ?_
  rintro e w3 ⟨rfl, hO3⟩
  rw [decide_eq_true rfl]
  have HB3 := Lib.hid ((HB2.out.alloc HB2.out.size (.cells #[.string ⟨#[97]⟩, .string ⟨#[98]⟩] 9)).trans (hO3.below (by have := HB2.out.size; simp; omega) (by simp)))
  clear hO3
  go_wp2_with fail
  have hra : RdT ((w3.alloc (.cells #[.string ⟨#[97]⟩] 9)).alloc (.cells #[.string ⟨#[97]⟩, .string ⟨#[98]⟩] 9)) (some ⟨w3.heap.size, 0, none⟩) 1 1 [fa] := (RdT.lit w3 [fa] 1 rfl (by omega)).ext ((Below.refl _ _).alloc (Nat.le_refl _) _)
  have hrb : RdT ((w3.alloc (.cells #[.string ⟨#[97]⟩] 9)).alloc (.cells #[.string ⟨#[97]⟩, .string ⟨#[98]⟩] 9)) (some ⟨w3.heap.size + 1, 0, none⟩) 2 2 [fa, fb] := by
    have h := RdT.lit (w3.alloc (.cells #[.string ⟨#[97]⟩] 9)) [fa, fb] 2 rfl (by omega)
    rw [show (w3.alloc (.cells #[.string ⟨#[97]⟩] 9)).heap.size = w3.heap.size + 1 by simp] at h
    exact h
  refine (ky_Compare _ _ 1 1 2 2 [fa] [fa, fb] _ hra hrb).mono ?_
  rintro e w4 ⟨rfl, rfl⟩
  rw [f_cm]
  go_wp2
  go_ret
  have hz := HB3.out.size
  exact ⟨by simp, (HB3.out.alloc hz _).alloc (by simp; omega) _⟩
end Go.Proofs.YtdgcfhlfihpbiaaDoor
