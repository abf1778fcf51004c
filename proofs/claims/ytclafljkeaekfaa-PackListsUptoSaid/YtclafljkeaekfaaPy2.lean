/- Walks of the reference's reader. -/
import Derived.Test.YtclafljkeaekfaaPkY
import Derived.Test.YtclafljkeaekfaaPy1
set_option linter.unusedVariables false
set_option linter.unusedSimpArgs false
set_option maxRecDepth 100000
namespace Go.Proofs.Ytclafljkeaekfaa
open Go.RowKit
theorem rU_un (L : List UInt8) (at_ : Nat) : rU L at_ 0 = ((un 10 (L.drop at_)).2.1, at_ + (un 10 (L.drop at_)).2.2, ((un 10 (L.drop at_)).1 : Int)) := by
  unfold rU
  rw [if_pos rfl]
  rcases un_err 10 (L.drop at_) with h | h | h
  · rw [if_pos h, h]; rfl
  · rw [h]; rfl
  · rw [h]; rfl
theorem un_len (L : List UInt8) : (un 10 L).2.2 ≤ L.length := by
  rcases un_err 10 L with h | h | h
  · exact (nf_un (v := (un 10 L).2.1) (n := (un 10 L).2.2) (l := L) (Prod.ext h rfl)).2.1
  · rw [h]; simp
  · rw [h]; simp
section
variable (b : Nat) (A : Option Addr) (n c : Nat) (L : List UInt8) (at_ : Nat) (e : Int) (w : World)
theorem py_Err (h : IsY w b A n c L at_ e) :
    Calls Try.prog 36 #[.pointer (some ⟨b, 0, none⟩)] w fun e1 w' => e1 = .returned (.int .i64 e) ∧ w' = w := by
  have c2 := h.c2
  clear h
  go_enter Try.func36, Try.ntmps36
  go_wp2
  go_ret
  simp
theorem py_Left (h : IsY w b A n c L at_ e) :
    Calls Try.prog 34 #[.pointer (some ⟨b, 0, none⟩)] w fun e1 w' => e1 = .returned (.int .i64 ((n - at_ : Nat) : Int)) ∧ Only [] w w' := by
  have c0 := h.c0
  have c1 := h.c1
  have hm := h.rd.max
  have hle := h.le
  have hs : ((n : Int) - at_) = ((n - at_ : Nat) : Int) := by omega
  clear h
  go_enter Try.func34, Try.ntmps34
  go_wp2_with fail
  go_quiet ((fail))
  go_wp2
  go_ret
  exact ⟨by simp [hs], (Only.refl _ _).drewN _⟩
set_option maxHeartbeats 1000000 in
theorem py_Uint (h : IsY w b A n c L at_ e) :
    Calls Try.prog 66 #[.pointer (some ⟨b, 0, none⟩)] w fun e1 w' => e1 = .returned (.int .u64 (rU L at_ e).1) ∧ IsY w' b A n c L (rU L at_ e).2.1 (rU L at_ e).2.2 ∧ Only [b] w w' := by
  have H := Lib.hid h
  have c0 := h.c0
  have c1 := h.c1
  have c2 := h.c2
  have f1 := h.fz 1
  have f2 := h.fz 2
  have hn := h.rd.max
  have hle := h.le
  have hl := h.rd.len
  clear h
  by_cases he : e = 0
  · subst he
    obtain ⟨A', ecut, hcut⟩ := cut_from A n c at_ hle
    have hun := rU_un L at_
    have hml := un_len (L.drop at_)
    rw [List.length_drop, hl] at hml
    have hnum : ∀ k, Calls Try.prog 79 #[.slice A' (n - at_) (c - at_)] (w.drewN k) (NumPost (L.drop at_) (w.drewN k)) := fun k => py_number A' (n - at_) (c - at_) (L.drop at_) _ ((hcut w L H.out.rd).drew k)
    unfold NumPost at hnum
    obtain ⟨v, hv⟩ : ∃ v, v = (un 10 (L.drop at_)).2.1 := ⟨_, rfl⟩
    obtain ⟨m, hm⟩ : ∃ m, m = (un 10 (L.drop at_)).2.2 := ⟨_, rfl⟩
    obtain ⟨er, her⟩ : ∃ er, er = (un 10 (L.drop at_)).1 := ⟨_, rfl⟩
    rw [← hv, ← hm, ← her] at hun hnum
    rw [← hm] at hml
    have HU := Lib.hid hun
    have HN := Lib.hid hnum
    have hsum : (at_ : Int) + (m : Int) = ((at_ + m : Nat) : Int) := by omega
    have HSUM := Lib.hid hsum
    clear hcut hun hnum hv hm her hl hsum
    go_enter Try.func66, Try.ntmps66
    go_wp2_with fail
    go_quiet ((go_at_call 79; exact Calls.quiet_of_same (HN.out _)))
    clear ecut
    go_wp2
    go_ret
    rw [HU.out]
    have hI := ((H.out.drew nq).setErr (er : Int)).setAt (at_ + m) (by omega)
    rw [← HSUM.out] at hI
    exact ⟨by simp, hI, (((Only.refl _ w).drewN nq).setCell (by simp) _).setCell (by simp) _⟩
  · have HE := Lib.hid (rU_stuck (L := L) (at_ := at_) he)
    have he2 : (e != 0) = true := by simpa using he
    clear he
    go_enter Try.func66, Try.ntmps66
    go_wp2
    go_ret
    rw [HE.out]
    exact ⟨by simp, H.out, Only.refl _ _⟩
theorem py_Int (h : IsY w b A n c L at_ e) :
    Calls Try.prog 67 #[.pointer (some ⟨b, 0, none⟩)] w fun e1 w' => e1 = .returned (.int .i64 (unzz (rU L at_ e).1)) ∧ IsY w' b A n c L (rU L at_ e).2.1 (rU L at_ e).2.2 ∧ Only [b] w w' := by
  have H := Lib.hid h
  clear h
  go_enter Try.func67, Try.ntmps67
  go_wp2_with fail
  refine (py_Uint b A n c L at_ e w H.out).mono ?_
  rintro e1 w1 ⟨rfl, hI, hO⟩
  have hlt := rU_lt L at_ e
  obtain ⟨v, hv⟩ : ∃ v, v = (rU L at_ e).1 := ⟨_, rfl⟩
  rw [← hv] at hlt ⊢
  have HI := Lib.hid hI
  have HO := Lib.hid hO
  have HLT := Lib.hid hlt
  have hv1 : (v : Int) < 18446744073709551616 := by omega
  have HV := Lib.hid hv
  clear hI hO hv hlt
  rcases Nat.mod_two_eq_zero_or_one v with h2 | h2
  · have hx : (v : Int) % 2 = 0 := by omega
    have HZ := Lib.hid (show unzz v = (v : Int) / 2 by unfold unzz; rw [if_pos h2]; omega)
    clear h2
    go_wp2
    go_ret
    rw [← HV.out, HZ.out]
    exact ⟨by simp, HI.out, HO.out⟩
  · have hx : (v : Int) % 2 = 1 := by omega
    have HZ := Lib.hid (show unzz v = -((v : Int) / 2) - 1 by unfold unzz; rw [if_neg (by omega)]; omega)
    clear h2
    go_wp2
    go_ret
    rw [← HV.out, HZ.out]
    exact ⟨by simp, HI.out, HO.out⟩
theorem IsY.setAtY {b n c at_ : Nat} {A : Option Addr} {L : List UInt8} {e : Int} {w : World} (h : IsY w b A n c L at_ e) (z : Int) (a2 : Nat) (hz : z = a2) (h2 : a2 ≤ n) : IsY (w.setCell ⟨b, 1, none⟩ (.int .i64 z)) b A n c L a2 e := by
  subst hz; exact h.setAt a2 h2
theorem py_Byte (h : IsY w b A n c L at_ e) :
    Calls Try.prog 69 #[.pointer (some ⟨b, 0, none⟩)] w fun e1 w' => e1 = .returned (.int .u8 (rB L at_ e).1.toNat) ∧ IsY w' b A n c L (rB L at_ e).2.1 (rB L at_ e).2.2 ∧ Only [b] w w' := by
  have H := Lib.hid h
  have c0 := h.c0
  have c1 := h.c1
  have c2 := h.c2
  have f1 := h.fz 1
  have f2 := h.fz 2
  have hm := h.rd.max
  have hle := h.le
  have hl := h.rd.len
  clear h
  by_cases he : e = 0
  · subst he
    by_cases hend : at_ = n
    · have HB := Lib.hid (show rB L at_ 0 = (0, at_, 20) by rw [rB, if_pos rfl, if_neg (by omega)])
      have hz : ((at_ : Int) == (n : Int)) = true := by simp; omega
      clear hend hl
      go_enter Try.func69, Try.ntmps69
      go_wp2_with fail
      go_quiet ((fail))
      go_wp2
      go_ret
      rw [HB.out]
      exact ⟨by simp, (H.out.drew _).setErr 20, ((Only.refl _ w).drewN _).setCell (by simp) _⟩
    · obtain ⟨x, hx⟩ : ∃ x, x = L.getD at_ 0 := ⟨_, rfl⟩
      have HB := Lib.hid (show rB L at_ 0 = (x, at_ + 1, 0) by rw [rB, if_pos rfl, if_pos (by omega), hx])
      have hlt : at_ < n := by omega
      have hz : ((at_ : Int) == (n : Int)) = false := by simp; omega
      obtain ⟨bb, oo, rfl, hc⟩ := H.out.rd.at_ (by omega)
      have hcx := hc at_ hlt
      rw [← hx] at hcx
      have hbb := H.out.ne _ rfl
      have hbb2 := Ne.symm hbb
      have hw2 : (0 : Int) ≤ (at_ : Int) ∧ (at_ : Int) < n := by omega
      clear hend hl hx hc
      go_enter Try.func69, Try.ntmps69
      go_wp2_with fail
      go_quiet ((fail))
      go_wp2_with fail
      go_quiet ((fail))
      go_wp2
      go_ret
      rw [HB.out]
      exact ⟨by simp, ((H.out.drew _).setAtY _ (at_ + 1) (by omega) (by omega)).drew _, (((Only.refl _ w).drewN _).setCell (by simp) _).drewN _⟩
  · have HB := Lib.hid (show rB L at_ e = (0, at_, e) by rw [rB, if_neg he])
    have he2 : (e == 0) = false := by simpa using he
    have he3 : (e != 0) = true := by simpa using he
    clear he
    go_enter Try.func69, Try.ntmps69
    go_wp2_with fail
    go_quiet ((fail))
    go_wp2
    go_ret
    rw [HB.out]
    exact ⟨by simp, H.out.drew _, (Only.refl _ w).drewN _⟩
theorem py_Bool (h : IsY w b A n c L at_ e) :
    Calls Try.prog 68 #[.pointer (some ⟨b, 0, none⟩)] w fun e1 w' => e1 = .returned (.bool (rO L at_ e).1) ∧ IsY w' b A n c L (rO L at_ e).2.1 (rO L at_ e).2.2 ∧ Only [b] w w' := by
  have H := Lib.hid h
  have c1 := h.c1
  have hle := h.le
  clear h
  go_enter Try.func68, Try.ntmps68
  go_wp2_with fail
  refine (py_Byte b A n c L at_ e w H.out).mono ?_
  rintro e1 w1 ⟨rfl, hI, hO⟩
  have hE : (rB L at_ e).2.2 ≠ 0 → (rB L at_ e).1 = 0 := by
    unfold rB; split
    · split <;> simp
    · simp
  obtain ⟨x, hx⟩ : ∃ x, x = (rB L at_ e).1 := ⟨_, rfl⟩
  obtain ⟨e9, he9⟩ : ∃ e9, e9 = (rB L at_ e).2.2 := ⟨_, rfl⟩
  obtain ⟨a9, ha9⟩ : ∃ a9, a9 = (rB L at_ e).2.1 := ⟨_, rfl⟩
  rw [← hx, ← he9] at hE
  rw [← hx]
  rw [← he9, ← ha9] at hI
  have k2 := hI.c2
  have k1 := hI.c1
  have g1 := hI.fz 1
  have g2 := hI.fz 2
  have HI := Lib.hid hI
  have HO := Lib.hid hO
  have HX := Lib.hid hx
  have H9 := Lib.hid (And.intro he9 ha9)
  clear hI hO hx he9 ha9
  by_cases h0 : e9 = 0
  · subst h0
    clear hE
    by_cases h1 : 1 < x.toNat
    · have h2 : (1 : Int) < (x.toNat : Int) := by omega
      have HB := Lib.hid (show rO L at_ e = (false, at_, 21) by rw [rO, ← HX.out, if_pos h1])
      clear h1
      go_wp2
      go_ret
      rw [HB.out]
      exact ⟨by simp, (HI.out.setErr 21).setAt at_ hle, (HO.out.setCell (by simp) _).setCell (by simp) _⟩
    · have h2 : ¬ (1 : Int) < (x.toNat : Int) := by omega
      have HB := Lib.hid (show rO L at_ e = (x.toNat == 1, a9, 0) by rw [rO, ← HX.out, if_neg h1, ← H9.out.1, ← H9.out.2])
      have hq : ((x.toNat : Int) == 1) = (x.toNat == 1) := by
        rcases (show x.toNat = 0 ∨ x.toNat = 1 by omega) with h | h <;> rw [h] <;> rfl
      clear h1
      go_wp2
      go_ret
      rw [HB.out]
      exact ⟨by simp, HI.out, HO.out⟩
  · have hx0 := hE h0
    subst hx0
    have HB := Lib.hid (show rO L at_ e = (false, a9, e9) by rw [rO, ← HX.out, if_neg (by simp), ← H9.out.1, ← H9.out.2]; rfl)
    have he2 : (e9 == 0) = false := by simpa using h0
    clear h0 hE
    go_wp2
    go_ret
    rw [HB.out]
    exact ⟨by simp, HI.out, HO.out⟩
theorem py_Count (most : Int) (hmo : -9223372036854775808 ≤ most ∧ most < 9223372036854775808) (h : IsY w b A n c L at_ e) :
    Calls Try.prog 71 #[.pointer (some ⟨b, 0, none⟩), .int .i64 most] w fun e1 w' => e1 = .returned (.int .i64 (rC L at_ e most).1) ∧ IsY w' b A n c L (rC L at_ e most).2.1 (rC L at_ e most).2.2 ∧ Only [b] w w' := by
  have H := Lib.hid h
  have c1 := h.c1
  have hle := h.le
  clear h
  go_enter Try.func71, Try.ntmps71
  go_wp2_with fail
  refine (py_Uint b A n c L at_ e w H.out).mono ?_
  rintro e1 w1 ⟨rfl, hI, hO⟩
  have hlt := rU_lt L at_ e
  obtain ⟨v, hv⟩ : ∃ v, v = (rU L at_ e).1 := ⟨_, rfl⟩
  obtain ⟨a1, ha⟩ : ∃ a1, a1 = (rU L at_ e).2.1 := ⟨_, rfl⟩
  obtain ⟨e1, hee⟩ : ∃ e1, e1 = (rU L at_ e).2.2 := ⟨_, rfl⟩
  rw [← hv] at hlt ⊢
  rw [← ha, ← hee] at hI
  have hC : rC L at_ e most = if e1 ≠ 0 then (0, a1, e1) else if most < (v : Int) ∨ 4096 < v then (0, at_, 23) else (v, a1, 0) := by rw [rC, ← hv, ← ha, ← hee]
  have HC := Lib.hid hC
  have HI := Lib.hid hI
  have HO := Lib.hid hO
  have k1 := hI.c1
  have k2 := hI.c2
  have g1 := hI.fz 1
  have g2 := hI.fz 2
  have hv1 : (v : Int) < 18446744073709551616 := by omega
  clear hI hO hv ha hee hlt hC
  by_cases he : e1 = 0
  · subst he
    have bad : ∀ P : Prop, P → (most < (v : Int) ∨ 4096 < v) → rC L at_ e most = (0, at_, 23) := fun P _ hb => by rw [HC.out, if_neg (by simp), if_pos hb]
    by_cases h1 : most < 0
    · have HB := Lib.hid (bad True trivial (.inl (by omega)))
      clear bad
      go_wp2
      go_ret
      rw [HB.out]
      exact ⟨by simp, (HI.out.setErr 23).setAt at_ hle, (HO.out.setCell (by simp) _).setCell (by simp) _⟩
    · obtain ⟨m, rfl⟩ := Int.eq_ofNat_of_zero_le (show 0 ≤ most by omega)
      have hwm : IntKind.u64.wrap (m : Int) = (m : Int) := IntWalk.u64_in _ (by omega)
      have HMO := Lib.hid hmo
      clear hmo hv1 h1
      by_cases h2 : (m : Int) < (v : Int)
      · have HB := Lib.hid (bad True trivial (.inl h2))
        clear bad
        go_wp2
        go_ret
        rw [HB.out]
        exact ⟨by simp, (HI.out.setErr 23).setAt at_ hle, (HO.out.setCell (by simp) _).setCell (by simp) _⟩
      · by_cases h3 : (4096 : Int) < (v : Int)
        · have HB := Lib.hid (bad True trivial (.inr (by omega)))
          clear bad
          go_wp2
          go_ret
          rw [HB.out]
          exact ⟨by simp, (HI.out.setErr 23).setAt at_ hle, (HO.out.setCell (by simp) _).setCell (by simp) _⟩
        · have HB := Lib.hid (show rC L at_ e m = (v, a1, 0) by rw [HC.out, if_neg (by simp), if_neg (by omega)])
          have h4 : (v : Int) ≤ 4096 := by omega
          clear bad
          go_wp2
          go_ret
          rw [HB.out]
          exact ⟨by simp, HI.out, HO.out⟩
  · have HB := Lib.hid (show rC L at_ e most = (0, a1, e1) by rw [HC.out, if_pos he])
    have he2 : (e1 != 0) = true := by simpa using he
    have he3 : (e1 == 0) = false := by simpa using he
    clear he
    go_wp2
    go_ret
    rw [HB.out]
    exact ⟨by simp, HI.out, HO.out⟩
theorem py_End (h : IsY w b A n c L at_ e) :
    Calls Try.prog 30 #[.pointer (some ⟨b, 0, none⟩)] w fun e1 w' => e1 = .returned (.int .i64 (rE n at_ e)) ∧ IsY w' b A n c L at_ (rE n at_ e) ∧ Only [b] w w' := by
  have H := Lib.hid h
  have c0 := h.c0
  have c1 := h.c1
  have c2 := h.c2
  have f2 := h.fz 2
  have hle := h.le
  clear h
  by_cases he : e = 0
  · subst he
    by_cases h1 : at_ < n
    · have hz : decide ((at_ : Int) < (n : Int)) = true := decide_eq_true (by omega)
      have HB := Lib.hid (show rE n at_ 0 = 22 from if_pos ⟨rfl, h1⟩)
      go_enter Try.func30, Try.ntmps30
      go_wp2_with fail
      go_quiet ((fail))
      go_wp2
      go_ret
      rw [HB.out]
      exact ⟨by simp, (H.out.drew _).setErr 22, ((Only.refl _ w).drewN _).setCell (by simp) _⟩
    · have HB := Lib.hid (show rE n at_ 0 = 0 from if_neg (fun h => h1 h.2))
      have hz : decide ((at_ : Int) < (n : Int)) = false := decide_eq_false (by omega)
      have hz2 : decide (at_ < n) = false := decide_eq_false h1
      have hz3 : ¬ (at_ : Int) < (n : Int) := by omega
      clear h1
      go_enter Try.func30, Try.ntmps30
      go_wp2_with fail
      go_quiet ((fail))
      go_wp2
      go_ret
      rw [HB.out]
      exact ⟨by simp, H.out.drew _, (Only.refl _ w).drewN _⟩
  · have HB := Lib.hid (show rE n at_ e = e from if_neg (fun h => he h.1))
    have he2 : (e == 0) = false := by simpa using he
    clear he
    go_enter Try.func30, Try.ntmps30
    go_wp2_with fail
    go_quiet ((fail))
    go_wp2
    go_ret
    rw [HB.out]
    exact ⟨by simp, H.out.drew _, (Only.refl _ w).drewN _⟩
end
end Go.Proofs.Ytclafljkeaekfaa
