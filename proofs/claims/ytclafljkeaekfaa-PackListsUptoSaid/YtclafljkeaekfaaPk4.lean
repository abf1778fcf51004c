/- Walks of the reader's other methods. -/
import Derived.Test.YtclafljkeaekfaaPk3
set_option linter.unusedVariables false
set_option linter.unusedSimpArgs false
set_option linter.unnecessarySimpa false
set_option maxRecDepth 100000
namespace Go.Proofs.Ytclafljkeaekfaa
open Go.RowKit
theorem rU_lt (L : List UInt8) (at_ : Nat) (e : Int) : (rU L at_ e).1 < 2 ^ 64 := by
  unfold rU
  split
  · split
    · rename_i h
      exact (nf_un (l := L.drop at_) (v := (un 10 (L.drop at_)).2.1) (n := (un 10 (L.drop at_)).2.2) (Prod.ext h rfl)).2.2.2
    · simp
  · simp
theorem rU_at (L : List UInt8) (at_ n : Nat) (e : Int) (h : at_ ≤ L.length) : at_ ≤ (rU L at_ e).2.1 ∧ (rU L at_ e).2.1 ≤ L.length ∧ ((rU L at_ e).2.2 ≠ 0 → (rU L at_ e).2.1 = at_ ∧ (rU L at_ e).1 = 0) := by
  unfold rU
  split
  · split
    · rename_i h1
      have := (nf_un (l := L.drop at_) (v := (un 10 (L.drop at_)).2.1) (n := (un 10 (L.drop at_)).2.2) (Prod.ext h1 rfl)).2.1
      rw [List.length_drop] at this
      refine ⟨by simp, by simp only; omega, fun h => absurd rfl h⟩
    · exact ⟨by simp, by simpa using h, fun _ => ⟨rfl, rfl⟩⟩
  · exact ⟨by simp, by simpa using h, fun _ => ⟨rfl, rfl⟩⟩
theorem i64_xor0 (a : Int) (h1 : 0 ≤ a) (h2 : a < 9223372036854775808) : bits .xor .i64 a 0 = a := by
  show IntKind.i64.wrap ((BitVec.ofInt 64 a ^^^ BitVec.ofInt 64 0).toNat : Nat) = _
  have e : BitVec.ofInt 64 0 = 0#64 := by decide
  rw [e, BitVec.xor_zero, BitVec.toNat_ofInt]
  rw [show (((a % ((2 ^ 64 : Nat) : Int)).toNat : Nat) : Int) = a by omega]
  exact IntWalk.i64_in a (by omega)
theorem i64_xorAll (a : Int) (h1 : 0 ≤ a) (h2 : a < 9223372036854775808) : bits .xor .i64 a (-1) = -a - 1 := by
  show IntKind.i64.wrap ((BitVec.ofInt 64 a ^^^ BitVec.ofInt 64 (-1)).toNat : Nat) = _
  have e : BitVec.ofInt 64 (-1) = BitVec.allOnes 64 := by decide
  rw [e, BitVec.xor_allOnes, BitVec.toNat_not, BitVec.toNat_ofInt, IntKind.wrap_i64]
  omega
theorem u64_and1 (v : Nat) : bits .and .u64 (v : Int) 1 = ((v % 2 : Nat) : Int) := by
  show IntKind.u64.wrap ((BitVec.ofInt 64 (v : Int) &&& BitVec.ofInt 64 1).toNat : Nat) = _
  have e : BitVec.ofInt 64 1 = BitVec.ofNat 64 (2 ^ 1 - 1) := by decide
  rw [e, BitVec.toNat_and, BitVec.toNat_ofInt, BitVec.toNat_ofNat, Nat.mod_eq_of_lt (show 2 ^ 1 - 1 < 2 ^ 64 by decide), Nat.and_two_pow_sub_one_eq_mod, u64_wrap]
  omega
def rE (n at_ : Nat) (e : Int) : Int := if e = 0 ∧ at_ < n then 22 else e
def rB (L : List UInt8) (at_ : Nat) (e : Int) : UInt8 × Nat × Int := if e = 0 then (if at_ < L.length then (L.getD at_ 0, at_ + 1, 0) else (0, at_, 20)) else (0, at_, e)
def rO (L : List UInt8) (at_ : Nat) (e : Int) : Bool × Nat × Int := if 1 < (rB L at_ e).1.toNat then (false, at_, 21) else ((rB L at_ e).1.toNat == 1, (rB L at_ e).2.1, (rB L at_ e).2.2)
def rT (L : List UInt8) (at_ : Nat) (e : Int) (most : Int) : List UInt8 × Nat × Int :=
  if (rU L at_ e).2.2 ≠ 0 then ([], (rU L at_ e).2.1, (rU L at_ e).2.2)
  else if most < ((rU L at_ e).1 : Int) then ([], at_, 23)
  else if L.length - (rU L at_ e).2.1 < (rU L at_ e).1 then ([], at_, 20)
  else ((L.drop (rU L at_ e).2.1).take (rU L at_ e).1, (rU L at_ e).2.1 + (rU L at_ e).1, 0)
def rC (L : List UInt8) (at_ : Nat) (e : Int) (most : Int) : Nat × Nat × Int :=
  if (rU L at_ e).2.2 ≠ 0 then (0, (rU L at_ e).2.1, (rU L at_ e).2.2)
  else if most < ((rU L at_ e).1 : Int) ∨ 4096 < (rU L at_ e).1 then (0, at_, 23)
  else ((rU L at_ e).1, (rU L at_ e).2.1, 0)
section
variable (b : Nat) (A : Option Addr) (n c : Nat) (L : List UInt8) (at_ : Nat) (e : Int) (w : World)
theorem pk_RErr (h : IsR w b A n c L at_ e) :
    Calls Try.prog 35 #[.pointer (some ⟨b, 0, none⟩)] w fun e1 w' => e1 = .returned (.int .i64 e) ∧ w' = w := by
  have c2 := h.c2
  clear h
  go_enter Try.func35, Try.ntmps35
  go_wp2
  go_ret
  simp
theorem pk_RLeft (h : IsR w b A n c L at_ e) :
    Calls Try.prog 33 #[.pointer (some ⟨b, 0, none⟩)] w fun e1 w' => e1 = .returned (.int .i64 ((n - at_ : Nat) : Int)) ∧ Only [] w w' := by
  have c0 := h.c0
  have c1 := h.c1
  have hm := h.rd.max
  have hle := h.le
  have hs : ((n : Int) - at_) = ((n - at_ : Nat) : Int) := by omega
  clear h
  go_enter Try.func33, Try.ntmps33
  go_wp2_with fail
  go_quiet ((fail))
  go_wp2
  go_ret
  exact ⟨by simp [hs], (Only.refl _ _).drewN _⟩
theorem pk_RInt (h : IsR w b A n c L at_ e) :
    Calls Try.prog 62 #[.pointer (some ⟨b, 0, none⟩)] w fun e1 w' => e1 = .returned (.int .i64 (unzz (rU L at_ e).1)) ∧ IsR w' b A n c L (rU L at_ e).2.1 (rU L at_ e).2.2 ∧ Only [b] w w' := by
  have H := Lib.hid h
  clear h
  go_enter Try.func62, Try.ntmps62
  go_wp2_with fail
  refine (pk_RUint b A n c L at_ e w H.out).mono ?_
  rintro e1 w1 ⟨rfl, hI, hO⟩
  have hlt := rU_lt L at_ e
  obtain ⟨v, hv⟩ : ∃ v, v = (rU L at_ e).1 := ⟨_, rfl⟩
  rw [← hv] at hlt ⊢
  have HI := Lib.hid hI
  have HO := Lib.hid hO
  have HLT := Lib.hid hlt
  have hv1 : (v : Int) < 18446744073709551616 := by omega
  have ha := u64_and1 v
  have HV := Lib.hid hv
  clear hI hO hv hlt
  rcases Nat.mod_two_eq_zero_or_one v with h2 | h2
  · rw [h2] at ha
    have hx := i64_xor0 ((v : Int) / 2) (by omega) (by omega)
    have HZ := Lib.hid (show unzz v = (v : Int) / 2 by unfold unzz; rw [if_pos h2]; omega)
    clear h2
    go_wp2
    go_ret
    rw [← HV.out, HZ.out]
    exact ⟨by simp [hx], HI.out, HO.out⟩
  · rw [h2] at ha
    have hx := i64_xorAll ((v : Int) / 2) (by omega) (by omega)
    have HZ := Lib.hid (show unzz v = -((v : Int) / 2) - 1 by unfold unzz; rw [if_neg (by omega)]; omega)
    clear h2
    go_wp2
    go_ret
    rw [← HV.out, HZ.out]
    exact ⟨by simp [hx], HI.out, HO.out⟩
theorem pk_RByte (h : IsR w b A n c L at_ e) :
    Calls Try.prog 64 #[.pointer (some ⟨b, 0, none⟩)] w fun e1 w' => e1 = .returned (.int .u8 (rB L at_ e).1.toNat) ∧ IsR w' b A n c L (rB L at_ e).2.1 (rB L at_ e).2.2 ∧ Only [b] w w' := by
  have H := Lib.hid h
  have c0 := h.c0
  have c1 := h.c1
  have c2 := h.c2
  have f1 := h.fz 1
  have f2 := h.fz 2
  have hm := h.rd.max
  have hle := h.le
  have hl := h.rd.len
  clear h
  by_cases he : e = 0
  · subst he
    by_cases hend : at_ = n
    · have HB := Lib.hid (show rB L at_ 0 = (0, at_, 20) by rw [rB, if_pos rfl, if_neg (by omega)])
      have hz : ((n - at_ : Nat) : Int) = 0 := by omega
      clear hend hl
      go_enter Try.func64, Try.ntmps64
      go_wp2_with fail
      refine (pk_RLeft b A n c L at_ 0 w H.out).mono ?_
      rintro e1 w1 ⟨rfl, hO⟩
      have HO := Lib.hid hO
      have HI := Lib.hid (H.out.keep hO (by simp) (by simp))
      have g2 := HI.out.fz 2
      have k2 := HI.out.c2
      rw [hz]
      clear hO hz
      go_wp2
      go_ret
      rw [HB.out]
      exact ⟨by simp, HI.out.setErr 20, (HO.out.mono (S' := [b]) (by simp)).setCell (by simp) _⟩
    · obtain ⟨x, hx⟩ : ∃ x, x = L.getD at_ 0 := ⟨_, rfl⟩
      have HB := Lib.hid (show rB L at_ 0 = (x, at_ + 1, 0) by rw [rB, if_pos rfl, if_pos (by omega), hx])
      have hlt : at_ < n := by omega
      have hz : (((n - at_ : Nat) : Int) == 0) = false := by simp; omega
      have hz0 : ¬ n - at_ = 0 := by omega
      obtain ⟨bb, oo, rfl, hc⟩ := H.out.rd.at_ (by omega)
      have hcx := hc at_ hlt
      rw [← hx] at hcx
      have hbb := H.out.ne _ rfl
      have hbb2 := Ne.symm hbb
      clear hend hl hx hc
      go_enter Try.func64, Try.ntmps64
      go_wp2_with fail
      refine (pk_RLeft b (some ⟨bb, oo, none⟩) n c L at_ 0 w H.out).mono ?_
      rintro e1 w1 ⟨rfl, hO⟩
      have HO := Lib.hid hO
      have HI := Lib.hid (H.out.keep hO (by simp) (by simp))
      have g1 := HI.out.fz 1
      have k0 := HI.out.c0
      have k1 := HI.out.c1
      have kx := cell_ext (show Below w.heap.size w w1 from ⟨hO.os, hO.tape, hO.output, hO.size, fun k hk => hO.blk k hk (by simp)⟩) hcx
      have hw2 : (0 : Int) ≤ (at_ : Int) ∧ (at_ : Int) < n := by omega
      clear hO
      go_wp2_with fail
      go_quiet ((fail))
      go_wp2
      go_ret
      rw [HB.out]
      exact ⟨by simp, (HI.out.setAt' _ (at_ + 1) (by omega) (by omega)).drew _, ((HO.out.mono (S' := [b]) (by simp)).setCell (by simp) _).drewN _⟩
  · have HB := Lib.hid (show rB L at_ e = (0, at_, e) by rw [rB, if_neg he])
    have he2 : (e != 0) = true := by simpa using he
    clear he
    go_enter Try.func64, Try.ntmps64
    go_wp2
    go_ret
    rw [HB.out]
    exact ⟨by simp, H.out, Only.refl _ _⟩
theorem pk_RBool (h : IsR w b A n c L at_ e) :
    Calls Try.prog 63 #[.pointer (some ⟨b, 0, none⟩)] w fun e1 w' => e1 = .returned (.bool (rO L at_ e).1) ∧ IsR w' b A n c L (rO L at_ e).2.1 (rO L at_ e).2.2 ∧ Only [b] w w' := by
  have H := Lib.hid h
  have c1 := h.c1
  have hle := h.le
  clear h
  go_enter Try.func63, Try.ntmps63
  go_wp2_with fail
  refine (pk_RByte b A n c L at_ e w H.out).mono ?_
  rintro e1 w1 ⟨rfl, hI, hO⟩
  obtain ⟨x, hx⟩ : ∃ x, x = (rB L at_ e).1 := ⟨_, rfl⟩
  rw [← hx]
  have HI := Lib.hid hI
  have HO := Lib.hid hO
  have HX := Lib.hid hx
  clear hI hO hx
  by_cases h1 : 1 < x.toNat
  · have h2 : (1 : Int) < (x.toNat : Int) := by omega
    have HB := Lib.hid (show rO L at_ e = (false, at_, 21) by rw [rO, ← HX.out, if_pos h1])
    go_wp2_with fail
    refine (pk_fail b A n c L _ _ _ at_ 21 hle HI.out).mono ?_
    rintro e2 w2 ⟨rfl, hI, hO⟩
    have HI2 := Lib.hid hI
    have HO2 := Lib.hid (HO.out.trans hO)
    clear hI hO
    go_wp2
    go_ret
    rw [HB.out]
    exact ⟨by simp, HI2.out, HO2.out⟩
  · have h2 : ¬ (1 : Int) < (x.toNat : Int) := by omega
    have HB := Lib.hid (show rO L at_ e = (x.toNat == 1, (rB L at_ e).2.1, (rB L at_ e).2.2) by rw [rO, ← HX.out, if_neg h1])
    have hq : ((x.toNat : Int) == 1) = (x.toNat == 1) := by
      rcases (show x.toNat = 0 ∨ x.toNat = 1 by omega) with h | h <;> rw [h] <;> rfl
    clear h1
    go_wp2
    go_ret
    rw [HB.out]
    refine ⟨?_, HI.out, HO.out⟩
    simpa using hq
theorem pk_RCount (most : Int) (hmo : -9223372036854775808 ≤ most ∧ most < 9223372036854775808) (h : IsR w b A n c L at_ e) :
    Calls Try.prog 65 #[.pointer (some ⟨b, 0, none⟩), .int .i64 most] w fun e1 w' => e1 = .returned (.int .i64 (rC L at_ e most).1) ∧ IsR w' b A n c L (rC L at_ e most).2.1 (rC L at_ e most).2.2 ∧ Only [b] w w' := by
  have H := Lib.hid h
  have c1 := h.c1
  have hle := h.le
  clear h
  go_enter Try.func65, Try.ntmps65
  go_wp2_with fail
  refine (pk_RUint b A n c L at_ e w H.out).mono ?_
  rintro e1 w1 ⟨rfl, hI, hO⟩
  have hlt := rU_lt L at_ e
  obtain ⟨v, hv⟩ : ∃ v, v = (rU L at_ e).1 := ⟨_, rfl⟩
  obtain ⟨a1, ha⟩ : ∃ a1, a1 = (rU L at_ e).2.1 := ⟨_, rfl⟩
  obtain ⟨e1, hee⟩ : ∃ e1, e1 = (rU L at_ e).2.2 := ⟨_, rfl⟩
  rw [← hv] at hlt ⊢
  rw [← ha, ← hee] at hI
  have hC : rC L at_ e most = if e1 ≠ 0 then (0, a1, e1) else if most < (v : Int) ∨ 4096 < v then (0, at_, 23) else (v, a1, 0) := by rw [rC, ← hv, ← ha, ← hee]
  have HC := Lib.hid hC
  have HI := Lib.hid hI
  have HO := Lib.hid hO
  have k2 := hI.c2
  have hv1 : (v : Int) < 18446744073709551616 := by omega
  clear hI hO hv ha hee hlt hC
  by_cases he : e1 = 0
  · subst he
    have bad : ∀ P : Prop, P → (most < (v : Int) ∨ 4096 < v) → rC L at_ e most = (0, at_, 23) := fun P _ hb => by rw [HC.out, if_neg (by simp), if_pos hb]
    by_cases h1 : most < 0
    · have HB := Lib.hid (bad True trivial (.inl (by omega)))
      clear bad
      go_wp2_with fail
      refine (pk_fail b A n c L _ _ _ at_ 23 hle HI.out).mono ?_
      rintro e2 w2 ⟨rfl, hI, hO⟩
      have HI2 := Lib.hid hI
      have HO2 := Lib.hid (HO.out.trans hO)
      clear hI hO
      go_wp2
      go_ret
      rw [HB.out]
      exact ⟨by simp, HI2.out, HO2.out⟩
    · obtain ⟨m, rfl⟩ := Int.eq_ofNat_of_zero_le (show 0 ≤ most by omega)
      have hwm : IntKind.u64.wrap (m : Int) = (m : Int) := IntWalk.u64_in _ (by omega)
      have HMO := Lib.hid hmo
      clear hmo hv1 h1
      by_cases h2 : (m : Int) < (v : Int)
      · have HB := Lib.hid (bad True trivial (.inl h2))
        clear bad
        go_wp2_with fail
        refine (pk_fail b A n c L _ _ _ at_ 23 hle HI.out).mono ?_
        rintro e2 w2 ⟨rfl, hI, hO⟩
        have HI2 := Lib.hid hI
        have HO2 := Lib.hid (HO.out.trans hO)
        clear hI hO
        go_wp2
        go_ret
        rw [HB.out]
        exact ⟨by simp, HI2.out, HO2.out⟩
      · by_cases h3 : (4096 : Int) < (v : Int)
        · have HB := Lib.hid (bad True trivial (.inr (by omega)))
          clear bad
          go_wp2_with fail
          refine (pk_fail b A n c L _ _ _ at_ 23 hle HI.out).mono ?_
          rintro e2 w2 ⟨rfl, hI, hO⟩
          have HI2 := Lib.hid hI
          have HO2 := Lib.hid (HO.out.trans hO)
          clear hI hO
          go_wp2
          go_ret
          rw [HB.out]
          exact ⟨by simp, HI2.out, HO2.out⟩
        · have HB := Lib.hid (show rC L at_ e m = (v, a1, 0) by rw [HC.out, if_neg (by simp), if_neg (by omega)])
          have h4 : (v : Int) ≤ 4096 := by omega
          clear bad
          go_wp2
          go_ret
          rw [HB.out]
          exact ⟨by simp, HI.out, HO.out⟩
  · have HB := Lib.hid (show rC L at_ e most = (0, a1, e1) by rw [HC.out, if_pos he])
    have he2 : (e1 != 0) = true := by simpa using he
    clear he
    go_wp2
    go_ret
    rw [HB.out]
    exact ⟨by simp, HI.out, HO.out⟩
theorem pk_REnd (h : IsR w b A n c L at_ e) :
    Calls Try.prog 29 #[.pointer (some ⟨b, 0, none⟩)] w fun e1 w' => e1 = .returned (.int .i64 (rE n at_ e)) ∧ IsR w' b A n c L at_ (rE n at_ e) ∧ Only [b] w w' := by
  have H := Lib.hid h
  have c2 := h.c2
  have f2 := h.fz 2
  have hle := h.le
  clear h
  by_cases he : e = 0
  · subst he
    by_cases h1 : at_ < n
    · have hz : (0 : Int) < ((n - at_ : Nat) : Int) := by omega
      have HB := Lib.hid (show rE n at_ 0 = 22 from if_pos ⟨rfl, h1⟩)
      obtain ⟨r, hr⟩ : ∃ r, r = n - at_ := ⟨_, rfl⟩
      rw [← hr] at hz
      have HRR := Lib.hid hr
      clear hr
      go_enter Try.func29, Try.ntmps29
      go_wp2_with fail
      refine (pk_RLeft b A n c L at_ 0 w H.out).mono ?_
      rintro e1 w1 ⟨rfl, hO⟩
      rw [← HRR.out]
      have HI := Lib.hid (H.out.keep hO (by simp) (by simp))
      have HO := Lib.hid (hO.mono (S' := [b]) (by simp))
      have k2 := HI.out.c2
      have g2 := HI.out.fz 2
      clear hO
      go_wp2
      go_ret
      rw [HB.out]
      exact ⟨by simp, HI.out.setErr 22, HO.out.setCell (by simp) _⟩
    · have HB := Lib.hid (show rE n at_ 0 = 0 from if_neg (fun h => h1 h.2))
      have hz : ¬ (0 : Int) < ((n - at_ : Nat) : Int) := by omega
      obtain ⟨r, hr⟩ : ∃ r, r = n - at_ := ⟨_, rfl⟩
      rw [← hr] at hz
      have HRR := Lib.hid hr
      clear hr h1
      go_enter Try.func29, Try.ntmps29
      go_wp2_with fail
      refine (pk_RLeft b A n c L at_ 0 w H.out).mono ?_
      rintro e1 w1 ⟨rfl, hO⟩
      rw [← HRR.out]
      have HI := Lib.hid (H.out.keep hO (by simp) (by simp))
      have HO := Lib.hid (hO.mono (S' := [b]) (by simp))
      have k2 := HI.out.c2
      clear hO
      go_wp2
      go_ret
      rw [HB.out]
      exact ⟨by simp, HI.out, HO.out⟩
  · have HB := Lib.hid (show rE n at_ e = e from if_neg (fun h => he h.1))
    have he2 : (e == 0) = false := by simpa using he
    clear he
    go_enter Try.func29, Try.ntmps29
    go_wp2
    go_ret
    rw [HB.out]
    exact ⟨by simp, H.out, Only.refl _ _⟩
theorem pk_NewReader (hr : Rd w A n c L) :
    Calls Try.prog 27 #[.slice A n c] w fun e1 w' => ∃ b A' c', e1 = .returned (.pointer (some ⟨b, 0, none⟩)) ∧ IsR w' b A' n c' L 0 0 ∧ w.heap.size ≤ b ∧ Below w.heap.size w w' ∧ (∀ p, A' = some p → w.heap.size ≤ p.block) := by
  have HR := Lib.hid hr
  have hm := hr.max
  clear hr
  go_enter Try.func27, Try.ntmps27
  go_wp2_with (at_builtin; refine wp_appB w.heap.size (Own.nil _ _) HR.out (Nat.le_refl _) (by omega) _ _ rfl rfl rfl rfl ?_; intro v1 w1 hO1 hG1 hA1; obtain ⟨A1, c1, rfl, hR1⟩ := hO1.rd (by omega); have HO1 := Lib.hid hO1; have HG1 := Lib.hid ((Below.refl _ w).grown hG1 (Nat.le_refl _) (fun k hk => by simp [Value.ownBlock] at hk)); have HR1 := Lib.hid hR1; clear hO1 hG1 hA1 hR1)
  go_ret
  rw [Nat.zero_add] at HR1 HO1
  have hblk : ∀ p, A1 = some p → w.heap.size ≤ p.block ∧ p.block < w1.heap.size := by
    rintro p rfl
    rcases HO1.out.2 with ⟨h1, _⟩ | ⟨g, cap, cur, h1, hb, hh, _⟩
    · cases h1
    · injection h1 with h2 h3 h4
      injection h2 with h2
      subst h2
      exact ⟨hb, lt_of_block hh⟩
  refine ⟨w1.heap.size, A1, c1, by simp, ⟨by simpa using heap_alloc_new w1 _, ?_, fun p hp => by have := hblk p hp; omega, by omega⟩, HG1.out.size, HG1.out.alloc HG1.out.size _, fun p hp => (hblk p hp).1⟩
  have := HR1.out.ext ((Below.refl _ w1).alloc (Nat.le_refl _) (.cells #[.slice A1 n c1, .int .i64 0, .int .i64 0] 91))
  simpa using this
end
end Go.Proofs.Ytclafljkeaekfaa
