/- Walks of the reader's methods. -/
import Derived.Test.YtclafljkeaekfaaPk2
set_option linter.unusedVariables false
set_option linter.unusedSimpArgs false
namespace Go.Proofs.Ytclafljkeaekfaa
open Go.RowKit
section
variable (b : Nat) (A : Option Addr) (n c : Nat) (L : List UInt8) (at_ : Nat) (e : Int) (w : World)
theorem pk_fail (a2 : Nat) (e2 : Int) (ha : a2 ≤ n) (h : IsR w b A n c L at_ e) :
    Calls Try.prog 74 #[.pointer (some ⟨b, 0, none⟩), .int .i64 a2, .int .i64 e2] w fun e1 w' => e1 = .returned (.tuple #[]) ∧ IsR w' b A n c L a2 e2 ∧ Only [b] w w' := by
  have H := Lib.hid h
  have c1 := h.c1
  have c2 := h.c2
  have f1 := h.fz 1
  have f2 := h.fz 2
  clear h
  go_enter Try.func74, Try.ntmps74
  go_wp2
  go_end0
  exact ⟨by simp, (H.out.setAt a2 ha).setErr e2, ((Only.refl _ _).setCell (by simp) _).setCell (by simp) _⟩
def rU (L : List UInt8) (at_ : Nat) (e : Int) : Nat × Nat × Int :=
  if e = 0 then (if (un 10 (L.drop at_)).1 = 0 then ((un 10 (L.drop at_)).2.1, at_ + (un 10 (L.drop at_)).2.2, 0) else (0, at_, ((un 10 (L.drop at_)).1 : Int))) else (0, at_, e)
theorem rU_stuck {L : List UInt8} {at_ : Nat} {e : Int} (he : e ≠ 0) : rU L at_ e = (0, at_, e) := by rw [rU, if_neg he]
theorem rU_bad {L : List UInt8} {at_ k : Nat} (hk : k ≠ 0) (h : un 10 (L.drop at_) = (k, 0, 0)) : rU L at_ 0 = (0, at_, (k : Int)) := by rw [rU, if_pos rfl, h, if_neg hk]
theorem rU_ok {L : List UInt8} {at_ v m : Nat} (h : un 10 (L.drop at_) = (0, v, m)) : rU L at_ 0 = (v, at_ + m, 0) := by rw [rU, if_pos rfl, h, if_pos rfl]
/-- the loop of Uint, at its i-th byte -/
structure UInv (L : List UInt8) (at_ n i acc : Nat) (vv : Value) : Prop where
  le : at_ + i ≤ n
  eq : un 10 (L.drop at_) = lift i acc (un (10 - i) (L.drop (at_ + i)))
  lt : i ≤ 9 → acc < 128 ^ i
  val : i ≤ 9 → vv = .int .u64 acc
theorem UInv.start {L : List UInt8} {at_ n : Nat} (h : at_ ≤ n) : UInv L at_ n 0 0 (.int .u64 0) := ⟨h, (lift_zero _ (un_err _ _)).symm, fun _ => by decide, fun _ => rfl⟩
theorem drop_cons (L : List UInt8) (k : Nat) (h : k < L.length) : L.drop k = L.getD k 0 :: L.drop (k + 1) := by
  rw [List.drop_eq_getElem_cons h, List.getD_eq_getElem?_getD, List.getElem?_eq_getElem h]; rfl
section
variable {L : List UInt8} {at_ n i acc : Nat} {vv : Value}
theorem UInv.short (h : UInv L at_ n i acc vv) (hL : L.length = n) (hi : i < 10) (he : at_ + i = n) : rU L at_ 0 = (0, at_, 20) := by
  have h1 := h.eq
  rw [show L.drop (at_ + i) = [] from List.drop_eq_nil_of_le (by omega), show 10 - i = (9 - i) + 1 by omega] at h1
  exact rU_bad (k := 20) (by decide) h1
theorem UInv.out (h : UInv L at_ n 10 acc vv) : rU L at_ 0 = (0, at_, 21) := rU_bad (k := 21) (by decide) h.eq
theorem UInv.here (h : UInv L at_ n i acc vv) (hL : L.length = n) (hi : i < 10) (hlt : at_ + i < n) : un 10 (L.drop at_) = lift i acc (un ((9 - i) + 1) (L.getD (at_ + i) 0 :: L.drop (at_ + (i + 1)))) := by
  have h1 := h.eq
  rw [drop_cons L (at_ + i) (by omega), show 10 - i = (9 - i) + 1 by omega] at h1
  exact h1
theorem UInv.last (h : UInv L at_ n i acc vv) (hL : L.length = n) (hi : i < 10) (hlt : at_ + i < n) {x : UInt8} (hx : x = L.getD (at_ + i) 0) (h1 : x.toNat < 128) (hok : i = 0 ∨ (0 < x.toNat ∧ (i < 9 ∨ x.toNat ≤ 1))) : rU L at_ 0 = (acc + 128 ^ i * (x.toNat % 128), at_ + (i + 1), 0) := by
  have h2 := h.here hL hi hlt
  rw [← hx, lift_last _ _ _ _ _ h1 (by omega)] at h2
  rw [rU_ok h2, Nat.mod_eq_of_lt h1]
theorem UInv.form (h : UInv L at_ n i acc vv) (hL : L.length = n) (hi : i < 10) (hlt : at_ + i < n) {x : UInt8} (hx : x = L.getD (at_ + i) 0) (h1 : x.toNat < 128) (hbad : (0 < i ∧ x.toNat = 0) ∨ (i = 9 ∧ 1 < x.toNat)) : rU L at_ 0 = (0, at_, 21) := by
  have h2 := h.here hL hi hlt
  rw [← hx, lift_form _ _ _ _ _ h1 (by omega)] at h2
  exact rU_bad (k := 21) (by decide) h2
theorem UInv.more (h : UInv L at_ n i acc vv) (hL : L.length = n) (hi : i < 10) (hlt : at_ + i < n) {x : UInt8} (hx : x = L.getD (at_ + i) 0) (h1 : 128 ≤ x.toNat) {r : Nat} (hr : (i ≤ 8 ∨ x.toNat ≤ 1) → r = acc + 128 ^ i * (x.toNat % 128)) : UInv L at_ n (i + 1) r (.int .u64 r) := by
  have h2 := h.here hL hi hlt
  rw [← hx, lift_step _ _ _ _ _ h1] at h2
  by_cases h9 : i = 9
  · subst h9
    exact ⟨by omega, h2, fun h => by omega, fun h => by omega⟩
  · have hr := hr (.inl (by omega))
    subst hr
    refine ⟨by omega, ?_, fun _ => ?_, fun _ => rfl⟩
    · rw [h2]; congr 2; omega
    · have h3 := h.lt (by omega)
      have h4 : 128 ^ i * (x.toNat % 128) ≤ 128 ^ i * 127 := Nat.mul_le_mul_left _ (by omega)
      rw [Nat.pow_succ]
      omega
end
theorem IsR.setAt' {b n c at_ : Nat} {A : Option Addr} {L : List UInt8} {e : Int} {w : World} (h : IsR w b A n c L at_ e) (z : Int) (a2 : Nat) (hz : z = a2) (h2 : a2 ≤ n) : IsR (w.setCell ⟨b, 1, none⟩ (.int .i64 z)) b A n c L a2 e := by
  subst hz; exact h.setAt a2 h2
theorem ret_u64 {a b : Int} (h : a = b) : Ending.returned (.int .u64 a) = .returned (.int .u64 b) := by rw [h]
set_option maxRecDepth 100000 in
set_option maxHeartbeats 4000000 in
theorem pk_RUint (h : IsR w b A n c L at_ e) :
    Calls Try.prog 47 #[.pointer (some ⟨b, 0, none⟩)] w fun e1 w' => e1 = .returned (.int .u64 (rU L at_ e).1) ∧ IsR w' b A n c L (rU L at_ e).2.1 (rU L at_ e).2.2 ∧ Only [b] w w' := by
  have H := Lib.hid h
  have c0 := h.c0
  have c1 := h.c1
  have c2 := h.c2
  have f1 := h.fz 1
  have hn := h.rd.max
  have hle := h.le
  have HL := Lib.hid h.rd.len
  clear h
  by_cases he : e = 0
  · subst he
    go_enter Try.func47, Try.ntmps47
    go_wp2_with fail
    go_loopw [2, 3, 4, 5, 11] (fun _ vv _ _ ix wr => ∃ i acc : Nat, i ≤ 10 ∧ ix = .int .i64 i ∧ UInv L at_ n i acc vv ∧ Only [] w wr) (fun _ _ _ _ x _ => 10 - (intOf x).toNat)
    case atStart => exact ⟨0, 0, by omega, rfl, UInv.start hle, Only.refl _ _⟩
    case round =>
      obtain ⟨i, acc, hi, rfl, hU, hO⟩ := hrel
      have HU := Lib.hid hU
      have HO := Lib.hid hO
      have HW := Lib.hid (H.out.keep hO (by simp) (by simp))
      have hle2 := hU.le
      clear hU hO
      have d0 := HW.out.c0
      have d1 := HW.out.c1
      have d2 := HW.out.c2
      have g1 := HW.out.fz 1
      by_cases h10 : i < 10
      · have hv := HU.out.val (by omega)
        subst hv
        have hw1 : IntKind.i64.wrap ((at_ : Int) + i) = (at_ : Int) + i := IntWalk.i64_in _ (by omega)
        by_cases hend : at_ + i = n
        · have t1 : (((at_ : Int) + i) == (n : Int)) = true := by simp; omega
          go_wp2_with fail
          go_quiet ((fail))
          clear hw1 t1
          have HS := Lib.hid (HU.out.short HL.out h10 hend)
          go_wp2_with fail
          refine (pk_fail b A n c L at_ 0 _ at_ 20 hle (HW.out.drew _)).mono ?_
          rintro e1 w1 ⟨rfl, hI, hO⟩
          have HI := Lib.hid hI
          have HO1 := Lib.hid ((HO.out.drewN nq).mono (S' := [b]) (by simp) |>.trans hO)
          clear hI hO
          go_wp2
          go_ret
          rw [HS.out]
          exact ⟨ret_u64 rfl, HI.out, HO1.out⟩
        · have t1 : (((at_ : Int) + i) == (n : Int)) = false := by simp; omega
          obtain ⟨x, hx⟩ : ∃ x, x = L.getD (at_ + i) 0 := ⟨_, rfl⟩
          have hlt : at_ + i < n := by omega
          obtain ⟨bb, oo, rfl, hc⟩ := HW.out.rd.at_ (by omega)
          have hcx := hc (at_ + i) hlt
          rw [← hx] at hcx
          have HX := Lib.hid hx
          have hw2 : (0 : Int) ≤ (at_ : Int) + i ∧ (at_ : Int) + i < n := by omega
          have hw3 : ((at_ : Int) + i).toNat = at_ + i := by omega
          have HU2 := Lib.hid hx
          clear hx hc
          have hor := or_fact acc i x (by omega) (HU.out.lt (by omega))
          obtain ⟨r, hor, hrr⟩ := hor
          have HRR := Lib.hid hrr
          clear hrr
          by_cases hA : 128 ≤ x.toNat
          · have hA2 : (128 : Int) ≤ (x.toNat : Int) := by omega
            have HM := Lib.hid (HU.out.more HL.out h10 hlt HX.out hA HRR.out)
            go_wp2_with fail
            go_quiet ((fail))
            go_wp2_with fail
            go_quiet ((fail))
            clear hw1 t1
            go_wp2_with fail
            go_roundw
            case rel => exact ⟨i + 1, r, by omega, by go_num, HM.out, HO.out.drewN _⟩
            case measure => simp [intOf]; omega
          have hB2 : ¬ (128 : Int) ≤ (x.toNat : Int) := by omega
          by_cases hi0 : i = 0
          · have hi1 : ¬ 0 < i := by omega
            have h92 : ((i : Int) == 9) = false := by simp; omega
            have HF := Lib.hid (HU.out.last HL.out h10 hlt HX.out (by omega) (.inl hi0))
            have h98 : i ≤ 8 := by omega
            clear hi0
            go_wp2_with fail
            go_quiet ((fail))
            go_wp2_with fail
            go_quiet ((fail))
            clear hw1 t1
            go_wp2_with fail
            go_ret
            rw [HF.out]
            exact ⟨ret_u64 (by rw [HRR.out (by omega)]), (HW.out.drew _).setAt' _ (at_ + (i + 1)) (by omega) (by omega), ((HO.out.drewN _).mono (S' := [b]) (by simp)).setCell (by simp) _⟩
          have hi1 : 0 < i := by omega
          by_cases hx0 : x.toNat = 0
          · have HF := Lib.hid (HU.out.form HL.out h10 hlt HX.out (by omega) (.inl ⟨hi1, hx0⟩))
            go_wp2_with fail
            go_quiet ((fail))
            go_wp2_with fail
            go_quiet ((fail))
            clear hw1 t1
            go_wp2_with fail
            refine (pk_fail b (some ⟨bb, oo, none⟩) n c L at_ 0 _ at_ 21 hle (HW.out.drew _)).mono ?_
            rintro e1 w1 ⟨rfl, hI, hO⟩
            have HI := Lib.hid hI
            have HO1 := Lib.hid ((HO.out.drewN _).mono (S' := [b]) (by simp) |>.trans hO)
            clear hI hO
            go_wp2
            go_ret
            rw [HF.out]
            exact ⟨ret_u64 rfl, HI.out, HO1.out⟩
          have hx1 : ((x.toNat : Int) == 0) = false := by simpa using hx0
          by_cases h9 : i = 9
          · by_cases hx2 : 1 < x.toNat
            · have HF := Lib.hid (HU.out.form HL.out h10 hlt HX.out (by omega) (.inr ⟨h9, hx2⟩))
              have hx3 : (1 : Int) < (x.toNat : Int) := by omega
              have h92 : ((i : Int) == 9) = true := by simp; omega
              clear h9
              go_wp2_with fail
              go_quiet ((fail))
              go_wp2_with fail
              go_quiet ((fail))
              clear hw1 t1
              go_wp2_with fail
              refine (pk_fail b (some ⟨bb, oo, none⟩) n c L at_ 0 _ at_ 21 hle (HW.out.drew _)).mono ?_
              rintro e1 w1 ⟨rfl, hI, hO⟩
              have HI := Lib.hid hI
              have HO1 := Lib.hid ((HO.out.drewN _).mono (S' := [b]) (by simp) |>.trans hO)
              clear hI hO
              go_wp2
              go_ret
              rw [HF.out]
              exact ⟨ret_u64 rfl, HI.out, HO1.out⟩
            · have HF := Lib.hid (HU.out.last HL.out h10 hlt HX.out (by omega) (.inr ⟨by omega, .inr (by omega)⟩))
              have hx3 : ¬ (1 : Int) < (x.toNat : Int) := by omega
              have h92 : ((i : Int) == 9) = true := by simp; omega
              clear h9
              go_wp2_with fail
              go_quiet ((fail))
              go_wp2_with fail
              go_quiet ((fail))
              clear hw1 t1
              go_wp2_with fail
              go_ret
              rw [HF.out]
              exact ⟨ret_u64 (by rw [HRR.out (by omega)]), (HW.out.drew _).setAt' _ (at_ + (i + 1)) (by omega) (by omega), ((HO.out.drewN _).mono (S' := [b]) (by simp)).setCell (by simp) _⟩
          · have HF := Lib.hid (HU.out.last HL.out h10 hlt HX.out (by omega) (.inr ⟨by omega, .inl (by omega)⟩))
            have h92 : ((i : Int) == 9) = false := by simp; omega
            go_wp2_with fail
            go_quiet ((fail))
            go_wp2_with fail
            go_quiet ((fail))
            clear hw1 t1
            go_wp2_with fail
            go_ret
            rw [HF.out]
            exact ⟨ret_u64 (by rw [HRR.out (by omega)]), (HW.out.drew _).setAt' _ (at_ + (i + 1)) (by omega) (by omega), ((HO.out.drewN _).mono (S' := [b]) (by simp)).setCell (by simp) _⟩
      · obtain rfl : i = 10 := by omega
        have HS := Lib.hid HU.out.out
        go_wp2_with fail
        refine (pk_fail b A n c L at_ 0 _ at_ 21 hle HW.out).mono ?_
        rintro e1 w1 ⟨rfl, hI, hO⟩
        have HI := Lib.hid hI
        have HO1 := Lib.hid (HO.out.mono (S' := [b]) (by simp) |>.trans hO)
        clear hI hO
        go_wp2
        go_ret
        rw [HS.out]
        exact ⟨ret_u64 rfl, HI.out, HO1.out⟩
  · have HE := Lib.hid (rU_stuck (L := L) (at_ := at_) he)
    have he2 : (e != 0) = true := by simpa using he
    clear he
    go_enter Try.func47, Try.ntmps47
    go_wp2
    go_ret
    rw [HE.out]
    exact ⟨by simp, H.out, Only.refl _ _⟩
end
end Go.Proofs.Ytclafljkeaekfaa
