/- The walk of SpaceApart. -/
import Derived.Test.YtodondpggkohjaaSpM3
import Derived.Test.YtodondpggkohjaaSpA1
import Derived.Deep.RegionLaw
import Derived.Deep.RegionWith
import Derived.Deep.DeepCutAuto
import Derived.Deep.RegionHeld3
import Derived.IntWalk
set_option linter.unusedVariables false
set_option linter.unusedSimpArgs false
namespace Go.Proofs.Ytodondpggkohjaa
open Go.RowKit
/-- the first four answers, a and c being written -/
structure Quad (b0 b1 b2 b3 b4 q : Nat) (va vb vc vd : Value) (La Lb Lc : List Int) (w : World) : Prop where
  a : OwnI w b0 va q La
  b : OwnI w b1 vb q Lb
  c : OwnI w b2 vc q Lc
  d : OwnI w b3 vd q Lb
  ba : Blk va b0 b1
  bb : Blk vb b1 b2
  bc : Blk vc b2 b3
  bd : Blk vd b3 b4
  l01 : b0 ≤ b1
  l12 : b1 ≤ b2
  l23 : b2 ≤ b3
  l34 : b3 ≤ b4
  l4 : b4 ≤ w.heap.size
theorem own_form {w : World} {base q c : Nat} {A : Option Addr} {l : List Int} (h : OwnI w base (.slice A q c) q l) (hp : 0 < q) : ∃ g, A = some ⟨g, 0, none⟩ := by
  obtain ⟨g, c', he, _⟩ := h.form hp
  injection he with h1 h2 h3
  exact ⟨g, h1⟩
section
variable {b0 b1 b2 b3 b4 q : Nat} {vb vd : Value} {La Lb Lc : List Int} {w : World}
theorem Quad.formA {A : Option Addr} {c : Nat} {vc : Value} (h : Quad b0 b1 b2 b3 b4 q (.slice A q c) vb vc vd La Lb Lc w) (hp : 0 < q) : ∃ g, A = some ⟨g, 0, none⟩ := own_form h.a hp
theorem Quad.formC {A : Option Addr} {c : Nat} {va : Value} (h : Quad b0 b1 b2 b3 b4 q va vb (.slice A q c) vd La Lb Lc w) (hp : 0 < q) : ∃ g, A = some ⟨g, 0, none⟩ := own_form h.c hp
theorem Quad.neAC {ga ca gc cc : Nat} (h : Quad b0 b1 b2 b3 b4 q (.slice (some ⟨ga, 0, none⟩) q ca) vb (.slice (some ⟨gc, 0, none⟩) q cc) vd La Lb Lc w) : ga ≠ gc := by
  have := h.ba ga rfl
  have := h.bc gc rfl
  have := h.l12
  omega
theorem Quad.store {ga ca gc cc : Nat} (h : Quad b0 b1 b2 b3 b4 q (.slice (some ⟨ga, 0, none⟩) q ca) vb (.slice (some ⟨gc, 0, none⟩) q cc) vd La Lb Lc w) (k : Nat) :
    Quad b0 b1 b2 b3 b4 q (.slice (some ⟨ga, 0, none⟩) q ca) vb (.slice (some ⟨gc, 0, none⟩) q cc) vd (La.set k 0) Lb (Lc.set k 0) ((w.setCell ⟨ga, k, none⟩ (.int .i64 0)).setCell ⟨gc, k, none⟩ (.int .i64 0)) := by
  have h1 := h.ba ga rfl
  have h2 := h.bc gc rfl
  have h3 := h.l12
  have h4 := h.l23
  have h5 := h.l34
  refine ⟨(h.a.store k 0).setOther h.ba _ _ (.inr (by simp; omega)), (h.b.setOther h.bb _ _ (.inl (by simp; omega))).setOther h.bb _ _ (.inr (by simp; omega)), (h.c.setOther h.bc _ _ (.inl (by simp; omega))).store k 0,
    (h.d.setOther h.bd _ _ (.inl (by simp; omega))).setOther h.bd _ _ (.inl (by simp; omega)), h.ba, h.bb, h.bc, h.bd, h.l01, h.l12, h.l23, h.l34, by have := h.l4; simpa using this⟩
theorem Quad.below {ga ca gc cc : Nat} {w0 : World} (h : Quad b0 b1 b2 b3 b4 q (.slice (some ⟨ga, 0, none⟩) q ca) vb (.slice (some ⟨gc, 0, none⟩) q cc) vd La Lb Lc w) (k : Nat) (hb : Below b0 w0 w) :
    Below b0 w0 ((w.setCell ⟨ga, k, none⟩ (.int .i64 0)).setCell ⟨gc, k, none⟩ (.int .i64 0)) := by
  have h1 := h.ba ga rfl
  have h2 := h.bc gc rfl
  have h3 := h.l12
  have h4 := h.l01
  refine hb.trans ⟨rfl, rfl, rfl, by simp, fun j hj => ?_⟩
  rw [heap_setCell_other _ _ _ _ (by simp; omega), heap_setCell_other _ _ _ _ (by simp; omega)]
theorem Quad.afterA {w1 : World} {o : Obj} {va vc : Value} (h : Quad b0 b1 b2 b3 b4 q va vb vc vd La Lb Lc w) (hg : (w.alloc o).grownBy w1 va.ownBlock) (hk : OwnI w1 b0 va q La) : Quad b0 b1 b2 b3 b4 q va vb vc vd La Lb Lc w1 :=
  ⟨hk, (h.b.alloc o).other hg (h.bb.ne h.ba (.inr (Nat.le_refl _))), (h.c.alloc o).other hg (h.bc.ne h.ba (.inr h.l12)), (h.d.alloc o).other hg (h.bd.ne h.ba (.inr (Nat.le_trans h.l12 h.l23))),
    h.ba, h.bb, h.bc, h.bd, h.l01, h.l12, h.l23, h.l34, by have h1 := hg.size; have h2 := h.l4; simp at h1; omega⟩
theorem Quad.afterC {w1 : World} {o : Obj} {va vc : Value} (h : Quad b0 b1 b2 b3 b4 q va vb vc vd La Lb Lc w) (hg : (w.alloc o).grownBy w1 vc.ownBlock) (hk : OwnI w1 b2 vc q Lc) : Quad b0 b1 b2 b3 b4 q va vb vc vd La Lb Lc w1 :=
  ⟨(h.a.alloc o).other hg (h.ba.ne h.bc (.inl h.l12)), (h.b.alloc o).other hg (h.bb.ne h.bc (.inl (Nat.le_refl _))), hk, (h.d.alloc o).other hg (h.bd.ne h.bc (.inr (Nat.le_refl _))),
    h.ba, h.bb, h.bc, h.bd, h.l01, h.l12, h.l23, h.l34, by have h1 := hg.size; have h2 := h.l4; simp at h1; omega⟩
theorem Quad.ext {w1 : World} {va vc : Value} (h : Quad b0 b1 b2 b3 b4 q va vb vc vd La Lb Lc w) (hb : Below w.heap.size w w1) : Quad b0 b1 b2 b3 b4 q va vb vc vd La Lb Lc w1 :=
  ⟨h.a.ext hb, h.b.ext hb, h.c.ext hb, h.d.ext hb, h.ba, h.bb, h.bc, h.bd, h.l01, h.l12, h.l23, h.l34, Nat.le_trans h.l4 hb.size⟩
/-- what a longer one of a is, behind the append to c -/
theorem Quad.longer {we wf wx : World} {oe : Obj} {va vc vg : Value} {n : Nat} {L : List Int} (h : Quad b0 b1 b2 b3 b4 q va vb vc vd La Lb Lc wx) (hx : wx.heap.size ≤ we.heap.size) (hg : OwnI wx b0 vg n L) (hat : vg.ownBlock = va.ownBlock ∨ ∃ lo hi, Blk vg lo hi ∧ b4 ≤ lo)
    (hgr : (wx.alloc oe).grownBy wf vc.ownBlock) : OwnI wf b0 vg n L := by
  refine (hg.alloc oe).other hgr ?_
  rcases hat with h1 | ⟨lo, hi, h1, h2⟩
  · rw [h1]; exact h.ba.ne h.bc (.inl h.l12)
  · exact h1.ne h.bc (.inr (Nat.le_trans h.l34 h2))
end
/-- the first k are 0 -/
def Zeros (k : Nat) (l : List Int) : Prop := ∀ i, i < k → l.getD i 0 = 0
theorem Zeros.start (l : List Int) : Zeros 0 l := fun i hi => by omega
theorem Zeros.step {k : Nat} {l : List Int} (h : Zeros k l) (hk : k < l.length) : Zeros (k + 1) (l.set k 0) := fun i hi => by
  rw [getD_set _ _ _ _ hk]
  split
  · rfl
  · exact h i (by omega)
set_option maxRecDepth 100000 in
set_option maxHeartbeats 4000000 in
theorem walk_SpaceApart (x : Int) (A : Option Addr) (n c : Nat) (l : List Bool) (w : World) (hx : -9223372036854775808 ≤ x ∧ x < 9223372036854775808) (hr : RdB w A n c l) :
    Calls Try.prog 3 #[.int .i64 x, .slice A n c] w fun e w' => e = .returned (.bool true) ∧ Below w.heap.size w w' := by
  have HR := Lib.hid hr
  clear hr
  go_enter Try.func3, Try.ntmps3
  go_wp2_with fail
  refine (l8_open x hx A n c l w HR.out).mono ?_
  rintro e w1 ⟨b, g, m, is, rfl, hI0, hlen0, hm1, hm64, hv0, hb, hg, hB1⟩
  have HI0 := Lib.hid hI0
  have HL0 := Lib.hid hlen0
  have HC := Lib.hid (show StC is from hv0)
  clear hI0 hlen0 hv0
  have hb0 : (0 : Int) ≤ m ∧ (m : Int) ≤ 64 := by omega
  go_wp2_with fail
  refine (l8_fixed w1).mono ?_
  rintro e w2 ⟨bf, rfl, hB2⟩
  have HI2 := Lib.hid (HI0.out.ext hB2)
  have HB2 := Lib.hid (hB1.trans (hB2.mono hB1.size))
  have hlt : b < w2.heap.size ∧ g < w2.heap.size := ⟨lt_of_block HI2.out.st, lt_of_block HI2.out.arr⟩
  clear hB1 hB2
  obtain ⟨T, hT⟩ : ∃ T, T = sel pT 2 is is.length := ⟨_, rfl⟩
  obtain ⟨q, hq⟩ : ∃ q, q = T.length := ⟨_, rfl⟩
  have hq64 : q ≤ 64 := by have h1 := sel_length pT 2 is is.length; rw [← hT, ← hq] at h1; have := HL0.out; omega
  have HT := Lib.hid hT
  have HQ := Lib.hid hq
  clear hT hq
  go_wp2_with fail
  refine (sp_Taken b g 2 is _ HI2.out).mono ?_
  rintro e w3 ⟨v3, rfl, hO3, hB3⟩
  rw [← HT.out, ← HQ.out] at hO3
  have HO3 := Lib.hid hO3
  have HB3 := Lib.hid hB3
  clear hO3 hB3
  go_wp2_with (at_builtin; refine wp_appI (D := []) (w0 := w2) w2.heap.size (HO3.out.alloc _) (RdI.lit [] w3 [171, 172] 2 rfl (by omega) (by simp)) (HB3.out.alloc HB3.out.size _) (by simp; have := HB3.out.size; omega) (by omega) _ _ rfl rfl rfl rfl ?_; intro v1 w4 hO4 hB4; obtain ⟨gl, cl, rfl, hgl, hgl4⟩ := hO4.form (by omega); have hql : q ≤ cl := (by have := (hO4.rdA [] (by omega) (by simp)).cap; omega); have HO4 := Lib.hid hO4; have HB4 := Lib.hid hB4; clear hO4 hB4)
  have hN := sp_New (2 + m) 2 (by omega) (by omega) (some ⟨gl, 0, none⟩) q cl T w4 (by have h1 := (HO4.out.rdA [] (by omega) (by simp)).take q (by omega); rw [take_app _ _ _ HQ.out] at h1; exact h1)
  rw [show ((2 + m : Nat) : Int) = 2 + (m : Int) by omega] at hN
  refine hN.mono ?_
  clear hN
  intro e w5 hP
  have hok : NewOk 2 (2 + m) T q := by
    have := sel_ok pT 2 is is.length (2 + m) (by rw [HL0.out]; omega)
    rw [← HT.out, ← HQ.out] at this
    exact this
  obtain ⟨hP1, -, hB5⟩ := hP
  obtain ⟨rfl, hI5⟩ := hP1 hok
  clear hP1 hok
  have HT5 := Lib.hid (show IsSp w5 (w4.heap.size + 1) w4.heap.size 2 is by
    have h1 := nk_sel HC.out
    rw [HL0.out, ← HL0.out, ← HT.out, ← HQ.out, HL0.out] at h1
    rw [show 2 + m - 2 = m by omega, h1] at hI5
    exact hI5)
  have HI5 := Lib.hid ((HI2.out.ext HB4.out).ext hB5)
  have HO5 := Lib.hid (HO4.out.ext hB5)
  have HB5 := Lib.hid (HB4.out.trans (hB5.mono HB4.out.size))
  have hsz : w2.heap.size ≤ w4.heap.size ∧ w4.heap.size + 1 < w5.heap.size := ⟨HB4.out.size, lt_of_block HT5.out.st⟩
  clear hI5 hB5
  have hcl0 := HO5.out.cell q (by omega)
  have hcl1 := HO5.out.cell (q + 1) (by omega)
  rw [(two_at T q HQ.out).1] at hcl0
  rw [(two_at T q HQ.out).2] at hcl1
  go_upto_region 7 with fail
  have hw1 : IntKind.i64.wrap ((q : Int) + 1) = (q : Int) + 1 := IntWalk.i64_in _ (by omega)
  have hw2 : (0 : Int) ≤ (q : Int) + 1 ∧ (q : Int) + 1 < (q : Int) + 2 ∧ (q : Int) < (q : Int) + 2 := by omega
  have hw3 : ((q : Int) + 1).toNat = q + 1 := by omega
  go_region_held3 (fun w' => w'.cell? ⟨gl, q, none⟩ = some (.int .i64 171) ∧ w'.cell? ⟨gl, q + 1, none⟩ = some (.int .i64 172) ∧ Only [] w5 w')
    (first | exact ⟨e0, e1, e2⟩ | exact ⟨d0, d1, d2⟩ | exact ⟨hcl0, hcl1, (Only.refl [] _).drew⟩)
    (first | (go_at_call 12; refine (l8_sameInts (D := []) (D' := []) (l := T) (l' := T) _ ?hq1 HR6.out).mono ?_; (case hq1 => exact (HO5.out.rdA [] (by omega) (by simp)).takeT HQ.out d2); rintro e w7 ⟨rfl, hO7⟩; rw [decide_eq_true rfl]; have e0 := cell_only hO7 d0; have e1 := cell_only hO7 d1; have e2 := d2.trans hO7; clear hO7) | (go_at_call 10; refine (sp_Taken b g 2 is _ ?hq1).mono ?_; (case hq1 => exact HI5.out.only ((Only.refl [] _).drew) (by simp) (by simp)); rintro e w6 ⟨v6, rfl, hO6, hB6⟩; rw [← HT.out, ← HQ.out] at hO6; obtain ⟨A6, c6, rfl, hR6⟩ := hO6.rd [] (by omega) (by simp); have HR6 := Lib.hid hR6; have d0 := cell_ext hB6 hcl0; have d1 := cell_ext hB6 hcl1; have d2 : Only [] w5 w6 := ((Only.refl [] w5).drew).trans (Only.of_below [] hB6); clear hO6 hR6 hB6))
  rename_i hHeld
  have HI7 := Lib.hid (HI5.out.only e2 (by simp) (by simp))
  have HT7 := Lib.hid (HT5.out.only e2 (by simp) (by simp))
  have HO7 := Lib.hid (HO5.out.only e2 (by simp))
  have HB7 := Lib.hid (HB5.out.trans (e2.below HB5.out.size (by simp)))
  clear hHeld e0 e1 e2 d0 d1 d2 hw1 hw2 hw3 hcl0 hcl1
  go_wp2_with fail
  go_loopw [10] (fun x wr => ∃ k : Nat, ∃ L' : List Int, k ≤ q ∧ x = .int .i64 k ∧ OwnI wr w2.heap.size (.slice (some ⟨gl, 0, none⟩) (q + 2) cl) (q + 2) L' ∧ Only [gl] w7 wr) (fun x _ => q - (intOf x).toNat)
  case atStart => exact ⟨0, _, by omega, rfl, HO7.out, Only.refl _ _⟩
  case round =>
    obtain ⟨k, L', hk, rfl, hO, hON⟩ := hrel
    have HO := Lib.hid hO
    have HON := Lib.hid hON
    clear hO hON
    by_cases hkq : k < q
    · have hf := HO.out.free k
      have hcc := HO.out.cell k (by omega)
      go_wp2
      go_roundw
      case rel => exact ⟨k + 1, _, by omega, by go_num, HO.out.store k 1, HON.out.setCell (by simp) _⟩
      case measure => simp [intOf]; omega
    obtain rfl : q = k := by omega
    have HI8 := Lib.hid (HI7.out.only HON.out (by simp; omega) (by simp; omega))
    have HT8 := Lib.hid (HT7.out.only HON.out (by simp; omega) (by simp; omega))
    have HB8 := Lib.hid (HB7.out.trans (HON.out.below HB7.out.size (by simp; omega)))
    go_wp2_with fail
    refine (sp_Taken (w4.heap.size + 1) w4.heap.size 2 is _ HT8.out).mono ?_
    rintro e w9 ⟨v9, rfl, hO9, hB9⟩
    rw [← HT.out, ← HQ.out] at hO9
    obtain ⟨A9, c9, rfl, hR9⟩ := hO9.rd [] (by omega) (by simp)
    have HR9 := Lib.hid hR9
    have HB9 := Lib.hid hB9
    clear hO9 hR9 hB9
    go_wp2_with fail
    refine (sp_Taken b g 2 is _ (HI8.out.ext HB9.out)).mono ?_
    rintro e w10 ⟨v10, rfl, hO10, hB10⟩
    rw [← HT.out, ← HQ.out] at hO10
    obtain ⟨A10, c10, rfl, hR10⟩ := hO10.rd [] (by omega) (by simp)
    have HR10 := Lib.hid hR10
    have HB10 := Lib.hid hB10
    clear hO10 hR10 hB10
    go_wp2_with fail
    refine (l8_sameInts _ (HR9.out.ext HB10.out) HR10.out).mono ?_
    rintro e w11 ⟨rfl, hO11⟩
    rw [decide_eq_true rfl]
    have hN11 : Only [] wr w11 := ((Only.of_below [] HB9.out).trans (Only.of_below [] HB10.out)).trans hO11
    have HI11 := Lib.hid (HI8.out.only hN11 (by simp) (by simp))
    have HT11 := Lib.hid (HT8.out.only hN11 (by simp) (by simp))
    have HB11 := Lib.hid (HB8.out.trans (hN11.below HB8.out.size (by simp)))
    clear hO11 hN11
    go_wp2_with fail
    refine (sp_Taken b g 2 is _ HI11.out).mono ?_
    rintro e w12 ⟨v12, rfl, hO12, hB12⟩
    rw [← HT.out, ← HQ.out] at hO12
    obtain ⟨A12, c12, rfl, hR12⟩ := hO12.rd [w4.heap.size + 1, w4.heap.size] (by omega) (by have := lt_of_block HT11.out.st; simp; omega)
    have HR12 := Lib.hid hR12
    have HI12 := Lib.hid (HI11.out.ext hB12)
    have HT12 := Lib.hid (HT11.out.ext hB12)
    have HB12 := Lib.hid (HB11.out.trans (hB12.mono HB11.out.size))
    clear hO12 hR12 hB12
    obtain ⟨bt, hbt⟩ : ∃ bt, bt = w4.heap.size + 1 := ⟨_, rfl⟩
    obtain ⟨gt, hgt⟩ : ∃ gt, gt = w4.heap.size := ⟨_, rfl⟩
    rw [← hbt] at HT12
    rw [← hbt, ← hgt] at HR12
    rw [← hgt] at HT12
    go_wp2_with fail
    rw [← hbt]
    have hord : b < gt ∧ g < gt ∧ b < bt ∧ g < bt := by omega
    have hbtw : w.heap.size ≤ bt ∧ w.heap.size ≤ gt := by have := HB2.out.size; omega
    have hlt12 : b < w12.heap.size ∧ g < w12.heap.size ∧ bt < w12.heap.size ∧ gt < w12.heap.size := ⟨lt_of_block HI12.out.st, lt_of_block HI12.out.arr, lt_of_block HT12.out.st, lt_of_block HT12.out.arr⟩
    have HBW := Lib.hid (HB2.out.trans (HB12.out.mono HB2.out.size))
    clear hbt hgt hsz hql hgl hgl4 HB2 HB12
    clear HI0 HI2 HO3 HB3 HO4 HB4 HT5 HI5 HO5 HB5 HI7 HT7 HO7 HB7 HO HON HI8 HT8 HB8 HR9 HB9 HR10 HB10 HI11 HT11 HB11
    go_loopw [12, 98] (fun _ x wr => ∃ k : Nat, k ≤ q ∧ x = .int .i64 k ∧ IsSp wr bt gt 2 (gvS is T k) ∧ Only [bt, gt] w12 wr) (fun _ x _ => q - (intOf x).toNat)
    case atStart => exact ⟨0, by omega, rfl, HT12.out, Only.refl _ _⟩
    case round =>
      obtain ⟨k, hk, rfl, hI, hON⟩ := hrel
      have HTk := Lib.hid hI
      have HON := Lib.hid hON
      clear hI hON
      by_cases hkq2 : k < q
      · have hR := HR12.out.only HON.out (fun _ h => h)
        obtain ⟨bb, oo, rfl, hnd, hc⟩ := hR.at_ (by omega)
        have hck := hc k hkq2
        obtain ⟨t, ht⟩ : ∃ t, t = T.getD k 0 := ⟨_, rfl⟩
        rw [← ht] at hck
        have hb2 := sel_bound pT 2 is is.length k (by rw [← HT.out, ← HQ.out]; exact hkq2)
        rw [← HT.out, ← ht, HL0.out] at hb2
        have HGE := Lib.hid (show giveE 2 (gvS is T k) t = 0 by rw [ht]; exact (gv_step HC.out T HT.out k (by rw [← HQ.out]; omega)).2 (by rw [← HQ.out]; exact hkq2))
        have HGS := Lib.hid (show giveS 2 (gvS is T k) t = gvS is T (k + 1) by rw [ht]; rfl)
        clear hR hc hnd ht
        go_wp2_with fail
        refine (sp_Give bt gt 2 _ t _ HTk.out (by omega)).mono ?_
        rintro e w13 ⟨rfl, hI, hO⟩
        rw [HGE.out]
        rw [HGS.out] at hI
        have HI13 := Lib.hid hI
        have HO13 := Lib.hid hO
        clear hI hO
        go_wp2
        go_roundw
        case rel => exact ⟨k + 1, by omega, by go_num, HI13.out, HON.out.trans HO13.out⟩
        case measure => simp [intOf]; omega
      obtain rfl : q = k := by omega
      have hHG : sel pH 2 (gvS is T q) (gvS is T q).length = T := by have := held_gv HC.out T HT.out; rwa [← HQ.out] at this
      obtain ⟨fin, hfin⟩ : ∃ fin, fin = gvS is T q := ⟨_, rfl⟩
      rw [← hfin] at hHG
      have HT13 := Lib.hid (show IsSp wr bt gt 2 fin by rw [hfin]; exact HTk.out)
      have HHG := Lib.hid hHG
      have HI13 := Lib.hid (HI12.out.only HON.out (by simp; omega) (by simp; omega))
      have HB13 := Lib.hid (HBW.out.trans (HON.out.below HBW.out.size (by simp; omega)))
      have hlt13 : b < wr.heap.size ∧ g < wr.heap.size ∧ bt < wr.heap.size ∧ gt < wr.heap.size := by have := HON.out.size; omega
      clear hHG hfin HTk HON HI12 HT12 HR12 HBW hlt12
      -- a, b, c, d
      go_wp2_with fail
      refine (sp_Held bt gt 2 fin _ HT13.out).mono ?_
      rintro e wa ⟨va, rfl, hOa, hBa⟩
      rw [HHG.out, ← HQ.out] at hOa
      obtain ⟨Aa, ca, rfl⟩ := hOa.slice
      have HOa := Lib.hid hOa
      have HBa := Lib.hid hBa
      have HTa := Lib.hid (HT13.out.ext hBa)
      have HIa := Lib.hid (HI13.out.ext hBa)
      have hsa := hBa.size
      clear hOa hBa
      go_wp2_with fail
      refine (sp_Held bt gt 2 fin _ HTa.out).mono ?_
      rintro e wb ⟨vb, rfl, hOb, hBb⟩
      rw [HHG.out, ← HQ.out] at hOb
      obtain ⟨Ab, cb, rfl⟩ := hOb.slice
      have HOb := Lib.hid hOb
      have HBb := Lib.hid hBb
      have HTb := Lib.hid (HTa.out.ext hBb)
      have HIb := Lib.hid (HIa.out.ext hBb)
      have hsb := hBb.size
      clear hOb hBb
      go_wp2_with fail
      refine (sp_Taken b g 2 is _ HIb.out).mono ?_
      rintro e wc ⟨vc, rfl, hOc, hBc⟩
      rw [← HT.out, ← HQ.out] at hOc
      obtain ⟨Ac, cc, rfl⟩ := hOc.slice
      have HOc := Lib.hid hOc
      have HBc := Lib.hid hBc
      have HTc := Lib.hid (HTb.out.ext hBc)
      have HIc := Lib.hid (HIb.out.ext hBc)
      have hsc := hBc.size
      clear hOc hBc
      go_wp2_with fail
      refine (sp_Taken b g 2 is _ HIc.out).mono ?_
      rintro e wd ⟨vd, rfl, hOd, hBd⟩
      rw [← HT.out, ← HQ.out] at hOd
      obtain ⟨Ad, cd, rfl⟩ := hOd.slice
      have HOd := Lib.hid hOd
      have hsd := hBd.size
      have HQ0 := Lib.hid (show Quad wr.heap.size wa.heap.size wb.heap.size wc.heap.size wd.heap.size q (.slice Aa q ca) (.slice Ab q cb) (.slice Ac q cc) (.slice Ad q cd) T T T wd from
        ⟨((HOa.out.ext HBb.out).ext HBc.out).ext hBd, (HOb.out.ext HBc.out).ext hBd, HOc.out.ext hBd, hOd, HOa.out.blk, HOb.out.blk, HOc.out.blk, hOd.blk, hsa, hsb, hsc, hsd, Nat.le_refl _⟩)
      have HBd := Lib.hid (((HBa.out.trans (HBb.out.mono hsa)).trans (HBc.out.mono (Nat.le_trans hsa hsb))).trans (hBd.mono (Nat.le_trans hsa (Nat.le_trans hsb hsc))))
      clear hOd hBd HOa HOb HOc HOd HBa HBb HBc HTa HTb HTc HIa HIb HIc
      go_wp2_with fail
      go_loopw [17] (fun x wq => ∃ k : Nat, ∃ La Lc : List Int, k ≤ q ∧ x = .int .i64 k ∧ Zeros k La ∧ Zeros k Lc ∧ Quad wr.heap.size wa.heap.size wb.heap.size wc.heap.size wd.heap.size q (.slice Aa q ca) (.slice Ab q cb) (.slice Ac q cc) (.slice Ad q cd) La T Lc wq ∧ Below wr.heap.size wr wq) (fun x _ => q - (intOf x).toNat)
      case atStart => exact ⟨0, T, T, by omega, rfl, Zeros.start _, Zeros.start _, HQ0.out, HBd.out⟩
      case round =>
        obtain ⟨k, La, Lc, hk, rfl, hza, hzc, hQd, hBq⟩ := hrel
        have HZa := Lib.hid hza
        have HZc := Lib.hid hzc
        have HQd := Lib.hid hQd
        have HBq := Lib.hid hBq
        clear hza hzc hQd hBq
        by_cases hkq3 : k < q
        · obtain ⟨ga, rfl⟩ := HQd.out.formA (by omega)
          obtain ⟨gc, rfl⟩ := HQd.out.formC (by omega)
          have f1 := HQd.out.a.free k
          have f2 := HQd.out.c.free k
          have e1 := HQd.out.a.cell k hkq3
          have e2 := HQd.out.c.cell k hkq3
          have hne := HQd.out.neAC
          have hS := Lib.hid (HQd.out.store k)
          have hBl := Lib.hid (HQd.out.below k HBq.out)
          have hne2 := Ne.symm hne
          go_wp2
          go_roundw
          case rel => exact ⟨k + 1, _, _, by omega, by go_num, HZa.out.step (by rw [HQd.out.a.len]; exact hkq3), HZc.out.step (by rw [HQd.out.c.len]; exact hkq3), hS.out, hBl.out⟩
          case measure => simp [intOf]; omega
        obtain rfl : q = k := by omega
        have hl13 : b < wr.heap.size ∧ g < wr.heap.size ∧ bt < wr.heap.size ∧ gt < wr.heap.size := by have := HBq.out.size; omega
        have HI15 := Lib.hid (HI13.out.below HBq.out (by omega) (by omega))
        have HT15 := Lib.hid (HT13.out.below HBq.out (by omega) (by omega))
        have HB15 := Lib.hid (HB13.out.trans (HBq.out.mono HB13.out.size))
        have hwo := HB13.out.size
        clear HI13 HT13 HB13
        have hbs : wr.heap.size ≤ (wr.alloc (.cells #[.int .i64 9] 3)).heap.size := by simp
        have hba := Nat.le_trans HBq.out.size hbs
        clear hbs
        go_upto_region 31 with (at_builtin; refine wp_appI_keep2 (D := []) (w0 := wr.alloc (.cells #[.int .i64 9] 3)) _ (HQd.out.a.alloc _) (RdI.lit [] wr [9] 1 rfl (by omega) (by simp)) (Below.refl _ _) hba (by omega) (by omega) _ _ rfl rfl rfl rfl ?_; intro vg we hG hK hBe hgr hat; have HG := Lib.hid hG; have HK := Lib.hid hK; have HBe := Lib.hid hBe; have HGR := Lib.hid hgr; have HAT := Lib.hid hat; clear hG hK hBe hgr hat)
        have HQe := Lib.hid (HQd.out.afterA HGR.out HK.out)
        have HI16 := Lib.hid ((HI15.out.ext ((Below.refl _ _).alloc (Nat.le_refl _) _)).below HBe.out (by omega) (by omega))
        have HT16 := Lib.hid ((HT15.out.ext ((Below.refl _ _).alloc (Nat.le_refl _) _)).below HBe.out (by omega) (by omega))
        have HB16 := Lib.hid ((HB15.out.alloc HB15.out.size (.cells #[.int .i64 9] 3)).trans (HBe.out.mono hwo))
        clear HI15 HT15 HB15
        have hbc : wb.heap.size ≤ (we.alloc (.cells #[.int .i64 9] 3)).heap.size := by have h1 := HQe.out.l34; have h2 := HQe.out.l4; have h3 := HQe.out.l23; simp; omega
        go_wp2_with (at_builtin; refine wp_appI_keep2 (D := []) (w0 := we.alloc (.cells #[.int .i64 9] 3)) _ (HQe.out.c.alloc _) (RdI.lit [] we [9] 1 rfl (by omega) (by simp)) (Below.refl _ _) hbc (by omega) (by omega) _ _ rfl rfl rfl rfl ?_; intro vh wf hG2 hK2 hBf hgr2 hat2; have HH := Lib.hid hG2; have HK2 := Lib.hid hK2; have HBf := Lib.hid hBf; have HGR2 := Lib.hid hgr2; clear hG2 hK2 hBf hgr2 hat2)
        have HQf := Lib.hid (HQe.out.afterC HGR2.out HK2.out)
        have HGf := Lib.hid (HQe.out.longer (Nat.le_refl _) HG.out (by
          rcases HAT.out with h1 | h1
          · exact .inl h1
          · exact .inr ⟨_, _, h1, by have := HQd.out.l4; simp; omega⟩) HGR2.out)
        have hlo : wr.heap.size ≤ we.heap.size := by have := HBe.out.size; simp at this; omega
        have HI17 := Lib.hid ((HI16.out.ext ((Below.refl _ _).alloc (Nat.le_refl _) _)).below HBf.out (by omega) (by omega))
        have HT17 := Lib.hid ((HT16.out.ext ((Below.refl _ _).alloc (Nat.le_refl _) _)).below HBf.out (by omega) (by omega))
        have HB17 := Lib.hid ((HB16.out.alloc HB16.out.size (.cells #[.int .i64 9] 3)).trans (HBf.out.mono (by omega)))
        clear HQd HBq HI16 HT16 HB16 HG HK HBe HGR HAT HQe HK2 HBf HGR2
        refine (sp_Held bt gt 2 fin _ HT17.out).mono ?_
        rintro e wg ⟨vx, rfl, hO, hB⟩
        rw [HHG.out, ← HQ.out] at hO
        obtain ⟨Ax, cx, rfl, hR⟩ := hO.rd [] (by omega) (by simp)
        have HX := Lib.hid hR
        have HI18 := Lib.hid (HI17.out.ext hB)
        have HB18 := Lib.hid (HB17.out.trans (hB.mono HB17.out.size))
        have HQg := Lib.hid (HQf.out.ext hB)
        have HGg := Lib.hid (HGf.out.ext hB)
        have HHg := Lib.hid (HH.out.ext hB)
        clear hO hB hR HQf HGf HH HI17 HT17 HB17
        go_wp2_with fail
        refine (sp_Taken b g 2 is _ HI18.out).mono ?_
        rintro e wh ⟨vy, rfl, hO, hB⟩
        rw [← HT.out, ← HQ.out] at hO
        obtain ⟨Ay, cy, rfl, hR⟩ := hO.rd [] (by omega) (by simp)
        have HY := Lib.hid hR
        have HXh := Lib.hid (HX.out.ext hB)
        have HB19 := Lib.hid (HB18.out.trans (hB.mono HB18.out.size))
        have HQh := Lib.hid (HQg.out.ext hB)
        have HGh := Lib.hid (HGg.out.ext hB)
        have HHh := Lib.hid (HHg.out.ext hB)
        clear hO hB hR HQg HGg HHg HX HI18 HB18
        go_wp2_with fail
        go_loopw [22] (fun x wz => ∃ k : Nat, k ≤ q ∧ x = .int .i64 k ∧ wz = wh) (fun x _ => q - (intOf x).toNat)
        case atStart => exact ⟨0, by omega, rfl, rfl⟩
        case round =>
          obtain ⟨k, hk, rfl, rfl⟩ := hrel
          by_cases hkq4 : k < q
          · obtain ⟨ga, rfl⟩ := HQh.out.formA (by omega)
            obtain ⟨gc, rfl⟩ := HQh.out.formC (by omega)
            have e1 := HQh.out.a.cell k hkq4
            have e2 := HQh.out.c.cell k hkq4
            rw [HZa.out k hkq4] at e1
            rw [HZc.out k hkq4] at e2
            go_wp2
            go_roundw
            case rel => exact ⟨k + 1, by omega, by go_num, trivial⟩
            case measure => simp [intOf]; omega
          obtain rfl : q = k := by omega
          have HRb := Lib.hid (HQh.out.b.rdA [] (by omega) (by simp))
          have HRd := Lib.hid (HQh.out.d.rdA [] (by omega) (by simp))
          obtain ⟨gg, cg, rfl, -, -⟩ := HGh.out.form (by omega)
          obtain ⟨gh, ch, rfl, -, -⟩ := HHh.out.form (by omega)
          have z1 := HGh.out.cell q (by omega)
          have z2 := HHh.out.cell q (by omega)
          rw [one_at _ q 9 (HQh.out.a.len).symm] at z1
          rw [one_at _ q 9 (HQh.out.c.len).symm] at z2
          go_wp2_with fail
          refine (l8_sameInts _ HRb.out HRd.out).mono ?_
          rintro e y1 ⟨rfl, hO1⟩
          rw [decide_eq_true rfl]
          have HO1 := Lib.hid hO1
          clear hO1
          go_wp2_with fail
          refine (l8_sameInts _ (HXh.out.only HO1.out (by simp)) (HRb.out.only HO1.out (by simp))).mono ?_
          rintro e y2 ⟨rfl, hO2⟩
          rw [decide_eq_true rfl]
          have HO2 := Lib.hid (HO1.out.trans hO2)
          clear hO2
          go_wp2_with fail
          refine (l8_sameInts _ (HY.out.only HO2.out (by simp)) (HRd.out.only HO2.out (by simp))).mono ?_
          rintro e y3 ⟨rfl, hO3⟩
          rw [decide_eq_true rfl]
          have z3 := cell_only (HO2.out.trans hO3) z1
          have z4 := cell_only (HO2.out.trans hO3) z2
          have HB20 := Lib.hid (HB19.out.trans ((HO2.out.trans hO3).below HB19.out.size (by simp)))
          clear hO3 z1 z2
          go_wp2
          go_ret
          exact ⟨rfl, HB20.out⟩
end Go.Proofs.Ytodondpggkohjaa
