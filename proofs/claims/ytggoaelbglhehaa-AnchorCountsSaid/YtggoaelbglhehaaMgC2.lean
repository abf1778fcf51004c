/- AnchorCounts: which of two blocks counts: the walk, one case of eight. -/
import Derived.Test.YtggoaelbglhehaaMgC1
/- AnchorCounts: which of two blocks counts: the walk, one case of eight. -/
set_option linter.unusedVariables false
set_option linter.unusedSimpArgs false
set_option maxRecDepth 100000
namespace Go.Proofs.Ytggoaelbglhehaa
open Go.RowKit SumMath
set_option maxHeartbeats 16000000 in
theorem walkc0 (s t : Sp) (sp at_ : Int) (w : World) (hs : s.ok) (ht : t.ok) (hsp : i64B sp) (hat : i64B at_) (hc : sp = 0) :
    Calls Try.prog 5 #[.agg (spC s), .agg (spC t), .bool false, .int .i64 0, .int .i64 at_] w fun e w' => e = .returned (.bool true) ∧ Below w.heap.size w w' := by
  subst hc
  obtain ⟨q, hq0⟩ : ∃ q, q = w.heap.size := ⟨_, rfl⟩
  have HX1 := Lib.hid (show ((w.alloc (spO s)).alloc (spO t)).heap[q]? = some (spO s) by rw [hq0]; exact heap_alloc2_old w (spO s) (spO t))
  have HX2 := Lib.hid (show ((w.alloc (spO s)).alloc (spO t)).heap[q + 1]? = some (spO t) by rw [hq0, ← World.size_alloc w (spO s)]; exact heap_alloc_new (w.alloc (spO s)) (spO t))
  have HB0 := Lib.hid (((Below.refl _ w).alloc (Nat.le_refl _) (spO s)).alloc (by rw [World.size_alloc]; omega) (spO t))
  go_enter Try.func5, Try.ntmps5
  go_wp2_with fail
  refine (l11_fixed _).mono ?_
  rintro e w2 ⟨rfl, hB⟩
  have HX12 := Lib.hid ((hB.block q (lt_of_block HX1.out)).trans HX1.out)
  have HX22 := Lib.hid ((hB.block (q + 1) (lt_of_block HX2.out)).trans HX2.out)
  have HB2 := Lib.hid (HB0.out.trans (hB.mono HB0.out.size))
  clear hB HX1 HX2 HB0
  go_wp2_with fail
  refine (dv_New_ok 64 (by omega) (by omega) w2).mono ?_
  rintro e w3 ⟨rfl, hD, hB⟩
  have hV : IsV w3 (w2.heap.size + 1) w2.heap.size (.slice none 0 0) D64 := ⟨hD, ⟨PdOk.nil _, World.ownsRow_nil _ _ _ _⟩, fun k hk => by cases hk⟩
  have hS0 : St w2 w3 (w2.heap.size + 1) w2.heap.size (.slice none 0 0) D64 [] := St.of hV (fun s hs => by
    simp only [dvS, Value.ownBlock, Option.toList_none, List.mem_cons, List.not_mem_nil, or_false] at hs
    omega) hB
  obtain ⟨b, hb0⟩ : ∃ b, b = w2.heap.size + 1 := ⟨_, rfl⟩
  obtain ⟨g, hg0⟩ : ∃ g, g = w2.heap.size := ⟨_, rfl⟩
  rw [← hb0, ← hg0] at hS0
  rw [← hb0]
  have HS3 := Lib.hid hS0
  have HX13 := Lib.hid ((hB.block q (lt_of_block HX12.out)).trans HX12.out)
  have HX23 := Lib.hid ((hB.block (q + 1) (lt_of_block HX22.out)).trans HX22.out)
  have a1 : bits .and .i64 s.gen 1023 = s.gen % 1024 := i64_andm62 10 (by omega) s.gen
  obtain ⟨x, hx⟩ : ∃ x, x = s.gen % 1024 := ⟨_, rfl⟩
  have hx1 : (0 : Int) ≤ x ∧ x < 1024 := by omega
  rw [← hx] at a1
  obtain ⟨X, hX⟩ : ∃ X, X = rightS s (2 * (1 + x)) := ⟨_, rfl⟩
  have hXv : Vld X 64 := by rw [hX]; exact rightS_vld s _ (by omega)
  have hXg : X.gen = 2 * (1 + x) := by rw [hX]; rfl
  have HR1 := Lib.hid (l11_right s (2 * (1 + x)))
  rw [← hX] at HR1
  have HXV := Lib.hid hXv
  have HXG := Lib.hid hXg
  have hd := cell9 HX13.out
  rw [hq0] at hd
  have HGX := Lib.hid hx
  clear hB hV hS0 hD hX hx hXv hXg
  obtain ⟨xC, hxC⟩ : ∃ xC, xC = spC X := ⟨_, rfl⟩
  rw [← hxC] at HR1
  obtain ⟨sg, se, sb, sl, ss, sa, sr, sc, sv⟩ := s
  unfold spC at HR1 ⊢
  dsimp only at HR1 hd a1 ⊢
  go_wp2_with fail
  refine (HR1.out _).mono ?_
  rintro e w4 ⟨rfl, hB⟩
  have HX24 := Lib.hid ((hB.block (q + 1) (lt_of_block HX23.out)).trans HX23.out)
  have HX14 := Lib.hid ((hB.block q (lt_of_block HX13.out)).trans HX13.out)
  have HS4 := Lib.hid (HS3.out.below hB)
  clear hB hd HR1
  subst hxC
  have a2 : bits .and .i64 t.gen 1023 = t.gen % 1024 := i64_andm62 10 (by omega) t.gen
  obtain ⟨y, hy⟩ : ∃ y, y = t.gen % 1024 := ⟨_, rfl⟩
  have hy1 : (0 : Int) ≤ y ∧ y < 1024 := by omega
  rw [← hy] at a2
  obtain ⟨Y, hY⟩ : ∃ Y, Y = rightS t (2 * y + 1) := ⟨_, rfl⟩
  have HYV := Lib.hid (show Vld Y 64 by rw [hY]; exact rightS_vld t _ (by omega))
  have HYG := Lib.hid (show Y.gen = 2 * y + 1 by rw [hY]; rfl)
  have HR2 := Lib.hid (l11_right t (2 * y + 1))
  rw [← hY] at HR2
  have hS5 := HS4.out.new ((Below.refl _ w4).alloc (Nat.le_refl _) (spO X)) (Nat.le_refl _) (heap_alloc_new w4 (spO X))
  have HS5 := Lib.hid hS5
  have hX25 : (w4.alloc (spO X)).heap[q + 1]? = some (spO t) := (((Below.refl _ w4).alloc (Nat.le_refl _) (spO X)).block (q + 1) (lt_of_block HX24.out)).trans HX24.out
  have HX25 := Lib.hid hX25
  have hd := cell9 hX25
  rw [hq0] at hd
  have HGY := Lib.hid hy
  clear hY hy hS5 hX25
  obtain ⟨yC, hyC⟩ : ∃ yC, yC = spC Y := ⟨_, rfl⟩
  rw [← hyC] at HR2
  obtain ⟨tg, te, tb, tl, ts, ta, tr, tc, tv⟩ := t
  obtain ⟨xg, xe, xb, xl, xs, xa, xr, xc, xv⟩ := X
  unfold spO at hd
  unfold spC at HR2 hd ⊢
  dsimp only at HR2 hd a2 ⊢
  go_wp2_with fail
  refine (HR2.out _).mono ?_
  rintro e w6 ⟨rfl, hB⟩
  have hS6 := HS5.out.below hB
  have hS7 := hS6.new ((Below.refl _ w6).alloc (Nat.le_refl _) (spO Y)) (Nat.le_refl _) (heap_alloc_new w6 (spO Y))
  have HS7 := Lib.hid hS7
  have hd2 := cell9 (hS7.get 1 rfl)
  clear hB hd hS6 hS7 HR2
  subst hyC
  have HE1 := Lib.hid (an_Encode ⟨xg, xe, xb, xl, xs, xa, xr, xc, xv⟩ (vld_ok _ 64 HXV.out) (by have h := HXV.out; have e := h.blocks; dsimp only at e; subst e; exact h))
  obtain ⟨yg, ye, yb, yl, ys, ya, yr, yc, yv⟩ := Y
  unfold spO at hd2
  unfold spC at hd2 HE1 ⊢
  dsimp only at hd2 HE1 ⊢
  go_wp2_with fail
  refine (HE1.out _).mono ?_
  rintro e w8 ⟨k1, rfl, hO, hB⟩
  obtain ⟨p1, c1, o1, e1, hr1, hS8⟩ := HS7.out.newB hO hB (by omega)
  injection e1 with e1 e2 e3
  injection e1 with e1
  injection e1 with e1
  subst e1 e3
  have HS8 := Lib.hid hS8
  have HRB1 := Lib.hid hr1
  have hd3 := cell9 (hS8.get 1 rfl)
  clear hO hB hd2 hS8 hr1 HE1
  have HE2 := Lib.hid (an_Encode ⟨yg, ye, yb, yl, ys, ya, yr, yc, yv⟩ (vld_ok _ 64 HYV.out) (by have h := HYV.out; have e := h.blocks; dsimp only at e; subst e; exact h))
  unfold spC at HE2
  dsimp only at hd3 HE2
  go_wp2_with fail
  refine (HE2.out _).mono ?_
  rintro e w9 ⟨k2, rfl, hO, hB⟩
  obtain ⟨p2, c2, o2, e2, hr2, hS9⟩ := HS8.out.newB hO hB (by omega)
  injection e2 with e1 e2 e3
  injection e1 with e1
  injection e1 with e1
  subst e1 e3
  have HS9 := Lib.hid hS9
  have HRB2 := Lib.hid hr2
  clear hO hB hd3 hS9 hr2 HE2 HX12 HX13 HX14 HX22 HX23 HX24 HX25 HS3 HS4 HS5 HS7 HS8
  clear hs ht
  obtain ⟨LX, hLX⟩ : ∃ L, L = encL ⟨xg, xe, xb, xl, xs, xa, xr, xc, xv⟩ := ⟨_, rfl⟩
  obtain ⟨LY, hLY⟩ : ∃ L, L = encL ⟨yg, ye, yb, yl, ys, ya, yr, yc, yv⟩ := ⟨_, rfl⟩
  have HLX := Lib.hid (show LX.length = 512 by rw [hLX, encL_len])
  have HLY := Lib.hid (show LY.length = 512 by rw [hLY, encL_len])
  have HXP := Lib.hid (show ∀ a, cP ⟨xg, xe, xb, xl, xs, xa, xr, xc, xv⟩ true a = flipL LX a ∧ cP ⟨xg, xe, xb, xl, xs, xa, xr, xc, xv⟩ false a = LX from fun a => by rw [hLX]; exact ⟨rfl, rfl⟩)
  have HYP := Lib.hid (show ∀ a, cP ⟨yg, ye, yb, yl, ys, ya, yr, yc, yv⟩ true a = flipL LY a ∧ cP ⟨yg, ye, yb, yl, ys, ya, yr, yc, yv⟩ false a = LY from fun a => by rw [hLY]; exact ⟨rfl, rfl⟩)
  rw [← hLX] at HRB1
  rw [← hLY] at HRB2
  clear hLX hLY
  have a3 : bits .and .i64 at_ 511 = at_ % 512 := i64_andm62 9 (by omega) at_
  obtain ⟨a, ha⟩ : ∃ a : Nat, (a : Int) = at_ % 512 := ⟨(at_ % 512).toNat, by omega⟩
  rw [← ha] at a3
  have ha1 : a < 512 := by omega
  clear ha
  subst hb0 hg0
  have hcell := HS9.out.cell 1 rfl HRB1.out a ha1
  have hfree := HRB1.out.free (HS9.out.get 1 rfl) a
  obtain ⟨x0, hx0⟩ : ∃ x0, x0 = LX.getD a 0 := ⟨_, rfl⟩
  rw [← hx0] at hcell
  have h8 := x0.toNat_lt
  have hv : bits .xor .u8 (x0.toNat : Int) 1 = ((x0 ^^^ 1).toNat : Int) := flip_val x0 0
  have HV := Lib.hid hv
  obtain ⟨o5, ho5, hr5⟩ := HRB1.out.store (HS9.out.get 1 rfl) a (x0 ^^^ 1)
  have hS := HS9.out.store 1 a _ rfl ho5
  rw [← hv] at hS
  have HS := Lib.hid hS
  have HR5 := Lib.hid (show RowB o5 512 512 (flipL LX a) by unfold flipL; rw [← hx0]; exact hr5)
  clear hx0 hv ho5 hr5 hS
  have HP1 := Lib.hid (show RowB o5 512 512 (cP ⟨xg, xe, xb, xl, xs, xa, xr, xc, xv⟩ true a) from by rw [(HXP.out a).1]; exact HR5.out)
  have HP2 := Lib.hid (show RowB o2 512 512 (cP ⟨yg, ye, yb, yl, ys, ya, yr, yc, yv⟩ false a) from by rw [(HYP.out a).2]; exact HRB2.out)
  have HED := Lib.hid (show (edD D64 0 0 (cP ⟨xg, xe, xb, xl, xs, xa, xr, xc, xv⟩ true a)).1 = 0 ∧ (edD (edD D64 0 0 (cP ⟨xg, xe, xb, xl, xs, xa, xr, xc, xv⟩ true a)).2 1 0 (cP ⟨yg, ye, yb, yl, ys, ya, yr, yc, yv⟩ false a)).1 = 0 ∧ D2 0 (cP ⟨xg, xe, xb, xl, xs, xa, xr, xc, xv⟩ true a) (cP ⟨yg, ye, yb, yl, ys, ya, yr, yc, yv⟩ false a) = { D64 with M := splice (splice D64.M (0 * 512) (cP ⟨xg, xe, xb, xl, xs, xa, xr, xc, xv⟩ true a)) ((1 - 0) * 512) (cP ⟨yg, ye, yb, yl, ys, ya, yr, yc, yv⟩ false a) } from D2_eq 0 _ _ (by omega) (cP_len _ _ _) (cP_len _ _ _))
  have HC := Lib.hid (show (anR (D2 0 (cP ⟨xg, xe, xb, xl, xs, xa, xr, xc, xv⟩ true a) (cP ⟨yg, ye, yb, yl, ys, ya, yr, yc, yv⟩ false a))).1 = ⟨yg, ye, yb, yl, ys, ya, yr, yc, yv⟩ ∧ (anR (D2 0 (cP ⟨xg, xe, xb, xl, xs, xa, xr, xc, xv⟩ true a) (cP ⟨yg, ye, yb, yl, ys, ya, yr, yc, yv⟩ false a))).2.1 = 1 ∧ (anR (D2 0 (cP ⟨xg, xe, xb, xl, xs, xa, xr, xc, xv⟩ true a) (cP ⟨yg, ye, yb, yl, ys, ya, yr, yc, yv⟩ false a))).2.2.1 = 0 from by
    have h := counts_straight ⟨xg, xe, xb, xl, xs, xa, xr, xc, xv⟩ ⟨yg, ye, yb, yl, ys, ya, yr, yc, yv⟩ HXV.out HYV.out (by have h9 := HXG.out; show xg % 2 = 0; omega) (by have h9 := HYG.out; show yg % 2 = 1; omega) 0 a ha1
    rw [show cWant ⟨xg, xe, xb, xl, xs, xa, xr, xc, xv⟩ ⟨yg, ye, yb, yl, ys, ya, yr, yc, yv⟩ 0 = ⟨yg, ye, yb, yl, ys, ya, yr, yc, yv⟩ from by unfold cWant; rw [if_neg (by omega)], show Sp.gen ⟨yg, ye, yb, yl, ys, ya, yr, yc, yv⟩ % 2 = 1 by have h9 := HYG.out; show yg % 2 = 1; omega] at h
    exact h)
  obtain ⟨P, hP⟩ : ∃ P, P = (cP ⟨xg, xe, xb, xl, xs, xa, xr, xc, xv⟩ true a) := ⟨_, rfl⟩
  obtain ⟨Q, hQ⟩ : ∃ Q, Q = (cP ⟨yg, ye, yb, yl, ys, ya, yr, yc, yv⟩ false a) := ⟨_, rfl⟩
  rw [← hP, ← hQ] at HED HC
  rw [← hP] at HP1
  rw [← hQ] at HP2
  clear hP hQ
  go_wp2_with fail
  refine (st_EditG 0 0 (some ⟨k1, 0, none⟩) 512 512 P HS.out (HS.out.rd 1 rfl HP1.out (by omega)) (by omega)).mono ?_
  rintro e w11 ⟨rfl, hS⟩
  rw [HED.out.1]
  have HS11 := Lib.hid hS
  clear hS
  go_wp2_with fail
  refine (st_EditG 1 0 (some ⟨k2, 0, none⟩) 512 512 Q HS11.out (HS11.out.rd 0 rfl HP2.out (by omega)) (by omega)).mono ?_
  rintro e w12 ⟨rfl, hS⟩
  rw [HED.out.2.1]
  have HS12 := Lib.hid (show St w2 w12 _ _ _ (D2 0 P Q) _ from hS)
  clear hS
  go_wp2_with fail
  refine (st_anRead HS12.out (by rw [HED.out.2.2]; show (0 : Nat) < _; omega) (by rw [HED.out.2.2]; show (0 : Nat) ≤ _; omega)).mono ?_
  rintro e w13 ⟨rfl, hS⟩
  rw [HC.out.1, HC.out.2.1, HC.out.2.2]
  have hS14 := hS.new ((Below.refl _ w13).alloc (Nat.le_refl _) (spO ⟨yg, ye, yb, yl, ys, ya, yr, yc, yv⟩)) (Nat.le_refl _) (heap_alloc_new w13 (spO ⟨yg, ye, yb, yl, ys, ya, yr, yc, yv⟩))
  have HS14 := Lib.hid hS14
  have hd22 := cell9 (hS14.get 0 rfl)
  have hdY := cell9 (hS14.get 3 rfl)
  have hdX := cell9 (hS14.get 4 rfl)
  unfold spO at hd22 hdY hdX
  unfold spC at hd22 hdY hdX ⊢
  dsimp only at hd22 hdY hdX ⊢
  clear hS hS14
  go_upto_region 25 with (fail)
  have hS15 := HS14.out.new ((Below.refl _ _).alloc (Nat.le_refl _) (spO ⟨yg, ye, yb, yl, ys, ya, yr, yc, yv⟩)) (Nat.le_refl _) (heap_alloc_new _ (spO ⟨yg, ye, yb, yl, ys, ya, yr, yc, yv⟩))
  rw [World.size_alloc] at hS15
  obtain ⟨W15, hW⟩ : ∃ W, W = (w13.alloc (spO ⟨yg, ye, yb, yl, ys, ya, yr, yc, yv⟩)).alloc (spO ⟨yg, ye, yb, yl, ys, ya, yr, yc, yv⟩) := ⟨_, rfl⟩
  rw [← hW] at hS15
  unfold spO spC at hW
  dsimp only at hW
  rw [← hW]
  have HS15 := Lib.hid hS15
  clear hd22 hdY hdX hW
  have d25 := cell9 (hS15.get 0 rfl)
  have f25 := free9 (hS15.get 0 rfl)
  have d22 := cell9 (hS15.get 1 rfl)
  have dY := cell9 (hS15.get 4 rfl)
  have dX := cell9 (hS15.get 5 rfl)
  dsimp only at d25 d22 dY dX
  clear hS15
  have hm : yg.tmod 2 = 1 := by
    have h9 := HYG.out
    rw [Int.tmod_eq_emod_of_nonneg (by omega)]; omega
  go_wp2
  go_ret
  exact ⟨rfl, HB2.out.trans (HS15.out.bl.mono HB2.out.size)⟩
end Go.Proofs.Ytggoaelbglhehaa
/- AnchorCounts: which of two blocks counts: the walk, one case of eight. -/
set_option linter.unusedVariables false
set_option linter.unusedSimpArgs false
set_option maxRecDepth 100000
namespace Go.Proofs.Ytggoaelbglhehaa
open Go.RowKit SumMath
set_option maxHeartbeats 16000000 in
theorem walkc1 (s t : Sp) (sp at_ : Int) (w : World) (hs : s.ok) (ht : t.ok) (hsp : i64B sp) (hat : i64B at_) (hc : sp = 0) :
    Calls Try.prog 5 #[.agg (spC s), .agg (spC t), .bool true, .int .i64 0, .int .i64 at_] w fun e w' => e = .returned (.bool true) ∧ Below w.heap.size w w' := by
  subst hc
  obtain ⟨q, hq0⟩ : ∃ q, q = w.heap.size := ⟨_, rfl⟩
  have HX1 := Lib.hid (show ((w.alloc (spO s)).alloc (spO t)).heap[q]? = some (spO s) by rw [hq0]; exact heap_alloc2_old w (spO s) (spO t))
  have HX2 := Lib.hid (show ((w.alloc (spO s)).alloc (spO t)).heap[q + 1]? = some (spO t) by rw [hq0, ← World.size_alloc w (spO s)]; exact heap_alloc_new (w.alloc (spO s)) (spO t))
  have HB0 := Lib.hid (((Below.refl _ w).alloc (Nat.le_refl _) (spO s)).alloc (by rw [World.size_alloc]; omega) (spO t))
  go_enter Try.func5, Try.ntmps5
  go_wp2_with fail
  refine (l11_fixed _).mono ?_
  rintro e w2 ⟨rfl, hB⟩
  have HX12 := Lib.hid ((hB.block q (lt_of_block HX1.out)).trans HX1.out)
  have HX22 := Lib.hid ((hB.block (q + 1) (lt_of_block HX2.out)).trans HX2.out)
  have HB2 := Lib.hid (HB0.out.trans (hB.mono HB0.out.size))
  clear hB HX1 HX2 HB0
  go_wp2_with fail
  refine (dv_New_ok 64 (by omega) (by omega) w2).mono ?_
  rintro e w3 ⟨rfl, hD, hB⟩
  have hV : IsV w3 (w2.heap.size + 1) w2.heap.size (.slice none 0 0) D64 := ⟨hD, ⟨PdOk.nil _, World.ownsRow_nil _ _ _ _⟩, fun k hk => by cases hk⟩
  have hS0 : St w2 w3 (w2.heap.size + 1) w2.heap.size (.slice none 0 0) D64 [] := St.of hV (fun s hs => by
    simp only [dvS, Value.ownBlock, Option.toList_none, List.mem_cons, List.not_mem_nil, or_false] at hs
    omega) hB
  obtain ⟨b, hb0⟩ : ∃ b, b = w2.heap.size + 1 := ⟨_, rfl⟩
  obtain ⟨g, hg0⟩ : ∃ g, g = w2.heap.size := ⟨_, rfl⟩
  rw [← hb0, ← hg0] at hS0
  rw [← hb0]
  have HS3 := Lib.hid hS0
  have HX13 := Lib.hid ((hB.block q (lt_of_block HX12.out)).trans HX12.out)
  have HX23 := Lib.hid ((hB.block (q + 1) (lt_of_block HX22.out)).trans HX22.out)
  have a1 : bits .and .i64 s.gen 1023 = s.gen % 1024 := i64_andm62 10 (by omega) s.gen
  obtain ⟨x, hx⟩ : ∃ x, x = s.gen % 1024 := ⟨_, rfl⟩
  have hx1 : (0 : Int) ≤ x ∧ x < 1024 := by omega
  rw [← hx] at a1
  obtain ⟨X, hX⟩ : ∃ X, X = rightS s (2 * (1 + x)) := ⟨_, rfl⟩
  have hXv : Vld X 64 := by rw [hX]; exact rightS_vld s _ (by omega)
  have hXg : X.gen = 2 * (1 + x) := by rw [hX]; rfl
  have HR1 := Lib.hid (l11_right s (2 * (1 + x)))
  rw [← hX] at HR1
  have HXV := Lib.hid hXv
  have HXG := Lib.hid hXg
  have hd := cell9 HX13.out
  rw [hq0] at hd
  have HGX := Lib.hid hx
  clear hB hV hS0 hD hX hx hXv hXg
  obtain ⟨xC, hxC⟩ : ∃ xC, xC = spC X := ⟨_, rfl⟩
  rw [← hxC] at HR1
  obtain ⟨sg, se, sb, sl, ss, sa, sr, sc, sv⟩ := s
  unfold spC at HR1 ⊢
  dsimp only at HR1 hd a1 ⊢
  go_wp2_with fail
  refine (HR1.out _).mono ?_
  rintro e w4 ⟨rfl, hB⟩
  have HX24 := Lib.hid ((hB.block (q + 1) (lt_of_block HX23.out)).trans HX23.out)
  have HX14 := Lib.hid ((hB.block q (lt_of_block HX13.out)).trans HX13.out)
  have HS4 := Lib.hid (HS3.out.below hB)
  clear hB hd HR1
  subst hxC
  have a2 : bits .and .i64 t.gen 1023 = t.gen % 1024 := i64_andm62 10 (by omega) t.gen
  obtain ⟨y, hy⟩ : ∃ y, y = t.gen % 1024 := ⟨_, rfl⟩
  have hy1 : (0 : Int) ≤ y ∧ y < 1024 := by omega
  rw [← hy] at a2
  obtain ⟨Y, hY⟩ : ∃ Y, Y = rightS t (2 * y + 1) := ⟨_, rfl⟩
  have HYV := Lib.hid (show Vld Y 64 by rw [hY]; exact rightS_vld t _ (by omega))
  have HYG := Lib.hid (show Y.gen = 2 * y + 1 by rw [hY]; rfl)
  have HR2 := Lib.hid (l11_right t (2 * y + 1))
  rw [← hY] at HR2
  have hS5 := HS4.out.new ((Below.refl _ w4).alloc (Nat.le_refl _) (spO X)) (Nat.le_refl _) (heap_alloc_new w4 (spO X))
  have HS5 := Lib.hid hS5
  have hX25 : (w4.alloc (spO X)).heap[q + 1]? = some (spO t) := (((Below.refl _ w4).alloc (Nat.le_refl _) (spO X)).block (q + 1) (lt_of_block HX24.out)).trans HX24.out
  have HX25 := Lib.hid hX25
  have hd := cell9 hX25
  rw [hq0] at hd
  have HGY := Lib.hid hy
  clear hY hy hS5 hX25
  obtain ⟨yC, hyC⟩ : ∃ yC, yC = spC Y := ⟨_, rfl⟩
  rw [← hyC] at HR2
  obtain ⟨tg, te, tb, tl, ts, ta, tr, tc, tv⟩ := t
  obtain ⟨xg, xe, xb, xl, xs, xa, xr, xc, xv⟩ := X
  unfold spO at hd
  unfold spC at HR2 hd ⊢
  dsimp only at HR2 hd a2 ⊢
  go_wp2_with fail
  refine (HR2.out _).mono ?_
  rintro e w6 ⟨rfl, hB⟩
  have hS6 := HS5.out.below hB
  have hS7 := hS6.new ((Below.refl _ w6).alloc (Nat.le_refl _) (spO Y)) (Nat.le_refl _) (heap_alloc_new w6 (spO Y))
  have HS7 := Lib.hid hS7
  have hd2 := cell9 (hS7.get 1 rfl)
  clear hB hd hS6 hS7 HR2
  subst hyC
  have HE1 := Lib.hid (an_Encode ⟨xg, xe, xb, xl, xs, xa, xr, xc, xv⟩ (vld_ok _ 64 HXV.out) (by have h := HXV.out; have e := h.blocks; dsimp only at e; subst e; exact h))
  obtain ⟨yg, ye, yb, yl, ys, ya, yr, yc, yv⟩ := Y
  unfold spO at hd2
  unfold spC at hd2 HE1 ⊢
  dsimp only at hd2 HE1 ⊢
  go_wp2_with fail
  refine (HE1.out _).mono ?_
  rintro e w8 ⟨k1, rfl, hO, hB⟩
  obtain ⟨p1, c1, o1, e1, hr1, hS8⟩ := HS7.out.newB hO hB (by omega)
  injection e1 with e1 e2 e3
  injection e1 with e1
  injection e1 with e1
  subst e1 e3
  have HS8 := Lib.hid hS8
  have HRB1 := Lib.hid hr1
  have hd3 := cell9 (hS8.get 1 rfl)
  clear hO hB hd2 hS8 hr1 HE1
  have HE2 := Lib.hid (an_Encode ⟨yg, ye, yb, yl, ys, ya, yr, yc, yv⟩ (vld_ok _ 64 HYV.out) (by have h := HYV.out; have e := h.blocks; dsimp only at e; subst e; exact h))
  unfold spC at HE2
  dsimp only at hd3 HE2
  go_wp2_with fail
  refine (HE2.out _).mono ?_
  rintro e w9 ⟨k2, rfl, hO, hB⟩
  obtain ⟨p2, c2, o2, e2, hr2, hS9⟩ := HS8.out.newB hO hB (by omega)
  injection e2 with e1 e2 e3
  injection e1 with e1
  injection e1 with e1
  subst e1 e3
  have HS9 := Lib.hid hS9
  have HRB2 := Lib.hid hr2
  clear hO hB hd3 hS9 hr2 HE2 HX12 HX13 HX14 HX22 HX23 HX24 HX25 HS3 HS4 HS5 HS7 HS8
  clear hs ht
  obtain ⟨LX, hLX⟩ : ∃ L, L = encL ⟨xg, xe, xb, xl, xs, xa, xr, xc, xv⟩ := ⟨_, rfl⟩
  obtain ⟨LY, hLY⟩ : ∃ L, L = encL ⟨yg, ye, yb, yl, ys, ya, yr, yc, yv⟩ := ⟨_, rfl⟩
  have HLX := Lib.hid (show LX.length = 512 by rw [hLX, encL_len])
  have HLY := Lib.hid (show LY.length = 512 by rw [hLY, encL_len])
  have HXP := Lib.hid (show ∀ a, cP ⟨xg, xe, xb, xl, xs, xa, xr, xc, xv⟩ true a = flipL LX a ∧ cP ⟨xg, xe, xb, xl, xs, xa, xr, xc, xv⟩ false a = LX from fun a => by rw [hLX]; exact ⟨rfl, rfl⟩)
  have HYP := Lib.hid (show ∀ a, cP ⟨yg, ye, yb, yl, ys, ya, yr, yc, yv⟩ true a = flipL LY a ∧ cP ⟨yg, ye, yb, yl, ys, ya, yr, yc, yv⟩ false a = LY from fun a => by rw [hLY]; exact ⟨rfl, rfl⟩)
  rw [← hLX] at HRB1
  rw [← hLY] at HRB2
  clear hLX hLY
  have a3 : bits .and .i64 at_ 511 = at_ % 512 := i64_andm62 9 (by omega) at_
  obtain ⟨a, ha⟩ : ∃ a : Nat, (a : Int) = at_ % 512 := ⟨(at_ % 512).toNat, by omega⟩
  rw [← ha] at a3
  have ha1 : a < 512 := by omega
  clear ha
  subst hb0 hg0
  have hcell := HS9.out.cell 1 rfl HRB1.out a ha1
  have hfree := HRB1.out.free (HS9.out.get 1 rfl) a
  obtain ⟨x0, hx0⟩ : ∃ x0, x0 = LX.getD a 0 := ⟨_, rfl⟩
  rw [← hx0] at hcell
  have h8 := x0.toNat_lt
  have hv : bits .xor .u8 (x0.toNat : Int) 1 = ((x0 ^^^ 1).toNat : Int) := flip_val x0 0
  have HV := Lib.hid hv
  obtain ⟨o5, ho5, hr5⟩ := HRB1.out.store (HS9.out.get 1 rfl) a (x0 ^^^ 1)
  have hS := HS9.out.store 1 a _ rfl ho5
  rw [← hv] at hS
  have HS := Lib.hid hS
  have HR5 := Lib.hid (show RowB o5 512 512 (flipL LX a) by unfold flipL; rw [← hx0]; exact hr5)
  clear hx0 hv ho5 hr5 hS
  have HP1 := Lib.hid (show RowB o5 512 512 (cP ⟨xg, xe, xb, xl, xs, xa, xr, xc, xv⟩ true a) from by rw [(HXP.out a).1]; exact HR5.out)
  have HP2 := Lib.hid (show RowB o2 512 512 (cP ⟨yg, ye, yb, yl, ys, ya, yr, yc, yv⟩ false a) from by rw [(HYP.out a).2]; exact HRB2.out)
  have HED := Lib.hid (show (edD D64 1 0 (cP ⟨xg, xe, xb, xl, xs, xa, xr, xc, xv⟩ true a)).1 = 0 ∧ (edD (edD D64 1 0 (cP ⟨xg, xe, xb, xl, xs, xa, xr, xc, xv⟩ true a)).2 0 0 (cP ⟨yg, ye, yb, yl, ys, ya, yr, yc, yv⟩ false a)).1 = 0 ∧ D2 1 (cP ⟨xg, xe, xb, xl, xs, xa, xr, xc, xv⟩ true a) (cP ⟨yg, ye, yb, yl, ys, ya, yr, yc, yv⟩ false a) = { D64 with M := splice (splice D64.M (1 * 512) (cP ⟨xg, xe, xb, xl, xs, xa, xr, xc, xv⟩ true a)) ((1 - 1) * 512) (cP ⟨yg, ye, yb, yl, ys, ya, yr, yc, yv⟩ false a) } from D2_eq 1 _ _ (by omega) (cP_len _ _ _) (cP_len _ _ _))
  have HC := Lib.hid (show (anR (D2 1 (cP ⟨xg, xe, xb, xl, xs, xa, xr, xc, xv⟩ true a) (cP ⟨yg, ye, yb, yl, ys, ya, yr, yc, yv⟩ false a))).1 = zSp ∧ (anR (D2 1 (cP ⟨xg, xe, xb, xl, xs, xa, xr, xc, xv⟩ true a) (cP ⟨yg, ye, yb, yl, ys, ya, yr, yc, yv⟩ false a))).2.1 = 0 ∧ (anR (D2 1 (cP ⟨xg, xe, xb, xl, xs, xa, xr, xc, xv⟩ true a) (cP ⟨yg, ye, yb, yl, ys, ya, yr, yc, yv⟩ false a))).2.2.1 = 5 from by
    have h := counts_swap ⟨xg, xe, xb, xl, xs, xa, xr, xc, xv⟩ ⟨yg, ye, yb, yl, ys, ya, yr, yc, yv⟩ HXV.out HYV.out (by have h9 := HXG.out; show xg % 2 = 0; omega) (by have h9 := HYG.out; show yg % 2 = 1; omega) 0 a ha1
    exact h)
  obtain ⟨P, hP⟩ : ∃ P, P = (cP ⟨xg, xe, xb, xl, xs, xa, xr, xc, xv⟩ true a) := ⟨_, rfl⟩
  obtain ⟨Q, hQ⟩ : ∃ Q, Q = (cP ⟨yg, ye, yb, yl, ys, ya, yr, yc, yv⟩ false a) := ⟨_, rfl⟩
  rw [← hP, ← hQ] at HED HC
  rw [← hP] at HP1
  rw [← hQ] at HP2
  clear hP hQ
  go_wp2_with fail
  refine (st_EditG 1 0 (some ⟨k1, 0, none⟩) 512 512 P HS.out (HS.out.rd 1 rfl HP1.out (by omega)) (by omega)).mono ?_
  rintro e w11 ⟨rfl, hS⟩
  rw [HED.out.1]
  have HS11 := Lib.hid hS
  clear hS
  go_wp2_with fail
  refine (st_EditG 0 0 (some ⟨k2, 0, none⟩) 512 512 Q HS11.out (HS11.out.rd 0 rfl HP2.out (by omega)) (by omega)).mono ?_
  rintro e w12 ⟨rfl, hS⟩
  rw [HED.out.2.1]
  have HS12 := Lib.hid (show St w2 w12 _ _ _ (D2 1 P Q) _ from hS)
  clear hS
  go_wp2_with fail
  refine (st_anRead HS12.out (by rw [HED.out.2.2]; show (0 : Nat) < _; omega) (by rw [HED.out.2.2]; show (0 : Nat) ≤ _; omega)).mono ?_
  rintro e w13 ⟨rfl, hS⟩
  rw [HC.out.1, HC.out.2.1, HC.out.2.2]
  have hS14 := hS.new ((Below.refl _ w13).alloc (Nat.le_refl _) (spO zSp)) (Nat.le_refl _) (heap_alloc_new w13 (spO zSp))
  have HS14 := Lib.hid hS14
  have hd22 := cell9 (hS14.get 0 rfl)
  have hdY := cell9 (hS14.get 3 rfl)
  have hdX := cell9 (hS14.get 4 rfl)
  unfold spO at hd22 hdY hdX
  unfold spC zSp at hd22 hdY hdX ⊢
  dsimp only at hd22 hdY hdX ⊢
  clear hS hS14
  go_upto_region 25 with (fail)
  have hS15 := HS14.out.new ((Below.refl _ _).alloc (Nat.le_refl _) (spO ⟨yg, ye, yb, yl, ys, ya, yr, yc, yv⟩)) (Nat.le_refl _) (heap_alloc_new _ (spO ⟨yg, ye, yb, yl, ys, ya, yr, yc, yv⟩))
  rw [World.size_alloc] at hS15
  obtain ⟨W15, hW⟩ : ∃ W, W = (w13.alloc (spO zSp)).alloc (spO ⟨yg, ye, yb, yl, ys, ya, yr, yc, yv⟩) := ⟨_, rfl⟩
  rw [← hW] at hS15
  unfold spO spC zSp at hW
  dsimp only at hW
  rw [← hW]
  have HS15 := Lib.hid hS15
  clear hd22 hdY hdX hW
  have d25 := cell9 (hS15.get 0 rfl)
  have f25 := free9 (hS15.get 0 rfl)
  have d22 := cell9 (hS15.get 1 rfl)
  have dY := cell9 (hS15.get 4 rfl)
  have dX := cell9 (hS15.get 5 rfl)
  unfold zSp at d22
  dsimp only at d25 d22 dY dX
  clear hS15
  have hm : yg.tmod 2 = 1 := by
    have h9 := HYG.out
    rw [Int.tmod_eq_emod_of_nonneg (by omega)]; omega
  go_wp2
  go_ret
  exact ⟨rfl, HB2.out.trans (HS15.out.bl.mono HB2.out.size)⟩
end Go.Proofs.Ytggoaelbglhehaa
/- AnchorCounts: which of two blocks counts: the walk, one case of eight. -/
set_option linter.unusedVariables false
set_option linter.unusedSimpArgs false
set_option maxRecDepth 100000
namespace Go.Proofs.Ytggoaelbglhehaa
open Go.RowKit SumMath
set_option maxHeartbeats 16000000 in
theorem walkc2 (s t : Sp) (sp at_ : Int) (w : World) (hs : s.ok) (ht : t.ok) (hsp : i64B sp) (hat : i64B at_) (hc : sp = 1) :
    Calls Try.prog 5 #[.agg (spC s), .agg (spC t), .bool false, .int .i64 sp, .int .i64 at_] w fun e w' => e = .returned (.bool true) ∧ Below w.heap.size w w' := by
  have HC0 := Lib.hid hc
  clear hc
  obtain ⟨q, hq0⟩ : ∃ q, q = w.heap.size := ⟨_, rfl⟩
  have HX1 := Lib.hid (show ((w.alloc (spO s)).alloc (spO t)).heap[q]? = some (spO s) by rw [hq0]; exact heap_alloc2_old w (spO s) (spO t))
  have HX2 := Lib.hid (show ((w.alloc (spO s)).alloc (spO t)).heap[q + 1]? = some (spO t) by rw [hq0, ← World.size_alloc w (spO s)]; exact heap_alloc_new (w.alloc (spO s)) (spO t))
  have HB0 := Lib.hid (((Below.refl _ w).alloc (Nat.le_refl _) (spO s)).alloc (by rw [World.size_alloc]; omega) (spO t))
  go_enter Try.func5, Try.ntmps5
  go_wp2_with fail
  refine (l11_fixed _).mono ?_
  rintro e w2 ⟨rfl, hB⟩
  have HX12 := Lib.hid ((hB.block q (lt_of_block HX1.out)).trans HX1.out)
  have HX22 := Lib.hid ((hB.block (q + 1) (lt_of_block HX2.out)).trans HX2.out)
  have HB2 := Lib.hid (HB0.out.trans (hB.mono HB0.out.size))
  clear hB HX1 HX2 HB0
  go_wp2_with fail
  refine (dv_New_ok 64 (by omega) (by omega) w2).mono ?_
  rintro e w3 ⟨rfl, hD, hB⟩
  have hV : IsV w3 (w2.heap.size + 1) w2.heap.size (.slice none 0 0) D64 := ⟨hD, ⟨PdOk.nil _, World.ownsRow_nil _ _ _ _⟩, fun k hk => by cases hk⟩
  have hS0 : St w2 w3 (w2.heap.size + 1) w2.heap.size (.slice none 0 0) D64 [] := St.of hV (fun s hs => by
    simp only [dvS, Value.ownBlock, Option.toList_none, List.mem_cons, List.not_mem_nil, or_false] at hs
    omega) hB
  obtain ⟨b, hb0⟩ : ∃ b, b = w2.heap.size + 1 := ⟨_, rfl⟩
  obtain ⟨g, hg0⟩ : ∃ g, g = w2.heap.size := ⟨_, rfl⟩
  rw [← hb0, ← hg0] at hS0
  rw [← hb0]
  have HS3 := Lib.hid hS0
  have HX13 := Lib.hid ((hB.block q (lt_of_block HX12.out)).trans HX12.out)
  have HX23 := Lib.hid ((hB.block (q + 1) (lt_of_block HX22.out)).trans HX22.out)
  have a1 : bits .and .i64 s.gen 1023 = s.gen % 1024 := i64_andm62 10 (by omega) s.gen
  obtain ⟨x, hx⟩ : ∃ x, x = s.gen % 1024 := ⟨_, rfl⟩
  have hx1 : (0 : Int) ≤ x ∧ x < 1024 := by omega
  rw [← hx] at a1
  obtain ⟨X, hX⟩ : ∃ X, X = rightS s (2 * (1 + x)) := ⟨_, rfl⟩
  have hXv : Vld X 64 := by rw [hX]; exact rightS_vld s _ (by omega)
  have hXg : X.gen = 2 * (1 + x) := by rw [hX]; rfl
  have HR1 := Lib.hid (l11_right s (2 * (1 + x)))
  rw [← hX] at HR1
  have HXV := Lib.hid hXv
  have HXG := Lib.hid hXg
  have hd := cell9 HX13.out
  rw [hq0] at hd
  have HGX := Lib.hid hx
  clear hB hV hS0 hD hX hx hXv hXg
  obtain ⟨xC, hxC⟩ : ∃ xC, xC = spC X := ⟨_, rfl⟩
  rw [← hxC] at HR1
  obtain ⟨sg, se, sb, sl, ss, sa, sr, sc, sv⟩ := s
  unfold spC at HR1 ⊢
  dsimp only at HR1 hd a1 ⊢
  go_wp2_with fail
  refine (HR1.out _).mono ?_
  rintro e w4 ⟨rfl, hB⟩
  have HX24 := Lib.hid ((hB.block (q + 1) (lt_of_block HX23.out)).trans HX23.out)
  have HX14 := Lib.hid ((hB.block q (lt_of_block HX13.out)).trans HX13.out)
  have HS4 := Lib.hid (HS3.out.below hB)
  clear hB hd HR1
  subst hxC
  have a2 : bits .and .i64 t.gen 1023 = t.gen % 1024 := i64_andm62 10 (by omega) t.gen
  obtain ⟨y, hy⟩ : ∃ y, y = t.gen % 1024 := ⟨_, rfl⟩
  have hy1 : (0 : Int) ≤ y ∧ y < 1024 := by omega
  rw [← hy] at a2
  obtain ⟨Y, hY⟩ : ∃ Y, Y = rightS t (2 * y + 1) := ⟨_, rfl⟩
  have HYV := Lib.hid (show Vld Y 64 by rw [hY]; exact rightS_vld t _ (by omega))
  have HYG := Lib.hid (show Y.gen = 2 * y + 1 by rw [hY]; rfl)
  have HR2 := Lib.hid (l11_right t (2 * y + 1))
  rw [← hY] at HR2
  have hS5 := HS4.out.new ((Below.refl _ w4).alloc (Nat.le_refl _) (spO X)) (Nat.le_refl _) (heap_alloc_new w4 (spO X))
  have HS5 := Lib.hid hS5
  have hX25 : (w4.alloc (spO X)).heap[q + 1]? = some (spO t) := (((Below.refl _ w4).alloc (Nat.le_refl _) (spO X)).block (q + 1) (lt_of_block HX24.out)).trans HX24.out
  have HX25 := Lib.hid hX25
  have hd := cell9 hX25
  rw [hq0] at hd
  have HGY := Lib.hid hy
  clear hY hy hS5 hX25
  obtain ⟨yC, hyC⟩ : ∃ yC, yC = spC Y := ⟨_, rfl⟩
  rw [← hyC] at HR2
  obtain ⟨tg, te, tb, tl, ts, ta, tr, tc, tv⟩ := t
  obtain ⟨xg, xe, xb, xl, xs, xa, xr, xc, xv⟩ := X
  unfold spO at hd
  unfold spC at HR2 hd ⊢
  dsimp only at HR2 hd a2 ⊢
  go_wp2_with fail
  refine (HR2.out _).mono ?_
  rintro e w6 ⟨rfl, hB⟩
  have hS6 := HS5.out.below hB
  have hS7 := hS6.new ((Below.refl _ w6).alloc (Nat.le_refl _) (spO Y)) (Nat.le_refl _) (heap_alloc_new w6 (spO Y))
  have HS7 := Lib.hid hS7
  have hd2 := cell9 (hS7.get 1 rfl)
  clear hB hd hS6 hS7 HR2
  subst hyC
  have HE1 := Lib.hid (an_Encode ⟨xg, xe, xb, xl, xs, xa, xr, xc, xv⟩ (vld_ok _ 64 HXV.out) (by have h := HXV.out; have e := h.blocks; dsimp only at e; subst e; exact h))
  obtain ⟨yg, ye, yb, yl, ys, ya, yr, yc, yv⟩ := Y
  unfold spO at hd2
  unfold spC at hd2 HE1 ⊢
  dsimp only at hd2 HE1 ⊢
  go_wp2_with fail
  refine (HE1.out _).mono ?_
  rintro e w8 ⟨k1, rfl, hO, hB⟩
  obtain ⟨p1, c1, o1, e1, hr1, hS8⟩ := HS7.out.newB hO hB (by omega)
  injection e1 with e1 e2 e3
  injection e1 with e1
  injection e1 with e1
  subst e1 e3
  have HS8 := Lib.hid hS8
  have HRB1 := Lib.hid hr1
  have hd3 := cell9 (hS8.get 1 rfl)
  clear hO hB hd2 hS8 hr1 HE1
  have HE2 := Lib.hid (an_Encode ⟨yg, ye, yb, yl, ys, ya, yr, yc, yv⟩ (vld_ok _ 64 HYV.out) (by have h := HYV.out; have e := h.blocks; dsimp only at e; subst e; exact h))
  unfold spC at HE2
  dsimp only at hd3 HE2
  go_wp2_with fail
  refine (HE2.out _).mono ?_
  rintro e w9 ⟨k2, rfl, hO, hB⟩
  obtain ⟨p2, c2, o2, e2, hr2, hS9⟩ := HS8.out.newB hO hB (by omega)
  injection e2 with e1 e2 e3
  injection e1 with e1
  injection e1 with e1
  subst e1 e3
  have HS9 := Lib.hid hS9
  have HRB2 := Lib.hid hr2
  clear hO hB hd3 hS9 hr2 HE2 HX12 HX13 HX14 HX22 HX23 HX24 HX25 HS3 HS4 HS5 HS7 HS8
  clear hs ht
  obtain ⟨LX, hLX⟩ : ∃ L, L = encL ⟨xg, xe, xb, xl, xs, xa, xr, xc, xv⟩ := ⟨_, rfl⟩
  obtain ⟨LY, hLY⟩ : ∃ L, L = encL ⟨yg, ye, yb, yl, ys, ya, yr, yc, yv⟩ := ⟨_, rfl⟩
  have HLX := Lib.hid (show LX.length = 512 by rw [hLX, encL_len])
  have HLY := Lib.hid (show LY.length = 512 by rw [hLY, encL_len])
  have HXP := Lib.hid (show ∀ a, cP ⟨xg, xe, xb, xl, xs, xa, xr, xc, xv⟩ true a = flipL LX a ∧ cP ⟨xg, xe, xb, xl, xs, xa, xr, xc, xv⟩ false a = LX from fun a => by rw [hLX]; exact ⟨rfl, rfl⟩)
  have HYP := Lib.hid (show ∀ a, cP ⟨yg, ye, yb, yl, ys, ya, yr, yc, yv⟩ true a = flipL LY a ∧ cP ⟨yg, ye, yb, yl, ys, ya, yr, yc, yv⟩ false a = LY from fun a => by rw [hLY]; exact ⟨rfl, rfl⟩)
  rw [← hLX] at HRB1
  rw [← hLY] at HRB2
  clear hLX hLY
  have a3 : bits .and .i64 at_ 511 = at_ % 512 := i64_andm62 9 (by omega) at_
  obtain ⟨a, ha⟩ : ∃ a : Nat, (a : Int) = at_ % 512 := ⟨(at_ % 512).toNat, by omega⟩
  rw [← ha] at a3
  have ha1 : a < 512 := by omega
  clear ha
  subst hb0 hg0
  have hsp1 := HC0.out
  have hsp0 : ¬ sp = 0 := by omega
  have hb0 : (sp == 0) = false := by simp [hsp0]
  have hb1 : (sp == 1) = true := by simp [hsp1]
  have HS1 := Lib.hid hsp1
  clear hsp1
  have hcell := HS9.out.cell 0 rfl HRB2.out a ha1
  have hfree := HRB2.out.free (HS9.out.get 0 rfl) a
  obtain ⟨x0, hx0⟩ : ∃ x0, x0 = LY.getD a 0 := ⟨_, rfl⟩
  rw [← hx0] at hcell
  have h8 := x0.toNat_lt
  have hv : bits .xor .u8 (x0.toNat : Int) 1 = ((x0 ^^^ 1).toNat : Int) := flip_val x0 0
  have HV := Lib.hid hv
  obtain ⟨o5, ho5, hr5⟩ := HRB2.out.store (HS9.out.get 0 rfl) a (x0 ^^^ 1)
  have hS := HS9.out.store 0 a _ rfl ho5
  rw [← hv] at hS
  have HS := Lib.hid hS
  have HR5 := Lib.hid (show RowB o5 512 512 (flipL LY a) by unfold flipL; rw [← hx0]; exact hr5)
  clear hx0 hv ho5 hr5 hS
  have HP1 := Lib.hid (show RowB o1 512 512 (cP ⟨xg, xe, xb, xl, xs, xa, xr, xc, xv⟩ false a) from by rw [(HXP.out a).2]; exact HRB1.out)
  have HP2 := Lib.hid (show RowB o5 512 512 (cP ⟨yg, ye, yb, yl, ys, ya, yr, yc, yv⟩ true a) from by rw [(HYP.out a).1]; exact HR5.out)
  have HED := Lib.hid (show (edD D64 0 0 (cP ⟨xg, xe, xb, xl, xs, xa, xr, xc, xv⟩ false a)).1 = 0 ∧ (edD (edD D64 0 0 (cP ⟨xg, xe, xb, xl, xs, xa, xr, xc, xv⟩ false a)).2 1 0 (cP ⟨yg, ye, yb, yl, ys, ya, yr, yc, yv⟩ true a)).1 = 0 ∧ D2 0 (cP ⟨xg, xe, xb, xl, xs, xa, xr, xc, xv⟩ false a) (cP ⟨yg, ye, yb, yl, ys, ya, yr, yc, yv⟩ true a) = { D64 with M := splice (splice D64.M (0 * 512) (cP ⟨xg, xe, xb, xl, xs, xa, xr, xc, xv⟩ false a)) ((1 - 0) * 512) (cP ⟨yg, ye, yb, yl, ys, ya, yr, yc, yv⟩ true a) } from D2_eq 0 _ _ (by omega) (cP_len _ _ _) (cP_len _ _ _))
  have HC := Lib.hid (show (anR (D2 0 (cP ⟨xg, xe, xb, xl, xs, xa, xr, xc, xv⟩ false a) (cP ⟨yg, ye, yb, yl, ys, ya, yr, yc, yv⟩ true a))).1 = ⟨xg, xe, xb, xl, xs, xa, xr, xc, xv⟩ ∧ (anR (D2 0 (cP ⟨xg, xe, xb, xl, xs, xa, xr, xc, xv⟩ false a) (cP ⟨yg, ye, yb, yl, ys, ya, yr, yc, yv⟩ true a))).2.1 = 0 ∧ (anR (D2 0 (cP ⟨xg, xe, xb, xl, xs, xa, xr, xc, xv⟩ false a) (cP ⟨yg, ye, yb, yl, ys, ya, yr, yc, yv⟩ true a))).2.2.1 = 0 from by
    have h := counts_straight ⟨xg, xe, xb, xl, xs, xa, xr, xc, xv⟩ ⟨yg, ye, yb, yl, ys, ya, yr, yc, yv⟩ HXV.out HYV.out (by have h9 := HXG.out; show xg % 2 = 0; omega) (by have h9 := HYG.out; show yg % 2 = 1; omega) sp a ha1
    rw [decide_eq_false hsp0, decide_eq_true HS1.out] at h
    rw [show cWant ⟨xg, xe, xb, xl, xs, xa, xr, xc, xv⟩ ⟨yg, ye, yb, yl, ys, ya, yr, yc, yv⟩ sp = ⟨xg, xe, xb, xl, xs, xa, xr, xc, xv⟩ from by unfold cWant; rw [if_pos (.inl HS1.out)], show Sp.gen ⟨xg, xe, xb, xl, xs, xa, xr, xc, xv⟩ % 2 = 0 by have h9 := HXG.out; show xg % 2 = 0; omega] at h
    exact h)
  obtain ⟨P, hP⟩ : ∃ P, P = (cP ⟨xg, xe, xb, xl, xs, xa, xr, xc, xv⟩ false a) := ⟨_, rfl⟩
  obtain ⟨Q, hQ⟩ : ∃ Q, Q = (cP ⟨yg, ye, yb, yl, ys, ya, yr, yc, yv⟩ true a) := ⟨_, rfl⟩
  rw [← hP, ← hQ] at HED HC
  rw [← hP] at HP1
  rw [← hQ] at HP2
  clear hP hQ
  go_wp2_with fail
  refine (st_EditG 0 0 (some ⟨k1, 0, none⟩) 512 512 P HS.out (HS.out.rd 1 rfl HP1.out (by omega)) (by omega)).mono ?_
  rintro e w11 ⟨rfl, hS⟩
  rw [HED.out.1]
  have HS11 := Lib.hid hS
  clear hS
  go_wp2_with fail
  refine (st_EditG 1 0 (some ⟨k2, 0, none⟩) 512 512 Q HS11.out (HS11.out.rd 0 rfl HP2.out (by omega)) (by omega)).mono ?_
  rintro e w12 ⟨rfl, hS⟩
  rw [HED.out.2.1]
  have HS12 := Lib.hid (show St w2 w12 _ _ _ (D2 0 P Q) _ from hS)
  clear hS
  go_wp2_with fail
  refine (st_anRead HS12.out (by rw [HED.out.2.2]; show (0 : Nat) < _; omega) (by rw [HED.out.2.2]; show (0 : Nat) ≤ _; omega)).mono ?_
  rintro e w13 ⟨rfl, hS⟩
  rw [HC.out.1, HC.out.2.1, HC.out.2.2]
  have hS14 := hS.new ((Below.refl _ w13).alloc (Nat.le_refl _) (spO ⟨xg, xe, xb, xl, xs, xa, xr, xc, xv⟩)) (Nat.le_refl _) (heap_alloc_new w13 (spO ⟨xg, xe, xb, xl, xs, xa, xr, xc, xv⟩))
  have HS14 := Lib.hid hS14
  have hd22 := cell9 (hS14.get 0 rfl)
  have hdY := cell9 (hS14.get 3 rfl)
  have hdX := cell9 (hS14.get 4 rfl)
  unfold spO at hd22 hdY hdX
  unfold spC at hd22 hdY hdX ⊢
  dsimp only at hd22 hdY hdX ⊢
  clear hS hS14
  go_upto_region 25 with (fail)
  have hS15 := HS14.out.new ((Below.refl _ _).alloc (Nat.le_refl _) (spO ⟨yg, ye, yb, yl, ys, ya, yr, yc, yv⟩)) (Nat.le_refl _) (heap_alloc_new _ (spO ⟨yg, ye, yb, yl, ys, ya, yr, yc, yv⟩))
  rw [World.size_alloc] at hS15
  obtain ⟨W15, hW⟩ : ∃ W, W = (w13.alloc (spO ⟨xg, xe, xb, xl, xs, xa, xr, xc, xv⟩)).alloc (spO ⟨yg, ye, yb, yl, ys, ya, yr, yc, yv⟩) := ⟨_, rfl⟩
  rw [← hW] at hS15
  unfold spO spC at hW
  dsimp only at hW
  rw [← hW]
  have HS15 := Lib.hid hS15
  clear hd22 hdY hdX hW
  have d25 := cell9 (hS15.get 0 rfl)
  have f25 := free9 (hS15.get 0 rfl)
  have d22 := cell9 (hS15.get 1 rfl)
  have dY := cell9 (hS15.get 4 rfl)
  have dX := cell9 (hS15.get 5 rfl)
  dsimp only at d25 d22 dY dX
  clear hS15
  go_upto_region 26 with (fail)
  clear d22 dY
  go_upto_region 27 with (fail)
  have hS16 := HS15.out.upd 0 rfl (below_put9 (s := ⟨xg, xe, xb, xl, xs, xa, xr, xc, xv⟩)) (row9 (s := ⟨xg, xe, xb, xl, xs, xa, xr, xc, xv⟩) (HS15.out.get 0 rfl))
  obtain ⟨W16, hW⟩ : ∃ W, W = put9 W15 (w13.heap.size + 1) ⟨xg, xe, xb, xl, xs, xa, xr, xc, xv⟩ := ⟨_, rfl⟩
  rw [← hW] at hS16
  unfold put9 at hW
  dsimp only at hW
  rw [← hW]
  have HS16 := Lib.hid hS16
  clear d25 f25 dX hW
  have d25 := cell9 (hS16.get 0 rfl)
  have d22 := cell9 (hS16.get 1 rfl)
  dsimp only at d25 d22
  clear hS16
  have hm : xg.tmod 2 = 0 := by
    have h9 := HXG.out
    rw [Int.tmod_eq_emod_of_nonneg (by omega)]; omega
  go_wp2
  go_ret
  exact ⟨rfl, HB2.out.trans (HS16.out.bl.mono HB2.out.size)⟩
end Go.Proofs.Ytggoaelbglhehaa
/- AnchorCounts: which of two blocks counts: the walk, one case of eight. -/
set_option linter.unusedVariables false
set_option linter.unusedSimpArgs false
set_option maxRecDepth 100000
namespace Go.Proofs.Ytggoaelbglhehaa
open Go.RowKit SumMath
set_option maxHeartbeats 16000000 in
theorem walkc3 (s t : Sp) (sp at_ : Int) (w : World) (hs : s.ok) (ht : t.ok) (hsp : i64B sp) (hat : i64B at_) (hc : sp = 1) :
    Calls Try.prog 5 #[.agg (spC s), .agg (spC t), .bool true, .int .i64 sp, .int .i64 at_] w fun e w' => e = .returned (.bool true) ∧ Below w.heap.size w w' := by
  have HC0 := Lib.hid hc
  clear hc
  obtain ⟨q, hq0⟩ : ∃ q, q = w.heap.size := ⟨_, rfl⟩
  have HX1 := Lib.hid (show ((w.alloc (spO s)).alloc (spO t)).heap[q]? = some (spO s) by rw [hq0]; exact heap_alloc2_old w (spO s) (spO t))
  have HX2 := Lib.hid (show ((w.alloc (spO s)).alloc (spO t)).heap[q + 1]? = some (spO t) by rw [hq0, ← World.size_alloc w (spO s)]; exact heap_alloc_new (w.alloc (spO s)) (spO t))
  have HB0 := Lib.hid (((Below.refl _ w).alloc (Nat.le_refl _) (spO s)).alloc (by rw [World.size_alloc]; omega) (spO t))
  go_enter Try.func5, Try.ntmps5
  go_wp2_with fail
  refine (l11_fixed _).mono ?_
  rintro e w2 ⟨rfl, hB⟩
  have HX12 := Lib.hid ((hB.block q (lt_of_block HX1.out)).trans HX1.out)
  have HX22 := Lib.hid ((hB.block (q + 1) (lt_of_block HX2.out)).trans HX2.out)
  have HB2 := Lib.hid (HB0.out.trans (hB.mono HB0.out.size))
  clear hB HX1 HX2 HB0
  go_wp2_with fail
  refine (dv_New_ok 64 (by omega) (by omega) w2).mono ?_
  rintro e w3 ⟨rfl, hD, hB⟩
  have hV : IsV w3 (w2.heap.size + 1) w2.heap.size (.slice none 0 0) D64 := ⟨hD, ⟨PdOk.nil _, World.ownsRow_nil _ _ _ _⟩, fun k hk => by cases hk⟩
  have hS0 : St w2 w3 (w2.heap.size + 1) w2.heap.size (.slice none 0 0) D64 [] := St.of hV (fun s hs => by
    simp only [dvS, Value.ownBlock, Option.toList_none, List.mem_cons, List.not_mem_nil, or_false] at hs
    omega) hB
  obtain ⟨b, hb0⟩ : ∃ b, b = w2.heap.size + 1 := ⟨_, rfl⟩
  obtain ⟨g, hg0⟩ : ∃ g, g = w2.heap.size := ⟨_, rfl⟩
  rw [← hb0, ← hg0] at hS0
  rw [← hb0]
  have HS3 := Lib.hid hS0
  have HX13 := Lib.hid ((hB.block q (lt_of_block HX12.out)).trans HX12.out)
  have HX23 := Lib.hid ((hB.block (q + 1) (lt_of_block HX22.out)).trans HX22.out)
  have a1 : bits .and .i64 s.gen 1023 = s.gen % 1024 := i64_andm62 10 (by omega) s.gen
  obtain ⟨x, hx⟩ : ∃ x, x = s.gen % 1024 := ⟨_, rfl⟩
  have hx1 : (0 : Int) ≤ x ∧ x < 1024 := by omega
  rw [← hx] at a1
  obtain ⟨X, hX⟩ : ∃ X, X = rightS s (2 * (1 + x)) := ⟨_, rfl⟩
  have hXv : Vld X 64 := by rw [hX]; exact rightS_vld s _ (by omega)
  have hXg : X.gen = 2 * (1 + x) := by rw [hX]; rfl
  have HR1 := Lib.hid (l11_right s (2 * (1 + x)))
  rw [← hX] at HR1
  have HXV := Lib.hid hXv
  have HXG := Lib.hid hXg
  have hd := cell9 HX13.out
  rw [hq0] at hd
  have HGX := Lib.hid hx
  clear hB hV hS0 hD hX hx hXv hXg
  obtain ⟨xC, hxC⟩ : ∃ xC, xC = spC X := ⟨_, rfl⟩
  rw [← hxC] at HR1
  obtain ⟨sg, se, sb, sl, ss, sa, sr, sc, sv⟩ := s
  unfold spC at HR1 ⊢
  dsimp only at HR1 hd a1 ⊢
  go_wp2_with fail
  refine (HR1.out _).mono ?_
  rintro e w4 ⟨rfl, hB⟩
  have HX24 := Lib.hid ((hB.block (q + 1) (lt_of_block HX23.out)).trans HX23.out)
  have HX14 := Lib.hid ((hB.block q (lt_of_block HX13.out)).trans HX13.out)
  have HS4 := Lib.hid (HS3.out.below hB)
  clear hB hd HR1
  subst hxC
  have a2 : bits .and .i64 t.gen 1023 = t.gen % 1024 := i64_andm62 10 (by omega) t.gen
  obtain ⟨y, hy⟩ : ∃ y, y = t.gen % 1024 := ⟨_, rfl⟩
  have hy1 : (0 : Int) ≤ y ∧ y < 1024 := by omega
  rw [← hy] at a2
  obtain ⟨Y, hY⟩ : ∃ Y, Y = rightS t (2 * y + 1) := ⟨_, rfl⟩
  have HYV := Lib.hid (show Vld Y 64 by rw [hY]; exact rightS_vld t _ (by omega))
  have HYG := Lib.hid (show Y.gen = 2 * y + 1 by rw [hY]; rfl)
  have HR2 := Lib.hid (l11_right t (2 * y + 1))
  rw [← hY] at HR2
  have hS5 := HS4.out.new ((Below.refl _ w4).alloc (Nat.le_refl _) (spO X)) (Nat.le_refl _) (heap_alloc_new w4 (spO X))
  have HS5 := Lib.hid hS5
  have hX25 : (w4.alloc (spO X)).heap[q + 1]? = some (spO t) := (((Below.refl _ w4).alloc (Nat.le_refl _) (spO X)).block (q + 1) (lt_of_block HX24.out)).trans HX24.out
  have HX25 := Lib.hid hX25
  have hd := cell9 hX25
  rw [hq0] at hd
  have HGY := Lib.hid hy
  clear hY hy hS5 hX25
  obtain ⟨yC, hyC⟩ : ∃ yC, yC = spC Y := ⟨_, rfl⟩
  rw [← hyC] at HR2
  obtain ⟨tg, te, tb, tl, ts, ta, tr, tc, tv⟩ := t
  obtain ⟨xg, xe, xb, xl, xs, xa, xr, xc, xv⟩ := X
  unfold spO at hd
  unfold spC at HR2 hd ⊢
  dsimp only at HR2 hd a2 ⊢
  go_wp2_with fail
  refine (HR2.out _).mono ?_
  rintro e w6 ⟨rfl, hB⟩
  have hS6 := HS5.out.below hB
  have hS7 := hS6.new ((Below.refl _ w6).alloc (Nat.le_refl _) (spO Y)) (Nat.le_refl _) (heap_alloc_new w6 (spO Y))
  have HS7 := Lib.hid hS7
  have hd2 := cell9 (hS7.get 1 rfl)
  clear hB hd hS6 hS7 HR2
  subst hyC
  have HE1 := Lib.hid (an_Encode ⟨xg, xe, xb, xl, xs, xa, xr, xc, xv⟩ (vld_ok _ 64 HXV.out) (by have h := HXV.out; have e := h.blocks; dsimp only at e; subst e; exact h))
  obtain ⟨yg, ye, yb, yl, ys, ya, yr, yc, yv⟩ := Y
  unfold spO at hd2
  unfold spC at hd2 HE1 ⊢
  dsimp only at hd2 HE1 ⊢
  go_wp2_with fail
  refine (HE1.out _).mono ?_
  rintro e w8 ⟨k1, rfl, hO, hB⟩
  obtain ⟨p1, c1, o1, e1, hr1, hS8⟩ := HS7.out.newB hO hB (by omega)
  injection e1 with e1 e2 e3
  injection e1 with e1
  injection e1 with e1
  subst e1 e3
  have HS8 := Lib.hid hS8
  have HRB1 := Lib.hid hr1
  have hd3 := cell9 (hS8.get 1 rfl)
  clear hO hB hd2 hS8 hr1 HE1
  have HE2 := Lib.hid (an_Encode ⟨yg, ye, yb, yl, ys, ya, yr, yc, yv⟩ (vld_ok _ 64 HYV.out) (by have h := HYV.out; have e := h.blocks; dsimp only at e; subst e; exact h))
  unfold spC at HE2
  dsimp only at hd3 HE2
  go_wp2_with fail
  refine (HE2.out _).mono ?_
  rintro e w9 ⟨k2, rfl, hO, hB⟩
  obtain ⟨p2, c2, o2, e2, hr2, hS9⟩ := HS8.out.newB hO hB (by omega)
  injection e2 with e1 e2 e3
  injection e1 with e1
  injection e1 with e1
  subst e1 e3
  have HS9 := Lib.hid hS9
  have HRB2 := Lib.hid hr2
  clear hO hB hd3 hS9 hr2 HE2 HX12 HX13 HX14 HX22 HX23 HX24 HX25 HS3 HS4 HS5 HS7 HS8
  clear hs ht
  obtain ⟨LX, hLX⟩ : ∃ L, L = encL ⟨xg, xe, xb, xl, xs, xa, xr, xc, xv⟩ := ⟨_, rfl⟩
  obtain ⟨LY, hLY⟩ : ∃ L, L = encL ⟨yg, ye, yb, yl, ys, ya, yr, yc, yv⟩ := ⟨_, rfl⟩
  have HLX := Lib.hid (show LX.length = 512 by rw [hLX, encL_len])
  have HLY := Lib.hid (show LY.length = 512 by rw [hLY, encL_len])
  have HXP := Lib.hid (show ∀ a, cP ⟨xg, xe, xb, xl, xs, xa, xr, xc, xv⟩ true a = flipL LX a ∧ cP ⟨xg, xe, xb, xl, xs, xa, xr, xc, xv⟩ false a = LX from fun a => by rw [hLX]; exact ⟨rfl, rfl⟩)
  have HYP := Lib.hid (show ∀ a, cP ⟨yg, ye, yb, yl, ys, ya, yr, yc, yv⟩ true a = flipL LY a ∧ cP ⟨yg, ye, yb, yl, ys, ya, yr, yc, yv⟩ false a = LY from fun a => by rw [hLY]; exact ⟨rfl, rfl⟩)
  rw [← hLX] at HRB1
  rw [← hLY] at HRB2
  clear hLX hLY
  have a3 : bits .and .i64 at_ 511 = at_ % 512 := i64_andm62 9 (by omega) at_
  obtain ⟨a, ha⟩ : ∃ a : Nat, (a : Int) = at_ % 512 := ⟨(at_ % 512).toNat, by omega⟩
  rw [← ha] at a3
  have ha1 : a < 512 := by omega
  clear ha
  subst hb0 hg0
  have hsp1 := HC0.out
  have hsp0 : ¬ sp = 0 := by omega
  have hb0 : (sp == 0) = false := by simp [hsp0]
  have hb1 : (sp == 1) = true := by simp [hsp1]
  have HS1 := Lib.hid hsp1
  clear hsp1
  have hcell := HS9.out.cell 0 rfl HRB2.out a ha1
  have hfree := HRB2.out.free (HS9.out.get 0 rfl) a
  obtain ⟨x0, hx0⟩ : ∃ x0, x0 = LY.getD a 0 := ⟨_, rfl⟩
  rw [← hx0] at hcell
  have h8 := x0.toNat_lt
  have hv : bits .xor .u8 (x0.toNat : Int) 1 = ((x0 ^^^ 1).toNat : Int) := flip_val x0 0
  have HV := Lib.hid hv
  obtain ⟨o5, ho5, hr5⟩ := HRB2.out.store (HS9.out.get 0 rfl) a (x0 ^^^ 1)
  have hS := HS9.out.store 0 a _ rfl ho5
  rw [← hv] at hS
  have HS := Lib.hid hS
  have HR5 := Lib.hid (show RowB o5 512 512 (flipL LY a) by unfold flipL; rw [← hx0]; exact hr5)
  clear hx0 hv ho5 hr5 hS
  have HP1 := Lib.hid (show RowB o1 512 512 (cP ⟨xg, xe, xb, xl, xs, xa, xr, xc, xv⟩ false a) from by rw [(HXP.out a).2]; exact HRB1.out)
  have HP2 := Lib.hid (show RowB o5 512 512 (cP ⟨yg, ye, yb, yl, ys, ya, yr, yc, yv⟩ true a) from by rw [(HYP.out a).1]; exact HR5.out)
  have HED := Lib.hid (show (edD D64 1 0 (cP ⟨xg, xe, xb, xl, xs, xa, xr, xc, xv⟩ false a)).1 = 0 ∧ (edD (edD D64 1 0 (cP ⟨xg, xe, xb, xl, xs, xa, xr, xc, xv⟩ false a)).2 0 0 (cP ⟨yg, ye, yb, yl, ys, ya, yr, yc, yv⟩ true a)).1 = 0 ∧ D2 1 (cP ⟨xg, xe, xb, xl, xs, xa, xr, xc, xv⟩ false a) (cP ⟨yg, ye, yb, yl, ys, ya, yr, yc, yv⟩ true a) = { D64 with M := splice (splice D64.M (1 * 512) (cP ⟨xg, xe, xb, xl, xs, xa, xr, xc, xv⟩ false a)) ((1 - 1) * 512) (cP ⟨yg, ye, yb, yl, ys, ya, yr, yc, yv⟩ true a) } from D2_eq 1 _ _ (by omega) (cP_len _ _ _) (cP_len _ _ _))
  have HC := Lib.hid (show (anR (D2 1 (cP ⟨xg, xe, xb, xl, xs, xa, xr, xc, xv⟩ false a) (cP ⟨yg, ye, yb, yl, ys, ya, yr, yc, yv⟩ true a))).1 = zSp ∧ (anR (D2 1 (cP ⟨xg, xe, xb, xl, xs, xa, xr, xc, xv⟩ false a) (cP ⟨yg, ye, yb, yl, ys, ya, yr, yc, yv⟩ true a))).2.1 = 0 ∧ (anR (D2 1 (cP ⟨xg, xe, xb, xl, xs, xa, xr, xc, xv⟩ false a) (cP ⟨yg, ye, yb, yl, ys, ya, yr, yc, yv⟩ true a))).2.2.1 = 5 from by
    have h := counts_swap ⟨xg, xe, xb, xl, xs, xa, xr, xc, xv⟩ ⟨yg, ye, yb, yl, ys, ya, yr, yc, yv⟩ HXV.out HYV.out (by have h9 := HXG.out; show xg % 2 = 0; omega) (by have h9 := HYG.out; show yg % 2 = 1; omega) sp a ha1
    rw [decide_eq_false hsp0, decide_eq_true HS1.out] at h
    exact h)
  obtain ⟨P, hP⟩ : ∃ P, P = (cP ⟨xg, xe, xb, xl, xs, xa, xr, xc, xv⟩ false a) := ⟨_, rfl⟩
  obtain ⟨Q, hQ⟩ : ∃ Q, Q = (cP ⟨yg, ye, yb, yl, ys, ya, yr, yc, yv⟩ true a) := ⟨_, rfl⟩
  rw [← hP, ← hQ] at HED HC
  rw [← hP] at HP1
  rw [← hQ] at HP2
  clear hP hQ
  go_wp2_with fail
  refine (st_EditG 1 0 (some ⟨k1, 0, none⟩) 512 512 P HS.out (HS.out.rd 1 rfl HP1.out (by omega)) (by omega)).mono ?_
  rintro e w11 ⟨rfl, hS⟩
  rw [HED.out.1]
  have HS11 := Lib.hid hS
  clear hS
  go_wp2_with fail
  refine (st_EditG 0 0 (some ⟨k2, 0, none⟩) 512 512 Q HS11.out (HS11.out.rd 0 rfl HP2.out (by omega)) (by omega)).mono ?_
  rintro e w12 ⟨rfl, hS⟩
  rw [HED.out.2.1]
  have HS12 := Lib.hid (show St w2 w12 _ _ _ (D2 1 P Q) _ from hS)
  clear hS
  go_wp2_with fail
  refine (st_anRead HS12.out (by rw [HED.out.2.2]; show (0 : Nat) < _; omega) (by rw [HED.out.2.2]; show (0 : Nat) ≤ _; omega)).mono ?_
  rintro e w13 ⟨rfl, hS⟩
  rw [HC.out.1, HC.out.2.1, HC.out.2.2]
  have hS14 := hS.new ((Below.refl _ w13).alloc (Nat.le_refl _) (spO zSp)) (Nat.le_refl _) (heap_alloc_new w13 (spO zSp))
  have HS14 := Lib.hid hS14
  have hd22 := cell9 (hS14.get 0 rfl)
  have hdY := cell9 (hS14.get 3 rfl)
  have hdX := cell9 (hS14.get 4 rfl)
  unfold spO at hd22 hdY hdX
  unfold spC zSp at hd22 hdY hdX ⊢
  dsimp only at hd22 hdY hdX ⊢
  clear hS hS14
  go_upto_region 25 with (fail)
  have hS15 := HS14.out.new ((Below.refl _ _).alloc (Nat.le_refl _) (spO ⟨yg, ye, yb, yl, ys, ya, yr, yc, yv⟩)) (Nat.le_refl _) (heap_alloc_new _ (spO ⟨yg, ye, yb, yl, ys, ya, yr, yc, yv⟩))
  rw [World.size_alloc] at hS15
  obtain ⟨W15, hW⟩ : ∃ W, W = (w13.alloc (spO zSp)).alloc (spO ⟨yg, ye, yb, yl, ys, ya, yr, yc, yv⟩) := ⟨_, rfl⟩
  rw [← hW] at hS15
  unfold spO spC zSp at hW
  dsimp only at hW
  rw [← hW]
  have HS15 := Lib.hid hS15
  clear hd22 hdY hdX hW
  have d25 := cell9 (hS15.get 0 rfl)
  have f25 := free9 (hS15.get 0 rfl)
  have d22 := cell9 (hS15.get 1 rfl)
  have dY := cell9 (hS15.get 4 rfl)
  have dX := cell9 (hS15.get 5 rfl)
  unfold zSp at d22
  dsimp only at d25 d22 dY dX
  clear hS15
  go_upto_region 26 with (fail)
  clear d22 dY
  go_upto_region 27 with (fail)
  have hS16 := HS15.out.upd 0 rfl (below_put9 (s := ⟨xg, xe, xb, xl, xs, xa, xr, xc, xv⟩)) (row9 (s := ⟨xg, xe, xb, xl, xs, xa, xr, xc, xv⟩) (HS15.out.get 0 rfl))
  obtain ⟨W16, hW⟩ : ∃ W, W = put9 W15 (w13.heap.size + 1) ⟨xg, xe, xb, xl, xs, xa, xr, xc, xv⟩ := ⟨_, rfl⟩
  rw [← hW] at hS16
  unfold put9 at hW
  dsimp only at hW
  rw [← hW]
  have HS16 := Lib.hid hS16
  clear d25 f25 dX hW
  have d25 := cell9 (hS16.get 0 rfl)
  have d22 := cell9 (hS16.get 1 rfl)
  unfold zSp at d22
  dsimp only at d25 d22
  clear hS16
  have hm : xg.tmod 2 = 0 := by
    have h9 := HXG.out
    rw [Int.tmod_eq_emod_of_nonneg (by omega)]; omega
  go_wp2
  go_ret
  exact ⟨rfl, HB2.out.trans (HS16.out.bl.mono HB2.out.size)⟩
end Go.Proofs.Ytggoaelbglhehaa
/- AnchorCounts: which of two blocks counts: the walk, one case of eight. -/
set_option linter.unusedVariables false
set_option linter.unusedSimpArgs false
set_option maxRecDepth 100000
namespace Go.Proofs.Ytggoaelbglhehaa
open Go.RowKit SumMath
set_option maxHeartbeats 16000000 in
theorem walkc4 (s t : Sp) (sp at_ : Int) (w : World) (hs : s.ok) (ht : t.ok) (hsp : i64B sp) (hat : i64B at_) (hc : ¬ sp = 0 ∧ ¬ sp = 1) (hgt : 2 * (t.gen % 1024) + 1 < 2 * (1 + s.gen % 1024)) :
    Calls Try.prog 5 #[.agg (spC s), .agg (spC t), .bool false, .int .i64 sp, .int .i64 at_] w fun e w' => e = .returned (.bool true) ∧ Below w.heap.size w w' := by
  have HC0 := Lib.hid hc
  have HGT := Lib.hid hgt
  clear hc hgt
  obtain ⟨q, hq0⟩ : ∃ q, q = w.heap.size := ⟨_, rfl⟩
  have HX1 := Lib.hid (show ((w.alloc (spO s)).alloc (spO t)).heap[q]? = some (spO s) by rw [hq0]; exact heap_alloc2_old w (spO s) (spO t))
  have HX2 := Lib.hid (show ((w.alloc (spO s)).alloc (spO t)).heap[q + 1]? = some (spO t) by rw [hq0, ← World.size_alloc w (spO s)]; exact heap_alloc_new (w.alloc (spO s)) (spO t))
  have HB0 := Lib.hid (((Below.refl _ w).alloc (Nat.le_refl _) (spO s)).alloc (by rw [World.size_alloc]; omega) (spO t))
  go_enter Try.func5, Try.ntmps5
  go_wp2_with fail
  refine (l11_fixed _).mono ?_
  rintro e w2 ⟨rfl, hB⟩
  have HX12 := Lib.hid ((hB.block q (lt_of_block HX1.out)).trans HX1.out)
  have HX22 := Lib.hid ((hB.block (q + 1) (lt_of_block HX2.out)).trans HX2.out)
  have HB2 := Lib.hid (HB0.out.trans (hB.mono HB0.out.size))
  clear hB HX1 HX2 HB0
  go_wp2_with fail
  refine (dv_New_ok 64 (by omega) (by omega) w2).mono ?_
  rintro e w3 ⟨rfl, hD, hB⟩
  have hV : IsV w3 (w2.heap.size + 1) w2.heap.size (.slice none 0 0) D64 := ⟨hD, ⟨PdOk.nil _, World.ownsRow_nil _ _ _ _⟩, fun k hk => by cases hk⟩
  have hS0 : St w2 w3 (w2.heap.size + 1) w2.heap.size (.slice none 0 0) D64 [] := St.of hV (fun s hs => by
    simp only [dvS, Value.ownBlock, Option.toList_none, List.mem_cons, List.not_mem_nil, or_false] at hs
    omega) hB
  obtain ⟨b, hb0⟩ : ∃ b, b = w2.heap.size + 1 := ⟨_, rfl⟩
  obtain ⟨g, hg0⟩ : ∃ g, g = w2.heap.size := ⟨_, rfl⟩
  rw [← hb0, ← hg0] at hS0
  rw [← hb0]
  have HS3 := Lib.hid hS0
  have HX13 := Lib.hid ((hB.block q (lt_of_block HX12.out)).trans HX12.out)
  have HX23 := Lib.hid ((hB.block (q + 1) (lt_of_block HX22.out)).trans HX22.out)
  have a1 : bits .and .i64 s.gen 1023 = s.gen % 1024 := i64_andm62 10 (by omega) s.gen
  obtain ⟨x, hx⟩ : ∃ x, x = s.gen % 1024 := ⟨_, rfl⟩
  have hx1 : (0 : Int) ≤ x ∧ x < 1024 := by omega
  rw [← hx] at a1
  obtain ⟨X, hX⟩ : ∃ X, X = rightS s (2 * (1 + x)) := ⟨_, rfl⟩
  have hXv : Vld X 64 := by rw [hX]; exact rightS_vld s _ (by omega)
  have hXg : X.gen = 2 * (1 + x) := by rw [hX]; rfl
  have HR1 := Lib.hid (l11_right s (2 * (1 + x)))
  rw [← hX] at HR1
  have HXV := Lib.hid hXv
  have HXG := Lib.hid hXg
  have hd := cell9 HX13.out
  rw [hq0] at hd
  have HGX := Lib.hid hx
  clear hB hV hS0 hD hX hx hXv hXg
  obtain ⟨xC, hxC⟩ : ∃ xC, xC = spC X := ⟨_, rfl⟩
  rw [← hxC] at HR1
  obtain ⟨sg, se, sb, sl, ss, sa, sr, sc, sv⟩ := s
  unfold spC at HR1 ⊢
  dsimp only at HR1 hd a1 ⊢
  go_wp2_with fail
  refine (HR1.out _).mono ?_
  rintro e w4 ⟨rfl, hB⟩
  have HX24 := Lib.hid ((hB.block (q + 1) (lt_of_block HX23.out)).trans HX23.out)
  have HX14 := Lib.hid ((hB.block q (lt_of_block HX13.out)).trans HX13.out)
  have HS4 := Lib.hid (HS3.out.below hB)
  clear hB hd HR1
  subst hxC
  have a2 : bits .and .i64 t.gen 1023 = t.gen % 1024 := i64_andm62 10 (by omega) t.gen
  obtain ⟨y, hy⟩ : ∃ y, y = t.gen % 1024 := ⟨_, rfl⟩
  have hy1 : (0 : Int) ≤ y ∧ y < 1024 := by omega
  rw [← hy] at a2
  obtain ⟨Y, hY⟩ : ∃ Y, Y = rightS t (2 * y + 1) := ⟨_, rfl⟩
  have HYV := Lib.hid (show Vld Y 64 by rw [hY]; exact rightS_vld t _ (by omega))
  have HYG := Lib.hid (show Y.gen = 2 * y + 1 by rw [hY]; rfl)
  have HR2 := Lib.hid (l11_right t (2 * y + 1))
  rw [← hY] at HR2
  have hS5 := HS4.out.new ((Below.refl _ w4).alloc (Nat.le_refl _) (spO X)) (Nat.le_refl _) (heap_alloc_new w4 (spO X))
  have HS5 := Lib.hid hS5
  have hX25 : (w4.alloc (spO X)).heap[q + 1]? = some (spO t) := (((Below.refl _ w4).alloc (Nat.le_refl _) (spO X)).block (q + 1) (lt_of_block HX24.out)).trans HX24.out
  have HX25 := Lib.hid hX25
  have hd := cell9 hX25
  rw [hq0] at hd
  have HGY := Lib.hid hy
  clear hY hy hS5 hX25
  obtain ⟨yC, hyC⟩ : ∃ yC, yC = spC Y := ⟨_, rfl⟩
  rw [← hyC] at HR2
  obtain ⟨tg, te, tb, tl, ts, ta, tr, tc, tv⟩ := t
  obtain ⟨xg, xe, xb, xl, xs, xa, xr, xc, xv⟩ := X
  unfold spO at hd
  unfold spC at HR2 hd ⊢
  dsimp only at HR2 hd a2 ⊢
  go_wp2_with fail
  refine (HR2.out _).mono ?_
  rintro e w6 ⟨rfl, hB⟩
  have hS6 := HS5.out.below hB
  have hS7 := hS6.new ((Below.refl _ w6).alloc (Nat.le_refl _) (spO Y)) (Nat.le_refl _) (heap_alloc_new w6 (spO Y))
  have HS7 := Lib.hid hS7
  have hd2 := cell9 (hS7.get 1 rfl)
  clear hB hd hS6 hS7 HR2
  subst hyC
  have HE1 := Lib.hid (an_Encode ⟨xg, xe, xb, xl, xs, xa, xr, xc, xv⟩ (vld_ok _ 64 HXV.out) (by have h := HXV.out; have e := h.blocks; dsimp only at e; subst e; exact h))
  obtain ⟨yg, ye, yb, yl, ys, ya, yr, yc, yv⟩ := Y
  unfold spO at hd2
  unfold spC at hd2 HE1 ⊢
  dsimp only at hd2 HE1 ⊢
  go_wp2_with fail
  refine (HE1.out _).mono ?_
  rintro e w8 ⟨k1, rfl, hO, hB⟩
  obtain ⟨p1, c1, o1, e1, hr1, hS8⟩ := HS7.out.newB hO hB (by omega)
  injection e1 with e1 e2 e3
  injection e1 with e1
  injection e1 with e1
  subst e1 e3
  have HS8 := Lib.hid hS8
  have HRB1 := Lib.hid hr1
  have hd3 := cell9 (hS8.get 1 rfl)
  clear hO hB hd2 hS8 hr1 HE1
  have HE2 := Lib.hid (an_Encode ⟨yg, ye, yb, yl, ys, ya, yr, yc, yv⟩ (vld_ok _ 64 HYV.out) (by have h := HYV.out; have e := h.blocks; dsimp only at e; subst e; exact h))
  unfold spC at HE2
  dsimp only at hd3 HE2
  go_wp2_with fail
  refine (HE2.out _).mono ?_
  rintro e w9 ⟨k2, rfl, hO, hB⟩
  obtain ⟨p2, c2, o2, e2, hr2, hS9⟩ := HS8.out.newB hO hB (by omega)
  injection e2 with e1 e2 e3
  injection e1 with e1
  injection e1 with e1
  subst e1 e3
  have HS9 := Lib.hid hS9
  have HRB2 := Lib.hid hr2
  clear hO hB hd3 hS9 hr2 HE2 HX12 HX13 HX14 HX22 HX23 HX24 HX25 HS3 HS4 HS5 HS7 HS8
  clear hs ht
  obtain ⟨LX, hLX⟩ : ∃ L, L = encL ⟨xg, xe, xb, xl, xs, xa, xr, xc, xv⟩ := ⟨_, rfl⟩
  obtain ⟨LY, hLY⟩ : ∃ L, L = encL ⟨yg, ye, yb, yl, ys, ya, yr, yc, yv⟩ := ⟨_, rfl⟩
  have HLX := Lib.hid (show LX.length = 512 by rw [hLX, encL_len])
  have HLY := Lib.hid (show LY.length = 512 by rw [hLY, encL_len])
  have HXP := Lib.hid (show ∀ a, cP ⟨xg, xe, xb, xl, xs, xa, xr, xc, xv⟩ true a = flipL LX a ∧ cP ⟨xg, xe, xb, xl, xs, xa, xr, xc, xv⟩ false a = LX from fun a => by rw [hLX]; exact ⟨rfl, rfl⟩)
  have HYP := Lib.hid (show ∀ a, cP ⟨yg, ye, yb, yl, ys, ya, yr, yc, yv⟩ true a = flipL LY a ∧ cP ⟨yg, ye, yb, yl, ys, ya, yr, yc, yv⟩ false a = LY from fun a => by rw [hLY]; exact ⟨rfl, rfl⟩)
  rw [← hLX] at HRB1
  rw [← hLY] at HRB2
  clear hLX hLY
  have a3 : bits .and .i64 at_ 511 = at_ % 512 := i64_andm62 9 (by omega) at_
  obtain ⟨a, ha⟩ : ∃ a : Nat, (a : Int) = at_ % 512 := ⟨(at_ % 512).toNat, by omega⟩
  rw [← ha] at a3
  have ha1 : a < 512 := by omega
  clear ha
  subst hb0 hg0
  have hsp0 := HC0.out.1
  have hsp1 := HC0.out.2
  have hb0 : (sp == 0) = false := by simp [hsp0]
  have hb1 : (sp == 1) = false := by simp [hsp1]
  have hgt : yg < xg := by
    have h1 := HGT.out; have h2 := HXG.out; have h3 := HYG.out; have h4 := HGX.out; have h5 := HGY.out
    (try dsimp only at h1); (try dsimp only at h2); (try dsimp only at h3); (try dsimp only at h4); (try dsimp only at h5)
    omega
  have HP1 := Lib.hid (show RowB o1 512 512 (cP ⟨xg, xe, xb, xl, xs, xa, xr, xc, xv⟩ false a) from by rw [(HXP.out a).2]; exact HRB1.out)
  have HP2 := Lib.hid (show RowB o2 512 512 (cP ⟨yg, ye, yb, yl, ys, ya, yr, yc, yv⟩ false a) from by rw [(HYP.out a).2]; exact HRB2.out)
  have HED := Lib.hid (show (edD D64 0 0 (cP ⟨xg, xe, xb, xl, xs, xa, xr, xc, xv⟩ false a)).1 = 0 ∧ (edD (edD D64 0 0 (cP ⟨xg, xe, xb, xl, xs, xa, xr, xc, xv⟩ false a)).2 1 0 (cP ⟨yg, ye, yb, yl, ys, ya, yr, yc, yv⟩ false a)).1 = 0 ∧ D2 0 (cP ⟨xg, xe, xb, xl, xs, xa, xr, xc, xv⟩ false a) (cP ⟨yg, ye, yb, yl, ys, ya, yr, yc, yv⟩ false a) = { D64 with M := splice (splice D64.M (0 * 512) (cP ⟨xg, xe, xb, xl, xs, xa, xr, xc, xv⟩ false a)) ((1 - 0) * 512) (cP ⟨yg, ye, yb, yl, ys, ya, yr, yc, yv⟩ false a) } from D2_eq 0 _ _ (by omega) (cP_len _ _ _) (cP_len _ _ _))
  have HC := Lib.hid (show (anR (D2 0 (cP ⟨xg, xe, xb, xl, xs, xa, xr, xc, xv⟩ false a) (cP ⟨yg, ye, yb, yl, ys, ya, yr, yc, yv⟩ false a))).1 = ⟨xg, xe, xb, xl, xs, xa, xr, xc, xv⟩ ∧ (anR (D2 0 (cP ⟨xg, xe, xb, xl, xs, xa, xr, xc, xv⟩ false a) (cP ⟨yg, ye, yb, yl, ys, ya, yr, yc, yv⟩ false a))).2.1 = 0 ∧ (anR (D2 0 (cP ⟨xg, xe, xb, xl, xs, xa, xr, xc, xv⟩ false a) (cP ⟨yg, ye, yb, yl, ys, ya, yr, yc, yv⟩ false a))).2.2.1 = 0 from by
    have h := counts_straight ⟨xg, xe, xb, xl, xs, xa, xr, xc, xv⟩ ⟨yg, ye, yb, yl, ys, ya, yr, yc, yv⟩ HXV.out HYV.out (by have h9 := HXG.out; show xg % 2 = 0; omega) (by have h9 := HYG.out; show yg % 2 = 1; omega) sp a ha1
    rw [decide_eq_false hsp0, decide_eq_false hsp1] at h
    rw [show cWant ⟨xg, xe, xb, xl, xs, xa, xr, xc, xv⟩ ⟨yg, ye, yb, yl, ys, ya, yr, yc, yv⟩ sp = ⟨xg, xe, xb, xl, xs, xa, xr, xc, xv⟩ from by unfold cWant; rw [if_pos (.inr ⟨hsp0, hgt⟩)], show Sp.gen ⟨xg, xe, xb, xl, xs, xa, xr, xc, xv⟩ % 2 = 0 by have h9 := HXG.out; show xg % 2 = 0; omega] at h
    exact h)
  obtain ⟨P, hP⟩ : ∃ P, P = (cP ⟨xg, xe, xb, xl, xs, xa, xr, xc, xv⟩ false a) := ⟨_, rfl⟩
  obtain ⟨Q, hQ⟩ : ∃ Q, Q = (cP ⟨yg, ye, yb, yl, ys, ya, yr, yc, yv⟩ false a) := ⟨_, rfl⟩
  rw [← hP, ← hQ] at HED HC
  rw [← hP] at HP1
  rw [← hQ] at HP2
  clear hP hQ
  go_wp2_with fail
  refine (st_EditG 0 0 (some ⟨k1, 0, none⟩) 512 512 P HS9.out (HS9.out.rd 1 rfl HP1.out (by omega)) (by omega)).mono ?_
  rintro e w11 ⟨rfl, hS⟩
  rw [HED.out.1]
  have HS11 := Lib.hid hS
  clear hS
  go_wp2_with fail
  refine (st_EditG 1 0 (some ⟨k2, 0, none⟩) 512 512 Q HS11.out (HS11.out.rd 0 rfl HP2.out (by omega)) (by omega)).mono ?_
  rintro e w12 ⟨rfl, hS⟩
  rw [HED.out.2.1]
  have HS12 := Lib.hid (show St w2 w12 _ _ _ (D2 0 P Q) _ from hS)
  clear hS
  go_wp2_with fail
  refine (st_anRead HS12.out (by rw [HED.out.2.2]; show (0 : Nat) < _; omega) (by rw [HED.out.2.2]; show (0 : Nat) ≤ _; omega)).mono ?_
  rintro e w13 ⟨rfl, hS⟩
  rw [HC.out.1, HC.out.2.1, HC.out.2.2]
  have hS14 := hS.new ((Below.refl _ w13).alloc (Nat.le_refl _) (spO ⟨xg, xe, xb, xl, xs, xa, xr, xc, xv⟩)) (Nat.le_refl _) (heap_alloc_new w13 (spO ⟨xg, xe, xb, xl, xs, xa, xr, xc, xv⟩))
  have HS14 := Lib.hid hS14
  have hd22 := cell9 (hS14.get 0 rfl)
  have hdY := cell9 (hS14.get 3 rfl)
  have hdX := cell9 (hS14.get 4 rfl)
  unfold spO at hd22 hdY hdX
  unfold spC at hd22 hdY hdX ⊢
  dsimp only at hd22 hdY hdX ⊢
  clear hS hS14
  go_upto_region 25 with (fail)
  have hS15 := HS14.out.new ((Below.refl _ _).alloc (Nat.le_refl _) (spO ⟨yg, ye, yb, yl, ys, ya, yr, yc, yv⟩)) (Nat.le_refl _) (heap_alloc_new _ (spO ⟨yg, ye, yb, yl, ys, ya, yr, yc, yv⟩))
  rw [World.size_alloc] at hS15
  obtain ⟨W15, hW⟩ : ∃ W, W = (w13.alloc (spO ⟨xg, xe, xb, xl, xs, xa, xr, xc, xv⟩)).alloc (spO ⟨yg, ye, yb, yl, ys, ya, yr, yc, yv⟩) := ⟨_, rfl⟩
  rw [← hW] at hS15
  unfold spO spC at hW
  dsimp only at hW
  rw [← hW]
  have HS15 := Lib.hid hS15
  clear hd22 hdY hdX hW
  have d25 := cell9 (hS15.get 0 rfl)
  have f25 := free9 (hS15.get 0 rfl)
  have d22 := cell9 (hS15.get 1 rfl)
  have dY := cell9 (hS15.get 4 rfl)
  have dX := cell9 (hS15.get 5 rfl)
  dsimp only at d25 d22 dY dX
  clear hS15
  go_upto_region 26 with (fail)
  clear d22 dY
  go_upto_region 27 with (fail)
  have hS16 := HS15.out.upd 0 rfl (below_put9 (s := ⟨xg, xe, xb, xl, xs, xa, xr, xc, xv⟩)) (row9 (s := ⟨xg, xe, xb, xl, xs, xa, xr, xc, xv⟩) (HS15.out.get 0 rfl))
  obtain ⟨W16, hW⟩ : ∃ W, W = put9 W15 (w13.heap.size + 1) ⟨xg, xe, xb, xl, xs, xa, xr, xc, xv⟩ := ⟨_, rfl⟩
  rw [← hW] at hS16
  unfold put9 at hW
  dsimp only at hW
  rw [← hW]
  have HS16 := Lib.hid hS16
  clear d25 f25 dX hW
  have d25 := cell9 (hS16.get 0 rfl)
  have d22 := cell9 (hS16.get 1 rfl)
  dsimp only at d25 d22
  clear hS16
  have hm : xg.tmod 2 = 0 := by
    have h9 := HXG.out
    rw [Int.tmod_eq_emod_of_nonneg (by omega)]; omega
  go_wp2
  go_ret
  exact ⟨rfl, HB2.out.trans (HS16.out.bl.mono HB2.out.size)⟩
end Go.Proofs.Ytggoaelbglhehaa
/- AnchorCounts: which of two blocks counts: the walk, one case of eight. -/
set_option linter.unusedVariables false
set_option linter.unusedSimpArgs false
set_option maxRecDepth 100000
namespace Go.Proofs.Ytggoaelbglhehaa
open Go.RowKit SumMath
set_option maxHeartbeats 16000000 in
theorem walkc5 (s t : Sp) (sp at_ : Int) (w : World) (hs : s.ok) (ht : t.ok) (hsp : i64B sp) (hat : i64B at_) (hc : ¬ sp = 0 ∧ ¬ sp = 1) (hgt : 2 * (t.gen % 1024) + 1 < 2 * (1 + s.gen % 1024)) :
    Calls Try.prog 5 #[.agg (spC s), .agg (spC t), .bool true, .int .i64 sp, .int .i64 at_] w fun e w' => e = .returned (.bool true) ∧ Below w.heap.size w w' := by
  have HC0 := Lib.hid hc
  have HGT := Lib.hid hgt
  clear hc hgt
  obtain ⟨q, hq0⟩ : ∃ q, q = w.heap.size := ⟨_, rfl⟩
  have HX1 := Lib.hid (show ((w.alloc (spO s)).alloc (spO t)).heap[q]? = some (spO s) by rw [hq0]; exact heap_alloc2_old w (spO s) (spO t))
  have HX2 := Lib.hid (show ((w.alloc (spO s)).alloc (spO t)).heap[q + 1]? = some (spO t) by rw [hq0, ← World.size_alloc w (spO s)]; exact heap_alloc_new (w.alloc (spO s)) (spO t))
  have HB0 := Lib.hid (((Below.refl _ w).alloc (Nat.le_refl _) (spO s)).alloc (by rw [World.size_alloc]; omega) (spO t))
  go_enter Try.func5, Try.ntmps5
  go_wp2_with fail
  refine (l11_fixed _).mono ?_
  rintro e w2 ⟨rfl, hB⟩
  have HX12 := Lib.hid ((hB.block q (lt_of_block HX1.out)).trans HX1.out)
  have HX22 := Lib.hid ((hB.block (q + 1) (lt_of_block HX2.out)).trans HX2.out)
  have HB2 := Lib.hid (HB0.out.trans (hB.mono HB0.out.size))
  clear hB HX1 HX2 HB0
  go_wp2_with fail
  refine (dv_New_ok 64 (by omega) (by omega) w2).mono ?_
  rintro e w3 ⟨rfl, hD, hB⟩
  have hV : IsV w3 (w2.heap.size + 1) w2.heap.size (.slice none 0 0) D64 := ⟨hD, ⟨PdOk.nil _, World.ownsRow_nil _ _ _ _⟩, fun k hk => by cases hk⟩
  have hS0 : St w2 w3 (w2.heap.size + 1) w2.heap.size (.slice none 0 0) D64 [] := St.of hV (fun s hs => by
    simp only [dvS, Value.ownBlock, Option.toList_none, List.mem_cons, List.not_mem_nil, or_false] at hs
    omega) hB
  obtain ⟨b, hb0⟩ : ∃ b, b = w2.heap.size + 1 := ⟨_, rfl⟩
  obtain ⟨g, hg0⟩ : ∃ g, g = w2.heap.size := ⟨_, rfl⟩
  rw [← hb0, ← hg0] at hS0
  rw [← hb0]
  have HS3 := Lib.hid hS0
  have HX13 := Lib.hid ((hB.block q (lt_of_block HX12.out)).trans HX12.out)
  have HX23 := Lib.hid ((hB.block (q + 1) (lt_of_block HX22.out)).trans HX22.out)
  have a1 : bits .and .i64 s.gen 1023 = s.gen % 1024 := i64_andm62 10 (by omega) s.gen
  obtain ⟨x, hx⟩ : ∃ x, x = s.gen % 1024 := ⟨_, rfl⟩
  have hx1 : (0 : Int) ≤ x ∧ x < 1024 := by omega
  rw [← hx] at a1
  obtain ⟨X, hX⟩ : ∃ X, X = rightS s (2 * (1 + x)) := ⟨_, rfl⟩
  have hXv : Vld X 64 := by rw [hX]; exact rightS_vld s _ (by omega)
  have hXg : X.gen = 2 * (1 + x) := by rw [hX]; rfl
  have HR1 := Lib.hid (l11_right s (2 * (1 + x)))
  rw [← hX] at HR1
  have HXV := Lib.hid hXv
  have HXG := Lib.hid hXg
  have hd := cell9 HX13.out
  rw [hq0] at hd
  have HGX := Lib.hid hx
  clear hB hV hS0 hD hX hx hXv hXg
  obtain ⟨xC, hxC⟩ : ∃ xC, xC = spC X := ⟨_, rfl⟩
  rw [← hxC] at HR1
  obtain ⟨sg, se, sb, sl, ss, sa, sr, sc, sv⟩ := s
  unfold spC at HR1 ⊢
  dsimp only at HR1 hd a1 ⊢
  go_wp2_with fail
  refine (HR1.out _).mono ?_
  rintro e w4 ⟨rfl, hB⟩
  have HX24 := Lib.hid ((hB.block (q + 1) (lt_of_block HX23.out)).trans HX23.out)
  have HX14 := Lib.hid ((hB.block q (lt_of_block HX13.out)).trans HX13.out)
  have HS4 := Lib.hid (HS3.out.below hB)
  clear hB hd HR1
  subst hxC
  have a2 : bits .and .i64 t.gen 1023 = t.gen % 1024 := i64_andm62 10 (by omega) t.gen
  obtain ⟨y, hy⟩ : ∃ y, y = t.gen % 1024 := ⟨_, rfl⟩
  have hy1 : (0 : Int) ≤ y ∧ y < 1024 := by omega
  rw [← hy] at a2
  obtain ⟨Y, hY⟩ : ∃ Y, Y = rightS t (2 * y + 1) := ⟨_, rfl⟩
  have HYV := Lib.hid (show Vld Y 64 by rw [hY]; exact rightS_vld t _ (by omega))
  have HYG := Lib.hid (show Y.gen = 2 * y + 1 by rw [hY]; rfl)
  have HR2 := Lib.hid (l11_right t (2 * y + 1))
  rw [← hY] at HR2
  have hS5 := HS4.out.new ((Below.refl _ w4).alloc (Nat.le_refl _) (spO X)) (Nat.le_refl _) (heap_alloc_new w4 (spO X))
  have HS5 := Lib.hid hS5
  have hX25 : (w4.alloc (spO X)).heap[q + 1]? = some (spO t) := (((Below.refl _ w4).alloc (Nat.le_refl _) (spO X)).block (q + 1) (lt_of_block HX24.out)).trans HX24.out
  have HX25 := Lib.hid hX25
  have hd := cell9 hX25
  rw [hq0] at hd
  have HGY := Lib.hid hy
  clear hY hy hS5 hX25
  obtain ⟨yC, hyC⟩ : ∃ yC, yC = spC Y := ⟨_, rfl⟩
  rw [← hyC] at HR2
  obtain ⟨tg, te, tb, tl, ts, ta, tr, tc, tv⟩ := t
  obtain ⟨xg, xe, xb, xl, xs, xa, xr, xc, xv⟩ := X
  unfold spO at hd
  unfold spC at HR2 hd ⊢
  dsimp only at HR2 hd a2 ⊢
  go_wp2_with fail
  refine (HR2.out _).mono ?_
  rintro e w6 ⟨rfl, hB⟩
  have hS6 := HS5.out.below hB
  have hS7 := hS6.new ((Below.refl _ w6).alloc (Nat.le_refl _) (spO Y)) (Nat.le_refl _) (heap_alloc_new w6 (spO Y))
  have HS7 := Lib.hid hS7
  have hd2 := cell9 (hS7.get 1 rfl)
  clear hB hd hS6 hS7 HR2
  subst hyC
  have HE1 := Lib.hid (an_Encode ⟨xg, xe, xb, xl, xs, xa, xr, xc, xv⟩ (vld_ok _ 64 HXV.out) (by have h := HXV.out; have e := h.blocks; dsimp only at e; subst e; exact h))
  obtain ⟨yg, ye, yb, yl, ys, ya, yr, yc, yv⟩ := Y
  unfold spO at hd2
  unfold spC at hd2 HE1 ⊢
  dsimp only at hd2 HE1 ⊢
  go_wp2_with fail
  refine (HE1.out _).mono ?_
  rintro e w8 ⟨k1, rfl, hO, hB⟩
  obtain ⟨p1, c1, o1, e1, hr1, hS8⟩ := HS7.out.newB hO hB (by omega)
  injection e1 with e1 e2 e3
  injection e1 with e1
  injection e1 with e1
  subst e1 e3
  have HS8 := Lib.hid hS8
  have HRB1 := Lib.hid hr1
  have hd3 := cell9 (hS8.get 1 rfl)
  clear hO hB hd2 hS8 hr1 HE1
  have HE2 := Lib.hid (an_Encode ⟨yg, ye, yb, yl, ys, ya, yr, yc, yv⟩ (vld_ok _ 64 HYV.out) (by have h := HYV.out; have e := h.blocks; dsimp only at e; subst e; exact h))
  unfold spC at HE2
  dsimp only at hd3 HE2
  go_wp2_with fail
  refine (HE2.out _).mono ?_
  rintro e w9 ⟨k2, rfl, hO, hB⟩
  obtain ⟨p2, c2, o2, e2, hr2, hS9⟩ := HS8.out.newB hO hB (by omega)
  injection e2 with e1 e2 e3
  injection e1 with e1
  injection e1 with e1
  subst e1 e3
  have HS9 := Lib.hid hS9
  have HRB2 := Lib.hid hr2
  clear hO hB hd3 hS9 hr2 HE2 HX12 HX13 HX14 HX22 HX23 HX24 HX25 HS3 HS4 HS5 HS7 HS8
  clear hs ht
  obtain ⟨LX, hLX⟩ : ∃ L, L = encL ⟨xg, xe, xb, xl, xs, xa, xr, xc, xv⟩ := ⟨_, rfl⟩
  obtain ⟨LY, hLY⟩ : ∃ L, L = encL ⟨yg, ye, yb, yl, ys, ya, yr, yc, yv⟩ := ⟨_, rfl⟩
  have HLX := Lib.hid (show LX.length = 512 by rw [hLX, encL_len])
  have HLY := Lib.hid (show LY.length = 512 by rw [hLY, encL_len])
  have HXP := Lib.hid (show ∀ a, cP ⟨xg, xe, xb, xl, xs, xa, xr, xc, xv⟩ true a = flipL LX a ∧ cP ⟨xg, xe, xb, xl, xs, xa, xr, xc, xv⟩ false a = LX from fun a => by rw [hLX]; exact ⟨rfl, rfl⟩)
  have HYP := Lib.hid (show ∀ a, cP ⟨yg, ye, yb, yl, ys, ya, yr, yc, yv⟩ true a = flipL LY a ∧ cP ⟨yg, ye, yb, yl, ys, ya, yr, yc, yv⟩ false a = LY from fun a => by rw [hLY]; exact ⟨rfl, rfl⟩)
  rw [← hLX] at HRB1
  rw [← hLY] at HRB2
  clear hLX hLY
  have a3 : bits .and .i64 at_ 511 = at_ % 512 := i64_andm62 9 (by omega) at_
  obtain ⟨a, ha⟩ : ∃ a : Nat, (a : Int) = at_ % 512 := ⟨(at_ % 512).toNat, by omega⟩
  rw [← ha] at a3
  have ha1 : a < 512 := by omega
  clear ha
  subst hb0 hg0
  have hsp0 := HC0.out.1
  have hsp1 := HC0.out.2
  have hb0 : (sp == 0) = false := by simp [hsp0]
  have hb1 : (sp == 1) = false := by simp [hsp1]
  have hgt : yg < xg := by
    have h1 := HGT.out; have h2 := HXG.out; have h3 := HYG.out; have h4 := HGX.out; have h5 := HGY.out
    (try dsimp only at h1); (try dsimp only at h2); (try dsimp only at h3); (try dsimp only at h4); (try dsimp only at h5)
    omega
  have HP1 := Lib.hid (show RowB o1 512 512 (cP ⟨xg, xe, xb, xl, xs, xa, xr, xc, xv⟩ false a) from by rw [(HXP.out a).2]; exact HRB1.out)
  have HP2 := Lib.hid (show RowB o2 512 512 (cP ⟨yg, ye, yb, yl, ys, ya, yr, yc, yv⟩ false a) from by rw [(HYP.out a).2]; exact HRB2.out)
  have HED := Lib.hid (show (edD D64 1 0 (cP ⟨xg, xe, xb, xl, xs, xa, xr, xc, xv⟩ false a)).1 = 0 ∧ (edD (edD D64 1 0 (cP ⟨xg, xe, xb, xl, xs, xa, xr, xc, xv⟩ false a)).2 0 0 (cP ⟨yg, ye, yb, yl, ys, ya, yr, yc, yv⟩ false a)).1 = 0 ∧ D2 1 (cP ⟨xg, xe, xb, xl, xs, xa, xr, xc, xv⟩ false a) (cP ⟨yg, ye, yb, yl, ys, ya, yr, yc, yv⟩ false a) = { D64 with M := splice (splice D64.M (1 * 512) (cP ⟨xg, xe, xb, xl, xs, xa, xr, xc, xv⟩ false a)) ((1 - 1) * 512) (cP ⟨yg, ye, yb, yl, ys, ya, yr, yc, yv⟩ false a) } from D2_eq 1 _ _ (by omega) (cP_len _ _ _) (cP_len _ _ _))
  have HC := Lib.hid (show (anR (D2 1 (cP ⟨xg, xe, xb, xl, xs, xa, xr, xc, xv⟩ false a) (cP ⟨yg, ye, yb, yl, ys, ya, yr, yc, yv⟩ false a))).1 = zSp ∧ (anR (D2 1 (cP ⟨xg, xe, xb, xl, xs, xa, xr, xc, xv⟩ false a) (cP ⟨yg, ye, yb, yl, ys, ya, yr, yc, yv⟩ false a))).2.1 = 0 ∧ (anR (D2 1 (cP ⟨xg, xe, xb, xl, xs, xa, xr, xc, xv⟩ false a) (cP ⟨yg, ye, yb, yl, ys, ya, yr, yc, yv⟩ false a))).2.2.1 = 5 from by
    have h := counts_swap ⟨xg, xe, xb, xl, xs, xa, xr, xc, xv⟩ ⟨yg, ye, yb, yl, ys, ya, yr, yc, yv⟩ HXV.out HYV.out (by have h9 := HXG.out; show xg % 2 = 0; omega) (by have h9 := HYG.out; show yg % 2 = 1; omega) sp a ha1
    rw [decide_eq_false hsp0, decide_eq_false hsp1] at h
    exact h)
  obtain ⟨P, hP⟩ : ∃ P, P = (cP ⟨xg, xe, xb, xl, xs, xa, xr, xc, xv⟩ false a) := ⟨_, rfl⟩
  obtain ⟨Q, hQ⟩ : ∃ Q, Q = (cP ⟨yg, ye, yb, yl, ys, ya, yr, yc, yv⟩ false a) := ⟨_, rfl⟩
  rw [← hP, ← hQ] at HED HC
  rw [← hP] at HP1
  rw [← hQ] at HP2
  clear hP hQ
  go_wp2_with fail
  refine (st_EditG 1 0 (some ⟨k1, 0, none⟩) 512 512 P HS9.out (HS9.out.rd 1 rfl HP1.out (by omega)) (by omega)).mono ?_
  rintro e w11 ⟨rfl, hS⟩
  rw [HED.out.1]
  have HS11 := Lib.hid hS
  clear hS
  go_wp2_with fail
  refine (st_EditG 0 0 (some ⟨k2, 0, none⟩) 512 512 Q HS11.out (HS11.out.rd 0 rfl HP2.out (by omega)) (by omega)).mono ?_
  rintro e w12 ⟨rfl, hS⟩
  rw [HED.out.2.1]
  have HS12 := Lib.hid (show St w2 w12 _ _ _ (D2 1 P Q) _ from hS)
  clear hS
  go_wp2_with fail
  refine (st_anRead HS12.out (by rw [HED.out.2.2]; show (0 : Nat) < _; omega) (by rw [HED.out.2.2]; show (0 : Nat) ≤ _; omega)).mono ?_
  rintro e w13 ⟨rfl, hS⟩
  rw [HC.out.1, HC.out.2.1, HC.out.2.2]
  have hS14 := hS.new ((Below.refl _ w13).alloc (Nat.le_refl _) (spO zSp)) (Nat.le_refl _) (heap_alloc_new w13 (spO zSp))
  have HS14 := Lib.hid hS14
  have hd22 := cell9 (hS14.get 0 rfl)
  have hdY := cell9 (hS14.get 3 rfl)
  have hdX := cell9 (hS14.get 4 rfl)
  unfold spO at hd22 hdY hdX
  unfold spC zSp at hd22 hdY hdX ⊢
  dsimp only at hd22 hdY hdX ⊢
  clear hS hS14
  go_upto_region 25 with (fail)
  have hS15 := HS14.out.new ((Below.refl _ _).alloc (Nat.le_refl _) (spO ⟨yg, ye, yb, yl, ys, ya, yr, yc, yv⟩)) (Nat.le_refl _) (heap_alloc_new _ (spO ⟨yg, ye, yb, yl, ys, ya, yr, yc, yv⟩))
  rw [World.size_alloc] at hS15
  obtain ⟨W15, hW⟩ : ∃ W, W = (w13.alloc (spO zSp)).alloc (spO ⟨yg, ye, yb, yl, ys, ya, yr, yc, yv⟩) := ⟨_, rfl⟩
  rw [← hW] at hS15
  unfold spO spC zSp at hW
  dsimp only at hW
  rw [← hW]
  have HS15 := Lib.hid hS15
  clear hd22 hdY hdX hW
  have d25 := cell9 (hS15.get 0 rfl)
  have f25 := free9 (hS15.get 0 rfl)
  have d22 := cell9 (hS15.get 1 rfl)
  have dY := cell9 (hS15.get 4 rfl)
  have dX := cell9 (hS15.get 5 rfl)
  unfold zSp at d22
  dsimp only at d25 d22 dY dX
  clear hS15
  go_upto_region 26 with (fail)
  clear d22 dY
  go_upto_region 27 with (fail)
  have hS16 := HS15.out.upd 0 rfl (below_put9 (s := ⟨xg, xe, xb, xl, xs, xa, xr, xc, xv⟩)) (row9 (s := ⟨xg, xe, xb, xl, xs, xa, xr, xc, xv⟩) (HS15.out.get 0 rfl))
  obtain ⟨W16, hW⟩ : ∃ W, W = put9 W15 (w13.heap.size + 1) ⟨xg, xe, xb, xl, xs, xa, xr, xc, xv⟩ := ⟨_, rfl⟩
  rw [← hW] at hS16
  unfold put9 at hW
  dsimp only at hW
  rw [← hW]
  have HS16 := Lib.hid hS16
  clear d25 f25 dX hW
  have d25 := cell9 (hS16.get 0 rfl)
  have d22 := cell9 (hS16.get 1 rfl)
  unfold zSp at d22
  dsimp only at d25 d22
  clear hS16
  have hm : xg.tmod 2 = 0 := by
    have h9 := HXG.out
    rw [Int.tmod_eq_emod_of_nonneg (by omega)]; omega
  go_wp2
  go_ret
  exact ⟨rfl, HB2.out.trans (HS16.out.bl.mono HB2.out.size)⟩
end Go.Proofs.Ytggoaelbglhehaa
/- AnchorCounts: which of two blocks counts: the walk, one case of eight. -/
set_option linter.unusedVariables false
set_option linter.unusedSimpArgs false
set_option maxRecDepth 100000
namespace Go.Proofs.Ytggoaelbglhehaa
open Go.RowKit SumMath
set_option maxHeartbeats 16000000 in
theorem walkc6 (s t : Sp) (sp at_ : Int) (w : World) (hs : s.ok) (ht : t.ok) (hsp : i64B sp) (hat : i64B at_) (hc : ¬ sp = 0 ∧ ¬ sp = 1) (hgt : ¬ 2 * (t.gen % 1024) + 1 < 2 * (1 + s.gen % 1024)) :
    Calls Try.prog 5 #[.agg (spC s), .agg (spC t), .bool false, .int .i64 sp, .int .i64 at_] w fun e w' => e = .returned (.bool true) ∧ Below w.heap.size w w' := by
  have HC0 := Lib.hid hc
  have HGT := Lib.hid hgt
  clear hc hgt
  obtain ⟨q, hq0⟩ : ∃ q, q = w.heap.size := ⟨_, rfl⟩
  have HX1 := Lib.hid (show ((w.alloc (spO s)).alloc (spO t)).heap[q]? = some (spO s) by rw [hq0]; exact heap_alloc2_old w (spO s) (spO t))
  have HX2 := Lib.hid (show ((w.alloc (spO s)).alloc (spO t)).heap[q + 1]? = some (spO t) by rw [hq0, ← World.size_alloc w (spO s)]; exact heap_alloc_new (w.alloc (spO s)) (spO t))
  have HB0 := Lib.hid (((Below.refl _ w).alloc (Nat.le_refl _) (spO s)).alloc (by rw [World.size_alloc]; omega) (spO t))
  go_enter Try.func5, Try.ntmps5
  go_wp2_with fail
  refine (l11_fixed _).mono ?_
  rintro e w2 ⟨rfl, hB⟩
  have HX12 := Lib.hid ((hB.block q (lt_of_block HX1.out)).trans HX1.out)
  have HX22 := Lib.hid ((hB.block (q + 1) (lt_of_block HX2.out)).trans HX2.out)
  have HB2 := Lib.hid (HB0.out.trans (hB.mono HB0.out.size))
  clear hB HX1 HX2 HB0
  go_wp2_with fail
  refine (dv_New_ok 64 (by omega) (by omega) w2).mono ?_
  rintro e w3 ⟨rfl, hD, hB⟩
  have hV : IsV w3 (w2.heap.size + 1) w2.heap.size (.slice none 0 0) D64 := ⟨hD, ⟨PdOk.nil _, World.ownsRow_nil _ _ _ _⟩, fun k hk => by cases hk⟩
  have hS0 : St w2 w3 (w2.heap.size + 1) w2.heap.size (.slice none 0 0) D64 [] := St.of hV (fun s hs => by
    simp only [dvS, Value.ownBlock, Option.toList_none, List.mem_cons, List.not_mem_nil, or_false] at hs
    omega) hB
  obtain ⟨b, hb0⟩ : ∃ b, b = w2.heap.size + 1 := ⟨_, rfl⟩
  obtain ⟨g, hg0⟩ : ∃ g, g = w2.heap.size := ⟨_, rfl⟩
  rw [← hb0, ← hg0] at hS0
  rw [← hb0]
  have HS3 := Lib.hid hS0
  have HX13 := Lib.hid ((hB.block q (lt_of_block HX12.out)).trans HX12.out)
  have HX23 := Lib.hid ((hB.block (q + 1) (lt_of_block HX22.out)).trans HX22.out)
  have a1 : bits .and .i64 s.gen 1023 = s.gen % 1024 := i64_andm62 10 (by omega) s.gen
  obtain ⟨x, hx⟩ : ∃ x, x = s.gen % 1024 := ⟨_, rfl⟩
  have hx1 : (0 : Int) ≤ x ∧ x < 1024 := by omega
  rw [← hx] at a1
  obtain ⟨X, hX⟩ : ∃ X, X = rightS s (2 * (1 + x)) := ⟨_, rfl⟩
  have hXv : Vld X 64 := by rw [hX]; exact rightS_vld s _ (by omega)
  have hXg : X.gen = 2 * (1 + x) := by rw [hX]; rfl
  have HR1 := Lib.hid (l11_right s (2 * (1 + x)))
  rw [← hX] at HR1
  have HXV := Lib.hid hXv
  have HXG := Lib.hid hXg
  have hd := cell9 HX13.out
  rw [hq0] at hd
  have HGX := Lib.hid hx
  clear hB hV hS0 hD hX hx hXv hXg
  obtain ⟨xC, hxC⟩ : ∃ xC, xC = spC X := ⟨_, rfl⟩
  rw [← hxC] at HR1
  obtain ⟨sg, se, sb, sl, ss, sa, sr, sc, sv⟩ := s
  unfold spC at HR1 ⊢
  dsimp only at HR1 hd a1 ⊢
  go_wp2_with fail
  refine (HR1.out _).mono ?_
  rintro e w4 ⟨rfl, hB⟩
  have HX24 := Lib.hid ((hB.block (q + 1) (lt_of_block HX23.out)).trans HX23.out)
  have HX14 := Lib.hid ((hB.block q (lt_of_block HX13.out)).trans HX13.out)
  have HS4 := Lib.hid (HS3.out.below hB)
  clear hB hd HR1
  subst hxC
  have a2 : bits .and .i64 t.gen 1023 = t.gen % 1024 := i64_andm62 10 (by omega) t.gen
  obtain ⟨y, hy⟩ : ∃ y, y = t.gen % 1024 := ⟨_, rfl⟩
  have hy1 : (0 : Int) ≤ y ∧ y < 1024 := by omega
  rw [← hy] at a2
  obtain ⟨Y, hY⟩ : ∃ Y, Y = rightS t (2 * y + 1) := ⟨_, rfl⟩
  have HYV := Lib.hid (show Vld Y 64 by rw [hY]; exact rightS_vld t _ (by omega))
  have HYG := Lib.hid (show Y.gen = 2 * y + 1 by rw [hY]; rfl)
  have HR2 := Lib.hid (l11_right t (2 * y + 1))
  rw [← hY] at HR2
  have hS5 := HS4.out.new ((Below.refl _ w4).alloc (Nat.le_refl _) (spO X)) (Nat.le_refl _) (heap_alloc_new w4 (spO X))
  have HS5 := Lib.hid hS5
  have hX25 : (w4.alloc (spO X)).heap[q + 1]? = some (spO t) := (((Below.refl _ w4).alloc (Nat.le_refl _) (spO X)).block (q + 1) (lt_of_block HX24.out)).trans HX24.out
  have HX25 := Lib.hid hX25
  have hd := cell9 hX25
  rw [hq0] at hd
  have HGY := Lib.hid hy
  clear hY hy hS5 hX25
  obtain ⟨yC, hyC⟩ : ∃ yC, yC = spC Y := ⟨_, rfl⟩
  rw [← hyC] at HR2
  obtain ⟨tg, te, tb, tl, ts, ta, tr, tc, tv⟩ := t
  obtain ⟨xg, xe, xb, xl, xs, xa, xr, xc, xv⟩ := X
  unfold spO at hd
  unfold spC at HR2 hd ⊢
  dsimp only at HR2 hd a2 ⊢
  go_wp2_with fail
  refine (HR2.out _).mono ?_
  rintro e w6 ⟨rfl, hB⟩
  have hS6 := HS5.out.below hB
  have hS7 := hS6.new ((Below.refl _ w6).alloc (Nat.le_refl _) (spO Y)) (Nat.le_refl _) (heap_alloc_new w6 (spO Y))
  have HS7 := Lib.hid hS7
  have hd2 := cell9 (hS7.get 1 rfl)
  clear hB hd hS6 hS7 HR2
  subst hyC
  have HE1 := Lib.hid (an_Encode ⟨xg, xe, xb, xl, xs, xa, xr, xc, xv⟩ (vld_ok _ 64 HXV.out) (by have h := HXV.out; have e := h.blocks; dsimp only at e; subst e; exact h))
  obtain ⟨yg, ye, yb, yl, ys, ya, yr, yc, yv⟩ := Y
  unfold spO at hd2
  unfold spC at hd2 HE1 ⊢
  dsimp only at hd2 HE1 ⊢
  go_wp2_with fail
  refine (HE1.out _).mono ?_
  rintro e w8 ⟨k1, rfl, hO, hB⟩
  obtain ⟨p1, c1, o1, e1, hr1, hS8⟩ := HS7.out.newB hO hB (by omega)
  injection e1 with e1 e2 e3
  injection e1 with e1
  injection e1 with e1
  subst e1 e3
  have HS8 := Lib.hid hS8
  have HRB1 := Lib.hid hr1
  have hd3 := cell9 (hS8.get 1 rfl)
  clear hO hB hd2 hS8 hr1 HE1
  have HE2 := Lib.hid (an_Encode ⟨yg, ye, yb, yl, ys, ya, yr, yc, yv⟩ (vld_ok _ 64 HYV.out) (by have h := HYV.out; have e := h.blocks; dsimp only at e; subst e; exact h))
  unfold spC at HE2
  dsimp only at hd3 HE2
  go_wp2_with fail
  refine (HE2.out _).mono ?_
  rintro e w9 ⟨k2, rfl, hO, hB⟩
  obtain ⟨p2, c2, o2, e2, hr2, hS9⟩ := HS8.out.newB hO hB (by omega)
  injection e2 with e1 e2 e3
  injection e1 with e1
  injection e1 with e1
  subst e1 e3
  have HS9 := Lib.hid hS9
  have HRB2 := Lib.hid hr2
  clear hO hB hd3 hS9 hr2 HE2 HX12 HX13 HX14 HX22 HX23 HX24 HX25 HS3 HS4 HS5 HS7 HS8
  clear hs ht
  obtain ⟨LX, hLX⟩ : ∃ L, L = encL ⟨xg, xe, xb, xl, xs, xa, xr, xc, xv⟩ := ⟨_, rfl⟩
  obtain ⟨LY, hLY⟩ : ∃ L, L = encL ⟨yg, ye, yb, yl, ys, ya, yr, yc, yv⟩ := ⟨_, rfl⟩
  have HLX := Lib.hid (show LX.length = 512 by rw [hLX, encL_len])
  have HLY := Lib.hid (show LY.length = 512 by rw [hLY, encL_len])
  have HXP := Lib.hid (show ∀ a, cP ⟨xg, xe, xb, xl, xs, xa, xr, xc, xv⟩ true a = flipL LX a ∧ cP ⟨xg, xe, xb, xl, xs, xa, xr, xc, xv⟩ false a = LX from fun a => by rw [hLX]; exact ⟨rfl, rfl⟩)
  have HYP := Lib.hid (show ∀ a, cP ⟨yg, ye, yb, yl, ys, ya, yr, yc, yv⟩ true a = flipL LY a ∧ cP ⟨yg, ye, yb, yl, ys, ya, yr, yc, yv⟩ false a = LY from fun a => by rw [hLY]; exact ⟨rfl, rfl⟩)
  rw [← hLX] at HRB1
  rw [← hLY] at HRB2
  clear hLX hLY
  have a3 : bits .and .i64 at_ 511 = at_ % 512 := i64_andm62 9 (by omega) at_
  obtain ⟨a, ha⟩ : ∃ a : Nat, (a : Int) = at_ % 512 := ⟨(at_ % 512).toNat, by omega⟩
  rw [← ha] at a3
  have ha1 : a < 512 := by omega
  clear ha
  subst hb0 hg0
  have hsp0 := HC0.out.1
  have hsp1 := HC0.out.2
  have hb0 : (sp == 0) = false := by simp [hsp0]
  have hb1 : (sp == 1) = false := by simp [hsp1]
  have hgt : ¬ yg < xg := by
    have h1 := HGT.out; have h2 := HXG.out; have h3 := HYG.out; have h4 := HGX.out; have h5 := HGY.out
    (try dsimp only at h1); (try dsimp only at h2); (try dsimp only at h3); (try dsimp only at h4); (try dsimp only at h5)
    omega
  have HP1 := Lib.hid (show RowB o1 512 512 (cP ⟨xg, xe, xb, xl, xs, xa, xr, xc, xv⟩ false a) from by rw [(HXP.out a).2]; exact HRB1.out)
  have HP2 := Lib.hid (show RowB o2 512 512 (cP ⟨yg, ye, yb, yl, ys, ya, yr, yc, yv⟩ false a) from by rw [(HYP.out a).2]; exact HRB2.out)
  have HED := Lib.hid (show (edD D64 0 0 (cP ⟨xg, xe, xb, xl, xs, xa, xr, xc, xv⟩ false a)).1 = 0 ∧ (edD (edD D64 0 0 (cP ⟨xg, xe, xb, xl, xs, xa, xr, xc, xv⟩ false a)).2 1 0 (cP ⟨yg, ye, yb, yl, ys, ya, yr, yc, yv⟩ false a)).1 = 0 ∧ D2 0 (cP ⟨xg, xe, xb, xl, xs, xa, xr, xc, xv⟩ false a) (cP ⟨yg, ye, yb, yl, ys, ya, yr, yc, yv⟩ false a) = { D64 with M := splice (splice D64.M (0 * 512) (cP ⟨xg, xe, xb, xl, xs, xa, xr, xc, xv⟩ false a)) ((1 - 0) * 512) (cP ⟨yg, ye, yb, yl, ys, ya, yr, yc, yv⟩ false a) } from D2_eq 0 _ _ (by omega) (cP_len _ _ _) (cP_len _ _ _))
  have HC := Lib.hid (show (anR (D2 0 (cP ⟨xg, xe, xb, xl, xs, xa, xr, xc, xv⟩ false a) (cP ⟨yg, ye, yb, yl, ys, ya, yr, yc, yv⟩ false a))).1 = ⟨yg, ye, yb, yl, ys, ya, yr, yc, yv⟩ ∧ (anR (D2 0 (cP ⟨xg, xe, xb, xl, xs, xa, xr, xc, xv⟩ false a) (cP ⟨yg, ye, yb, yl, ys, ya, yr, yc, yv⟩ false a))).2.1 = 1 ∧ (anR (D2 0 (cP ⟨xg, xe, xb, xl, xs, xa, xr, xc, xv⟩ false a) (cP ⟨yg, ye, yb, yl, ys, ya, yr, yc, yv⟩ false a))).2.2.1 = 0 from by
    have h := counts_straight ⟨xg, xe, xb, xl, xs, xa, xr, xc, xv⟩ ⟨yg, ye, yb, yl, ys, ya, yr, yc, yv⟩ HXV.out HYV.out (by have h9 := HXG.out; show xg % 2 = 0; omega) (by have h9 := HYG.out; show yg % 2 = 1; omega) sp a ha1
    rw [decide_eq_false hsp0, decide_eq_false hsp1] at h
    rw [show cWant ⟨xg, xe, xb, xl, xs, xa, xr, xc, xv⟩ ⟨yg, ye, yb, yl, ys, ya, yr, yc, yv⟩ sp = ⟨yg, ye, yb, yl, ys, ya, yr, yc, yv⟩ from by unfold cWant; rw [if_neg (fun h => h.elim hsp1 (fun h => hgt h.2))], show Sp.gen ⟨yg, ye, yb, yl, ys, ya, yr, yc, yv⟩ % 2 = 1 by have h9 := HYG.out; show yg % 2 = 1; omega] at h
    exact h)
  obtain ⟨P, hP⟩ : ∃ P, P = (cP ⟨xg, xe, xb, xl, xs, xa, xr, xc, xv⟩ false a) := ⟨_, rfl⟩
  obtain ⟨Q, hQ⟩ : ∃ Q, Q = (cP ⟨yg, ye, yb, yl, ys, ya, yr, yc, yv⟩ false a) := ⟨_, rfl⟩
  rw [← hP, ← hQ] at HED HC
  rw [← hP] at HP1
  rw [← hQ] at HP2
  clear hP hQ
  go_wp2_with fail
  refine (st_EditG 0 0 (some ⟨k1, 0, none⟩) 512 512 P HS9.out (HS9.out.rd 1 rfl HP1.out (by omega)) (by omega)).mono ?_
  rintro e w11 ⟨rfl, hS⟩
  rw [HED.out.1]
  have HS11 := Lib.hid hS
  clear hS
  go_wp2_with fail
  refine (st_EditG 1 0 (some ⟨k2, 0, none⟩) 512 512 Q HS11.out (HS11.out.rd 0 rfl HP2.out (by omega)) (by omega)).mono ?_
  rintro e w12 ⟨rfl, hS⟩
  rw [HED.out.2.1]
  have HS12 := Lib.hid (show St w2 w12 _ _ _ (D2 0 P Q) _ from hS)
  clear hS
  go_wp2_with fail
  refine (st_anRead HS12.out (by rw [HED.out.2.2]; show (0 : Nat) < _; omega) (by rw [HED.out.2.2]; show (0 : Nat) ≤ _; omega)).mono ?_
  rintro e w13 ⟨rfl, hS⟩
  rw [HC.out.1, HC.out.2.1, HC.out.2.2]
  have hS14 := hS.new ((Below.refl _ w13).alloc (Nat.le_refl _) (spO ⟨yg, ye, yb, yl, ys, ya, yr, yc, yv⟩)) (Nat.le_refl _) (heap_alloc_new w13 (spO ⟨yg, ye, yb, yl, ys, ya, yr, yc, yv⟩))
  have HS14 := Lib.hid hS14
  have hd22 := cell9 (hS14.get 0 rfl)
  have hdY := cell9 (hS14.get 3 rfl)
  have hdX := cell9 (hS14.get 4 rfl)
  unfold spO at hd22 hdY hdX
  unfold spC at hd22 hdY hdX ⊢
  dsimp only at hd22 hdY hdX ⊢
  clear hS hS14
  go_upto_region 25 with (fail)
  have hS15 := HS14.out.new ((Below.refl _ _).alloc (Nat.le_refl _) (spO ⟨yg, ye, yb, yl, ys, ya, yr, yc, yv⟩)) (Nat.le_refl _) (heap_alloc_new _ (spO ⟨yg, ye, yb, yl, ys, ya, yr, yc, yv⟩))
  rw [World.size_alloc] at hS15
  obtain ⟨W15, hW⟩ : ∃ W, W = (w13.alloc (spO ⟨yg, ye, yb, yl, ys, ya, yr, yc, yv⟩)).alloc (spO ⟨yg, ye, yb, yl, ys, ya, yr, yc, yv⟩) := ⟨_, rfl⟩
  rw [← hW] at hS15
  unfold spO spC at hW
  dsimp only at hW
  rw [← hW]
  have HS15 := Lib.hid hS15
  clear hd22 hdY hdX hW
  have d25 := cell9 (hS15.get 0 rfl)
  have f25 := free9 (hS15.get 0 rfl)
  have d22 := cell9 (hS15.get 1 rfl)
  have dY := cell9 (hS15.get 4 rfl)
  have dX := cell9 (hS15.get 5 rfl)
  dsimp only at d25 d22 dY dX
  clear hS15
  have hm : yg.tmod 2 = 1 := by
    have h9 := HYG.out
    rw [Int.tmod_eq_emod_of_nonneg (by omega)]; omega
  go_wp2
  go_ret
  exact ⟨rfl, HB2.out.trans (HS15.out.bl.mono HB2.out.size)⟩
end Go.Proofs.Ytggoaelbglhehaa
