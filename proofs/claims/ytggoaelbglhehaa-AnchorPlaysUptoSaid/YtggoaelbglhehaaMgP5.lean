/- AnchorPlays: the walk. -/
import Derived.Test.YtggoaelbglhehaaMgP4
import Derived.Test.YtggoaelbglhehaaMgA12
import Derived.Deep.Slices
import Derived.SizedLaws
import Derived.ChangeSlices
import Derived.ProofKit
import Derived.OpenShut
import Derived.Test.YtggoaelbglhehaaRows
import Derived.Deep.SlicePairs
import Derived.JoinedCond
/- AnchorPlays: the walk. -/
set_option linter.unusedVariables false
set_option linter.unusedSimpArgs false
set_option maxRecDepth 100000
namespace Go.Proofs.Ytggoaelbglhehaa
open Go.RowKit SumMath
set_option maxHeartbeats 16000000 in
theorem walk_AnchorPlays (blocks : Int) (A : Option Addr) (n c : Nat) (l : List OpA) (w : World) (hbk : -9223372036854775808 ≤ blocks ∧ blocks < 9223372036854775808) (hr : RdOpA w A n c l) (hz : n ≤ 1048576) :
    Calls Try.prog 6 #[.int .i64 blocks, .slice A n c] w fun e w' => e = .returned (.bool true) ∧ Below w.heap.size w w' := by
  have HR0 := Lib.hid hr
  clear hr
  have a1 : bits .and .i64 blocks 255 = blocks % 256 := i64_andm62 8 (by omega) blocks
  obtain ⟨N, hN⟩ : ∃ N : Nat, (N : Int) = 64 + blocks % 256 := ⟨(64 + blocks % 256).toNat, by omega⟩
  have hN1 : 64 ≤ N ∧ N ≤ 319 := by omega
  rw [show blocks % 256 = (N : Int) - 64 by omega] at a1
  have hw0 : IntKind.i64.wrap (64 + ((N : Int) - 64)) = (N : Int) := by rw [show 64 + ((N : Int) - 64) = (N : Int) by omega]; exact IntWalk.i64_in _ (by omega)
  clear hN hbk
  go_enter Try.func6, Try.ntmps6
  go_wp2_with fail
  refine (l11_fixed _).mono ?_
  rintro e w2 ⟨rfl, hB⟩
  have HB2 := Lib.hid hB
  have HRO := Lib.hid (HR0.out.ext hB)
  clear hB HR0
  go_wp2_with fail
  refine (dv_New_ok N hN1.1 (by omega) w2).mono ?_
  rintro e w3 ⟨rfl, hD, hB⟩
  have hV : IsV w3 (w2.heap.size + 1) w2.heap.size (.slice none 0 0) (newD N) := ⟨hD, ⟨PdOk.nil _, World.ownsRow_nil _ _ _ _⟩, fun k hk => by cases hk⟩
  have hS0 : St w2 w3 (w2.heap.size + 1) w2.heap.size (.slice none 0 0) (newD N) [] := St.of hV (fun s hs => by
    simp only [dvS, Value.ownBlock, Option.toList_none, List.mem_cons, List.not_mem_nil, or_false] at hs
    omega) hB
  have HS0 := Lib.hid hS0
  clear hB hV hS0 hD
  go_wp2_with fail
  refine (rf_New_ok N hN1.1 (by omega) w3).mono ?_
  rintro e w4 ⟨rfl, hw4⟩
  obtain ⟨r, hr⟩ : ∃ r, r = w3.heap.size := ⟨_, rfl⟩
  obtain ⟨H0, hH0⟩ : ∃ H0, H0 = newRf N r ⟨hN1.1, by omega⟩ := ⟨_, rfl⟩
  have HLL0 := Lib.hid (show H0.L.length + H0.C.length ≤ 0 by rw [hH0]; exact Nat.le_refl _)
  have hS1 : St w2 w4 (w2.heap.size + 1) w2.heap.size (.slice none 0 0) (newD N) (H0.rows ++ []) := by
    rw [hw4, hH0, hr]
    exact HS0.out.new ((Below.refl _ w3).alloc (Nat.le_refl _) _) (Nat.le_refl _) (heap_alloc_new w3 _)
  have HS1 := Lib.hid hS1
  have HNL := Lib.hid (show (newD N).le 0 from ⟨by show (0 : Nat) < _; omega, Nat.le_refl _, Nat.le_refl _, Nat.le_refl _, Nat.le_refl _⟩)
  rw [← hr]
  clear hS1 hw4 hH0 HS0 hr a1 hw0
  go_upto_region 8 with (fail)
  go_loopg [10, 11, 12, 13, 14, 15, 16, 17, 18, 19, 20, 21, 22, 23, 24, 25, 62, 75, 85, 97, 117] n (fun k x _ _ _ _ _ _ _ _ _ _ _ _ _ _ _ _ _ _ _ _ wx => ∃ i : Nat, ∃ v D, ∃ h : RfOk r D, k + i = n ∧ x = .int .i64 i ∧ D.le (10 * i) ∧ h.L.length + h.C.length ≤ 2 * i ∧ St w2 wx (w2.heap.size + 1) w2.heap.size v D (h.rows ++ []))
  case atStart => exact ⟨0, _, _, H0, by omega, rfl, HNL.out, HLL0.out, HS1.out⟩
  case round =>
    obtain ⟨i, v, D, h, hk, rfl, hle, hll, hS⟩ := hrel
    have HS := Lib.hid hS
    have HLE := Lib.hid hle
    have HLL := Lib.hid hll
    have hin0 : i ≤ n := by omega
    have HK := Lib.hid hk
    clear hS hle hll HS1 hk HNL HLL0
    by_cases hin : i < n
    · obtain ⟨bb, oo, rfl, hca⟩ := HRO.out.at_ (by omega)
      have hii : (0 : Int) ≤ (i : Int) ∧ (i : Int) < (n : Int) := by omega
      have hop := hca i hin
      obtain ⟨x, hx⟩ : ∃ x, x = l.getD i default := ⟨_, rfl⟩
      rw [← hx] at hop
      clear hca hx
      obtain ⟨kd, ⟨sg, se, sb, sl, ss, sa, sr, sc, sv⟩, num, at_, B, F⟩ := x
      obtain ⟨hok, y0, y1, y2, y3, y4, y5, y6, y7, y8, y9, y10, y11, ⟨A12, n12, c12, y12, hr12⟩, ⟨A13, n13, c13, y13, hr13⟩⟩ := hop
      dsimp only at y0 y1 y2 y3 y4 y5 y6 y7 y8 y9 y10 y11 y12 y13 hr12 hr13
      have z0 := cell_ext HS.out.bl y0
      have z1 := cell_ext HS.out.bl y1
      have z2 := cell_ext HS.out.bl y2
      have z3 := cell_ext HS.out.bl y3
      have z4 := cell_ext HS.out.bl y4
      have z5 := cell_ext HS.out.bl y5
      have z6 := cell_ext HS.out.bl y6
      have z7 := cell_ext HS.out.bl y7
      have z8 := cell_ext HS.out.bl y8
      have z9 := cell_ext HS.out.bl y9
      have z10 := cell_ext HS.out.bl y10
      have z11 := cell_ext HS.out.bl y11
      have z12 := cell_ext HS.out.bl y12
      have z13 := cell_ext HS.out.bl y13
      clear y0 y1 y2 y3 y4 y5 y6 y7 y8 y9 y10 y11 y12 y13
      have HRB := Lib.hid hr12
      have HRF := Lib.hid hr13
      have HOK := Lib.hid hok
      clear hok hr12 hr13
      go_upto_region 11 with (fail)
      have hS8 := (HS.out.new ((Below.refl _ wr).alloc (Nat.le_refl _) (.cells (opaC kd ⟨sg, se, sb, sl, ss, sa, sr, sc, sv⟩ num at_ (.slice A12 n12 c12) (.slice A13 n13 c13)) 55)) (Nat.le_refl _) (heap_alloc_new wr _)).inT
      obtain ⟨W8, hW8⟩ : ∃ W, W = wr.alloc (.cells (opaC kd ⟨sg, se, sb, sl, ss, sa, sr, sc, sv⟩ num at_ (.slice A12 n12 c12) (.slice A13 n13 c13)) 55) := ⟨_, rfl⟩
      rw [← hW8] at hS8
      unfold opaC at hW8
      dsimp only at hW8
      rw [← hW8]
      obtain ⟨q8, hq8⟩ : ∃ q, q = wr.heap.size := ⟨_, rfl⟩
      rw [← hq8] at hS8 ⊢
      have HS8 := Lib.hid hS8
      have HC8 := Lib.hid (show ∀ (W : World) (v' : Value) (D' : DS) (X : List (Nat × Obj)), St w2 W (w2.heap.size + 1) w2.heap.size v' D' X → (q8, .cells (opaC kd ⟨sg, se, sb, sl, ss, sa, sr, sc, sv⟩ num at_ (.slice A12 n12 c12) (.slice A13 n13 c13)) 55) ∈ X → _ from fun W v' D' X h h1 => cell14 (h.mem h1))
      have d8 := HC8.out _ _ _ _ hS8 (by simp)
      dsimp only at d8
      clear hS8 hW8 hq8 z0 z1 z2 z3 z4 z5 z6 z7 z8 z9 z10 z11 z12 z13 HS
      by_cases k1 : kd = 1
      · subst k1
        have HW := Lib.hid (st_anWrite ⟨sg, se, sb, sl, ss, sa, sr, sc, sv⟩ HOK.out.s HS8.out HLE.out.left (by have := HLE.out.ca; omega) (by have := HLE.out.wr; omega) (by have := HLE.out.fl; omega))
        have HRW := Lib.hid (fun (W : World) (v' : Value) (D' : DS) (T' : List (Nat × Obj)) (hS : St w2 W (w2.heap.size + 1) w2.heap.size v' D' (h.rows ++ T')) => rf_anWrite ⟨sg, se, sb, sl, ss, sa, sr, sc, sv⟩ HOK.out.s h hS HLE.out.left (by have := HLE.out.wr; omega) (by have := HLE.out.fl; omega) (by have := HLE.out.ca; omega) (by have := HLL.out; omega) (by have := HLL.out; omega))
        have HLW := Lib.hid (anW_le2 HLE.out ⟨sg, se, sb, sl, ss, sa, sr, sc, sv⟩)
        obtain ⟨E, hE⟩ : ∃ E, E = (anW D ⟨sg, se, sb, sl, ss, sa, sr, sc, sv⟩).1 := ⟨_, rfl⟩
        obtain ⟨Da, hDa⟩ : ∃ Da, Da = (anW D ⟨sg, se, sb, sl, ss, sa, sr, sc, sv⟩).2 := ⟨_, rfl⟩
        rw [← hE, ← hDa] at HW HRW
        rw [← hDa] at HLW
        clear hE hDa
        unfold spC at HW HRW
        dsimp only at HW HRW
        go_wp2_with fail
        refine HW.out.mono ?_
        rintro e w12 ⟨rfl, va, hS⟩
        have HS12 := Lib.hid hS
        clear d8
        have d8 := HC8.out _ _ _ _ hS (by simp)
        (try dsimp only at d8)
        clear hS HW
        go_wp2_with fail
        refine (HRW.out _ _ _ _ HS12.out).mono ?_
        rintro e w13 ⟨rfl, ha, hlc, hS⟩
        have HSa := Lib.hid hS
        have HLa := Lib.hid (HLW.out.mono9 (show 10 * i + 2 ≤ 10 * i + 4 by omega))
        have HHa := Lib.hid (show ha.L.length + ha.C.length ≤ 2 * i + 2 by have := HLL.out; omega)
        clear hS hlc HS12 HRW d8 HS8 HLW
        have HRD := Lib.hid (st_anRead HSa.out (by have := HLa.out.rd; omega) (by have := HLa.out.ca; omega))
        have HRE := Lib.hid (fun (W : World) (v' : Value) (D' : DS) (T' : List (Nat × Obj)) (hS : St w2 W (w2.heap.size + 1) w2.heap.size v' D' (ha.rows ++ T')) => rf_anRead ha hS (by have := HLa.out.rd; omega) (by have := HHa.out; omega) (by have := HHa.out; omega))
        have HLb := Lib.hid (anR_le HLa.out)
        obtain ⟨Z, hZ⟩ : ∃ Z, Z = (anR Da).1 := ⟨_, rfl⟩
        obtain ⟨zn, hzn⟩ : ∃ zn, zn = (anR Da).2.1 := ⟨_, rfl⟩
        obtain ⟨zk, hzk⟩ : ∃ zk, zk = (anR Da).2.2.1 := ⟨_, rfl⟩
        rw [← hZ, ← hzn, ← hzk] at HRD HRE
        clear hZ hzn hzk
        obtain ⟨zg, ze, zb, zl, zs, za, zr, zc, zv⟩ := Z
        unfold spC at HRD HRE
        dsimp only at HRD HRE
        go_wp2_with fail
        refine HRD.out.mono ?_
        rintro e w21 ⟨rfl, hS⟩
        have HS22 := Lib.hid (hS.new ((Below.refl _ w21).alloc (Nat.le_refl _) (spO ⟨zg, ze, zb, zl, zs, za, zr, zc, zv⟩)) (Nat.le_refl _) (heap_alloc_new w21 (spO ⟨zg, ze, zb, zl, zs, za, zr, zc, zv⟩))).inT
        clear hS
        go_wp2_with fail
        refine (HRE.out _ _ _ _ HS22.out).mono ?_
        rintro e w23 ⟨rfl, hb, hlb, hS⟩
        have HHb := Lib.hid (show hb.L.length + hb.C.length ≤ 2 * i + 2 by have := HHa.out; omega)
        have HS24 := Lib.hid (hS.new ((Below.refl _ w23).alloc (Nat.le_refl _) (spO ⟨zg, ze, zb, zl, zs, za, zr, zc, zv⟩)) (Nat.le_refl _) (heap_alloc_new w23 (spO ⟨zg, ze, zb, zl, zs, za, zr, zc, zv⟩))).inT
        obtain ⟨crd, hcrd⟩ : ∃ x : Nat, x = (anR Da).2.2.2.rd := ⟨_, rfl⟩
        obtain ⟨cwr, hcwr⟩ : ∃ x : Nat, x = (anR Da).2.2.2.wr := ⟨_, rfl⟩
        obtain ⟨cfl, hcfl⟩ : ∃ x : Nat, x = (anR Da).2.2.2.fl := ⟨_, rfl⟩
        have HCV := Lib.hid (show cntV (anR Da).2.2.2 = .agg #[.int .i64 crd, .int .i64 cwr, .int .i64 cfl] by rw [hcrd, hcwr, hcfl]; rfl)
        clear hS hlb HS22 HRD HRE hcrd hcwr hcfl
        go_wp2_with fail
        refine (st_CountsG HS24.out).mono ?_
        rintro e w25 ⟨rfl, hS⟩
        rw [HCV.out]
        have HS26 := Lib.hid (hS.new ((Below.refl _ w25).alloc (Nat.le_refl _) (.cells #[.int .i64 crd, .int .i64 cwr, .int .i64 cfl] 63)) (Nat.le_refl _) (heap_alloc_new w25 (.cells #[.int .i64 crd, .int .i64 cwr, .int .i64 cfl] 63))).inT
        clear hS HS24
        go_wp2_with fail
        refine (rf_CountsG hb HS26.out).mono ?_
        rintro e w27 ⟨rfl, hS⟩
        rw [HCV.out]
        have hS28 := (hS.new ((Below.refl _ w27).alloc (Nat.le_refl _) (.cells #[.int .i64 crd, .int .i64 cwr, .int .i64 cfl] 63)) (Nat.le_refl _) (heap_alloc_new w27 (.cells #[.int .i64 crd, .int .i64 cwr, .int .i64 cfl] 63))).inT
        obtain ⟨W28, hW28⟩ : ∃ W, W = w27.alloc (.cells #[.int .i64 crd, .int .i64 cwr, .int .i64 cfl] 63) := ⟨_, rfl⟩
        rw [← hW28] at hS28
        have HS28 := Lib.hid hS28
        clear hS HS26 hS28
        go_upto_region 35 with (fail)
        rw [← hW28]
        have d21 := cell9 (HS28.out.mem (show (w21.heap.size, spO ⟨zg, ze, zb, zl, zs, za, zr, zc, zv⟩) ∈ _ by simp))
        have d23 := cell9 (HS28.out.mem (show (w23.heap.size, spO ⟨zg, ze, zb, zl, zs, za, zr, zc, zv⟩) ∈ _ by simp))
        have d25 := cell3 (HS28.out.mem (show (w25.heap.size, Obj.cells #[.int .i64 crd, .int .i64 cwr, .int .i64 cfl] 63) ∈ _ by simp))
        have d27 := cell3 (HS28.out.mem (show (w27.heap.size, Obj.cells #[.int .i64 crd, .int .i64 cwr, .int .i64 cfl] 63) ∈ _ by simp))
        dsimp only at d21 d23
        clear hW28
        go_wp2
        go_roundg (n - (i + 1))
        case measure => have := HK.out; omega
        case rel => exact ⟨i + 1, _, _, hb, by omega, by go_num, HLb.out.mono9 (by omega), by have := HHb.out; omega, HS28.out.sub (List.Sublist.append (List.Sublist.refl _) (List.nil_sublist _))⟩
      by_cases k3 : kd = 3
      · subst k3
        go_wp2_with fail
        refine (st_Arm num HS8.out).mono ?_
        rintro e w12 ⟨rfl, hS⟩
        have HS12 := Lib.hid hS
        clear d8
        have d8 := HC8.out _ _ _ _ hS (by simp)
        (try dsimp only at d8)
        clear hS
        go_wp2_with fail
        refine (rf_Arm num h HS12.out).mono ?_
        rintro e w13 ⟨rfl, ha, hlc, hS⟩
        have HSa := Lib.hid hS
        have HLa := Lib.hid ((armD_le HLE.out num HOK.out.num.2).mono9 (show 10 * i ≤ 10 * i + 4 by omega))
        have HHa := Lib.hid (show ha.L.length + ha.C.length ≤ 2 * i + 2 by rw [hlc.1, hlc.2]; have := HLL.out; omega)
        clear hS hlc HS12 d8 HS8
        have HRD := Lib.hid (st_anRead HSa.out (by have := HLa.out.rd; omega) (by have := HLa.out.ca; omega))
        have HRE := Lib.hid (fun (W : World) (v' : Value) (D' : DS) (T' : List (Nat × Obj)) (hS : St w2 W (w2.heap.size + 1) w2.heap.size v' D' (ha.rows ++ T')) => rf_anRead ha hS (by have := HLa.out.rd; omega) (by have := HHa.out; omega) (by have := HHa.out; omega))
        have HLb := Lib.hid (anR_le HLa.out)
        obtain ⟨Z, hZ⟩ : ∃ Z, Z = (anR (armD D num).2).1 := ⟨_, rfl⟩
        obtain ⟨zn, hzn⟩ : ∃ zn, zn = (anR (armD D num).2).2.1 := ⟨_, rfl⟩
        obtain ⟨zk, hzk⟩ : ∃ zk, zk = (anR (armD D num).2).2.2.1 := ⟨_, rfl⟩
        rw [← hZ, ← hzn, ← hzk] at HRD HRE
        clear hZ hzn hzk
        obtain ⟨zg, ze, zb, zl, zs, za, zr, zc, zv⟩ := Z
        unfold spC at HRD HRE
        dsimp only at HRD HRE
        go_wp2_with fail
        refine HRD.out.mono ?_
        rintro e w21 ⟨rfl, hS⟩
        have HS22 := Lib.hid (hS.new ((Below.refl _ w21).alloc (Nat.le_refl _) (spO ⟨zg, ze, zb, zl, zs, za, zr, zc, zv⟩)) (Nat.le_refl _) (heap_alloc_new w21 (spO ⟨zg, ze, zb, zl, zs, za, zr, zc, zv⟩))).inT
        clear hS
        go_wp2_with fail
        refine (HRE.out _ _ _ _ HS22.out).mono ?_
        rintro e w23 ⟨rfl, hb, hlb, hS⟩
        have HHb := Lib.hid (show hb.L.length + hb.C.length ≤ 2 * i + 2 by have := HHa.out; omega)
        have HS24 := Lib.hid (hS.new ((Below.refl _ w23).alloc (Nat.le_refl _) (spO ⟨zg, ze, zb, zl, zs, za, zr, zc, zv⟩)) (Nat.le_refl _) (heap_alloc_new w23 (spO ⟨zg, ze, zb, zl, zs, za, zr, zc, zv⟩))).inT
        obtain ⟨crd, hcrd⟩ : ∃ x : Nat, x = (anR (armD D num).2).2.2.2.rd := ⟨_, rfl⟩
        obtain ⟨cwr, hcwr⟩ : ∃ x : Nat, x = (anR (armD D num).2).2.2.2.wr := ⟨_, rfl⟩
        obtain ⟨cfl, hcfl⟩ : ∃ x : Nat, x = (anR (armD D num).2).2.2.2.fl := ⟨_, rfl⟩
        have HCV := Lib.hid (show cntV (anR (armD D num).2).2.2.2 = .agg #[.int .i64 crd, .int .i64 cwr, .int .i64 cfl] by rw [hcrd, hcwr, hcfl]; rfl)
        clear hS hlb HS22 HRD HRE hcrd hcwr hcfl
        go_wp2_with fail
        refine (st_CountsG HS24.out).mono ?_
        rintro e w25 ⟨rfl, hS⟩
        rw [HCV.out]
        have HS26 := Lib.hid (hS.new ((Below.refl _ w25).alloc (Nat.le_refl _) (.cells #[.int .i64 crd, .int .i64 cwr, .int .i64 cfl] 63)) (Nat.le_refl _) (heap_alloc_new w25 (.cells #[.int .i64 crd, .int .i64 cwr, .int .i64 cfl] 63))).inT
        clear hS HS24
        go_wp2_with fail
        refine (rf_CountsG hb HS26.out).mono ?_
        rintro e w27 ⟨rfl, hS⟩
        rw [HCV.out]
        have hS28 := (hS.new ((Below.refl _ w27).alloc (Nat.le_refl _) (.cells #[.int .i64 crd, .int .i64 cwr, .int .i64 cfl] 63)) (Nat.le_refl _) (heap_alloc_new w27 (.cells #[.int .i64 crd, .int .i64 cwr, .int .i64 cfl] 63))).inT
        obtain ⟨W28, hW28⟩ : ∃ W, W = w27.alloc (.cells #[.int .i64 crd, .int .i64 cwr, .int .i64 cfl] 63) := ⟨_, rfl⟩
        rw [← hW28] at hS28
        have HS28 := Lib.hid hS28
        clear hS HS26 hS28
        go_upto_region 35 with (fail)
        rw [← hW28]
        have d21 := cell9 (HS28.out.mem (show (w21.heap.size, spO ⟨zg, ze, zb, zl, zs, za, zr, zc, zv⟩) ∈ _ by simp))
        have d23 := cell9 (HS28.out.mem (show (w23.heap.size, spO ⟨zg, ze, zb, zl, zs, za, zr, zc, zv⟩) ∈ _ by simp))
        have d25 := cell3 (HS28.out.mem (show (w25.heap.size, Obj.cells #[.int .i64 crd, .int .i64 cwr, .int .i64 cfl] 63) ∈ _ by simp))
        have d27 := cell3 (HS28.out.mem (show (w27.heap.size, Obj.cells #[.int .i64 crd, .int .i64 cwr, .int .i64 cfl] 63) ∈ _ by simp))
        dsimp only at d21 d23
        clear hW28
        go_wp2
        go_roundg (n - (i + 1))
        case measure => have := HK.out; omega
        case rel => exact ⟨i + 1, _, _, hb, by omega, by go_num, HLb.out.mono9 (by omega), by have := HHb.out; omega, HS28.out.sub (List.Sublist.append (List.Sublist.refl _) (List.nil_sublist _))⟩
      by_cases k4 : kd = 4
      · subst k4
        have hFn : n13 ≤ 8796093022207 := by have := HOK.out.F; have h9 := HRF.out.len; (try dsimp only at this); omega
        go_wp2_with fail
        refine (l11_ownFates _ A13 n13 c13 F (HRF.out.ext HS8.out.bl) hFn).mono ?_
        rintro e w14 ⟨u14, rfl, hO, hB⟩
        obtain ⟨A14, c14, rfl, hR14, hx14⟩ := hO.rd (by omega)
        have HCR := Lib.hid (st_Crash n13 c14 A14 F (HS8.out.below hB) (by have := HLE.out.ca; omega) hR14 (fun _ p hp hm => by have h1 := hx14 p hp; have h2 := HS8.out.dv.lt _ hm; omega))
        clear hO hB hR14 hx14
        go_wp2_with fail
        refine HCR.out.mono ?_
        rintro e w15 ⟨rfl, va, hS⟩
        have HS15 := Lib.hid hS
        clear d8
        have d8 := HC8.out _ _ _ _ hS (by simp)
        (try dsimp only at d8)
        clear hS HCR HS8
        go_wp2_with fail
        refine (l11_ownFates _ A13 n13 c13 F (HRF.out.ext HS15.out.bl) hFn).mono ?_
        rintro e w16 ⟨u16, rfl, hO, hB⟩
        obtain ⟨A16, c16, rfl, hR16, hx16⟩ := hO.rd (by omega)
        obtain ⟨R16, hr16, -, hS⟩ := HS15.out.newF hR16 hB hx16
        have HS16 := Lib.hid (assocT hS)
        have HCR := Lib.hid (rf_Crash A16 n13 c16 F h HS16.out (fun W _ hW => hr16 W (fun p hp => hW p (by simp [hp]))) (by have := HLL.out; omega) (by have := HLL.out; omega))
        clear hO hB hR16 hx16 hS hr16
        go_wp2_with fail
        refine HCR.out.mono ?_
        rintro e w17 ⟨rfl, ha, hla, hca, hS⟩
        have HSa := Lib.hid (hS.sub (R' := ha.rows ++ [(q8, .cells (opaC 4 ⟨sg, se, sb, sl, ss, sa, sr, sc, sv⟩ num at_ (.slice A12 n12 c12) (.slice A13 n13 c13)) 55)]) (List.Sublist.append (List.Sublist.refl _) (List.sublist_append_left _ _)))
        have HLa := Lib.hid ((crD_le9 HLE.out F).mono9 (show 10 * i ≤ 10 * i + 4 by omega))
        have HHa := Lib.hid (show ha.L.length + ha.C.length ≤ 2 * i + 2 by rw [hca]; have := HLL.out; simp only [List.length_nil]; omega)
        clear hS hla hca HS16 HS15 d8 HCR
        have HRD := Lib.hid (st_anRead HSa.out (by have := HLa.out.rd; omega) (by have := HLa.out.ca; omega))
        have HRE := Lib.hid (fun (W : World) (v' : Value) (D' : DS) (T' : List (Nat × Obj)) (hS : St w2 W (w2.heap.size + 1) w2.heap.size v' D' (ha.rows ++ T')) => rf_anRead ha hS (by have := HLa.out.rd; omega) (by have := HHa.out; omega) (by have := HHa.out; omega))
        have HLb := Lib.hid (anR_le HLa.out)
        obtain ⟨Z, hZ⟩ : ∃ Z, Z = (anR (crD D F)).1 := ⟨_, rfl⟩
        obtain ⟨zn, hzn⟩ : ∃ zn, zn = (anR (crD D F)).2.1 := ⟨_, rfl⟩
        obtain ⟨zk, hzk⟩ : ∃ zk, zk = (anR (crD D F)).2.2.1 := ⟨_, rfl⟩
        rw [← hZ, ← hzn, ← hzk] at HRD HRE
        clear hZ hzn hzk
        obtain ⟨zg, ze, zb, zl, zs, za, zr, zc, zv⟩ := Z
        unfold spC at HRD HRE
        dsimp only at HRD HRE
        go_wp2_with fail
        refine HRD.out.mono ?_
        rintro e w21 ⟨rfl, hS⟩
        have HS22 := Lib.hid (hS.new ((Below.refl _ w21).alloc (Nat.le_refl _) (spO ⟨zg, ze, zb, zl, zs, za, zr, zc, zv⟩)) (Nat.le_refl _) (heap_alloc_new w21 (spO ⟨zg, ze, zb, zl, zs, za, zr, zc, zv⟩))).inT
        clear hS
        go_wp2_with fail
        refine (HRE.out _ _ _ _ HS22.out).mono ?_
        rintro e w23 ⟨rfl, hb, hlb, hS⟩
        have HHb := Lib.hid (show hb.L.length + hb.C.length ≤ 2 * i + 2 by have := HHa.out; omega)
        have HS24 := Lib.hid (hS.new ((Below.refl _ w23).alloc (Nat.le_refl _) (spO ⟨zg, ze, zb, zl, zs, za, zr, zc, zv⟩)) (Nat.le_refl _) (heap_alloc_new w23 (spO ⟨zg, ze, zb, zl, zs, za, zr, zc, zv⟩))).inT
        obtain ⟨crd, hcrd⟩ : ∃ x : Nat, x = (anR (crD D F)).2.2.2.rd := ⟨_, rfl⟩
        obtain ⟨cwr, hcwr⟩ : ∃ x : Nat, x = (anR (crD D F)).2.2.2.wr := ⟨_, rfl⟩
        obtain ⟨cfl, hcfl⟩ : ∃ x : Nat, x = (anR (crD D F)).2.2.2.fl := ⟨_, rfl⟩
        have HCV := Lib.hid (show cntV (anR (crD D F)).2.2.2 = .agg #[.int .i64 crd, .int .i64 cwr, .int .i64 cfl] by rw [hcrd, hcwr, hcfl]; rfl)
        clear hS hlb HS22 HRD HRE hcrd hcwr hcfl
        go_wp2_with fail
        refine (st_CountsG HS24.out).mono ?_
        rintro e w25 ⟨rfl, hS⟩
        rw [HCV.out]
        have HS26 := Lib.hid (hS.new ((Below.refl _ w25).alloc (Nat.le_refl _) (.cells #[.int .i64 crd, .int .i64 cwr, .int .i64 cfl] 63)) (Nat.le_refl _) (heap_alloc_new w25 (.cells #[.int .i64 crd, .int .i64 cwr, .int .i64 cfl] 63))).inT
        clear hS HS24
        go_wp2_with fail
        refine (rf_CountsG hb HS26.out).mono ?_
        rintro e w27 ⟨rfl, hS⟩
        rw [HCV.out]
        have hS28 := (hS.new ((Below.refl _ w27).alloc (Nat.le_refl _) (.cells #[.int .i64 crd, .int .i64 cwr, .int .i64 cfl] 63)) (Nat.le_refl _) (heap_alloc_new w27 (.cells #[.int .i64 crd, .int .i64 cwr, .int .i64 cfl] 63))).inT
        obtain ⟨W28, hW28⟩ : ∃ W, W = w27.alloc (.cells #[.int .i64 crd, .int .i64 cwr, .int .i64 cfl] 63) := ⟨_, rfl⟩
        rw [← hW28] at hS28
        have HS28 := Lib.hid hS28
        clear hS HS26 hS28
        go_upto_region 35 with (fail)
        rw [← hW28]
        have d21 := cell9 (HS28.out.mem (show (w21.heap.size, spO ⟨zg, ze, zb, zl, zs, za, zr, zc, zv⟩) ∈ _ by simp))
        have d23 := cell9 (HS28.out.mem (show (w23.heap.size, spO ⟨zg, ze, zb, zl, zs, za, zr, zc, zv⟩) ∈ _ by simp))
        have d25 := cell3 (HS28.out.mem (show (w25.heap.size, Obj.cells #[.int .i64 crd, .int .i64 cwr, .int .i64 cfl] 63) ∈ _ by simp))
        have d27 := cell3 (HS28.out.mem (show (w27.heap.size, Obj.cells #[.int .i64 crd, .int .i64 cwr, .int .i64 cfl] 63) ∈ _ by simp))
        dsimp only at d21 d23
        clear hW28
        go_wp2
        go_roundg (n - (i + 1))
        case measure => have := HK.out; omega
        case rel => exact ⟨i + 1, _, _, hb, by omega, by go_num, HLb.out.mono9 (by omega), by have := HHb.out; omega, HS28.out.sub (List.Sublist.append (List.Sublist.refl _) (List.nil_sublist _))⟩
      by_cases k5 : kd = 5
      · subst k5
        have HC3 := Lib.hid (show ∀ (W : World) (v' : Value) (D' : DS) (X : List (Nat × Obj)), St w2 W (w2.heap.size + 1) w2.heap.size v' D' X → (q8, .cells (opaC 5 ⟨sg, se, sb, sl, ss, sa, sr, sc, sv⟩ num at_ (.slice A12 n12 c12) (.slice A13 n13 c13)) 55) ∈ X → W.cell? ⟨q8, 10, none⟩ = some (.int .i64 num) ∧ W.cell? ⟨q8, 11, none⟩ = some (.int .i64 at_) ∧ W.cell? ⟨q8, 12, none⟩ = some (.slice A12 n12 c12) from fun W v' D' X h h1 => ⟨(HC8.out W v' D' X h h1).2.2.2.2.2.2.2.2.2.2.1, (HC8.out W v' D' X h h1).2.2.2.2.2.2.2.2.2.2.2.1, (HC8.out W v' D' X h h1).2.2.2.2.2.2.2.2.2.2.2.2.1⟩)
        have HBL := Lib.hid (show n12 ≤ 140737488351232 by have := HOK.out.B; have h9 := HRB.out.len; (try dsimp only at this); omega)
        go_wp2_with fail
        clear d8
        have k0 := HC3.out _ _ _ _ (HS8.out.drewN 1) (by simp)
        go_region_held3 (fun w' => w'.cell? ⟨q8, 10, none⟩ = some (.int .i64 num) ∧ w'.cell? ⟨q8, 11, none⟩ = some (.int .i64 at_) ∧ w'.cell? ⟨q8, 12, none⟩ = some (.slice A12 n12 c12))
          (first | exact k2 | exact k1 | exact k0)
          (first | (go_at_call 20; refine (st_EditG num at_ A20 n12 c20 B HS20.out (HR20.out _ (fun p hp => HS20.out.kp.all p (by simp [hp]))) HOK.out.at_).mono ?_; rintro e w21 ⟨rfl, hS⟩; have HS21 := Lib.hid hS; have k2 := HC3.out _ _ _ _ hS (by simp); clear hS)
                 | (go_at_call 14; refine (l11_own _ A12 n12 c12 B (HRB.out.ext (HS8.out.drewN 1).bl) (by have := HBL.out; omega)).mono ?_; rintro e w20 ⟨u20, rfl, hO, hB⟩; obtain ⟨A20, c20, R20, rfl, hr20, -, hS⟩ := (HS8.out.drewN 1).newG hO hB (by have := HBL.out; omega); have HR20 := Lib.hid hr20; have HS20 := Lib.hid (assocT hS); have k1 := HC3.out _ _ _ _ HS20.out (by simp); clear hO hB hr20 hS))
        rename_i hHeld
        clear hHeld k0 k1 k2
        have HS22 := Lib.hid (HS21.out.sub (R' := h.rows ++ [(q8, .cells (opaC 5 ⟨sg, se, sb, sl, ss, sa, sr, sc, sv⟩ num at_ (.slice A12 n12 c12) (.slice A13 n13 c13)) 55)]) (List.Sublist.append (List.Sublist.refl _) (List.sublist_append_left _ _)))
        have k0 := HC3.out _ _ _ _ (HS22.out.drewN 1) (by simp)
        clear HR20 HS20 HS21
        go_wp2_with fail
        go_region_held3 (fun w' => w'.cell? ⟨q8, 10, none⟩ = some (.int .i64 num) ∧ w'.cell? ⟨q8, 11, none⟩ = some (.int .i64 at_) ∧ w'.cell? ⟨q8, 12, none⟩ = some (.slice A12 n12 c12))
          (first | exact k2 | exact k1 | exact k0)
          (first | (go_at_call 30; refine (rf_Edit num at_ A23 n12 c23 B h HS23.out (fun W _ hW => HR23.out W (fun p hp => hW p (by simp [hp]))) HOK.out.at_ (by have := HLL.out; omega)).mono ?_; rintro e w24 ⟨rfl, ha, hla, hca, hS⟩; have HHa := Lib.hid (show ha.L.length + ha.C.length ≤ 2 * i + 2 by have := HLL.out; omega); have HS24 := Lib.hid hS; have k2 := HC3.out _ _ _ _ hS (by simp); clear hS hla hca)
                 | (go_at_call 14; refine (l11_own _ A12 n12 c12 B (HRB.out.ext (HS22.out.drewN 1).bl) (by have := HBL.out; omega)).mono ?_; rintro e w23 ⟨u23, rfl, hO, hB⟩; obtain ⟨A23, c23, R23, rfl, hr23, -, hS⟩ := (HS22.out.drewN 1).newG hO hB (by have := HBL.out; omega); have HR23 := Lib.hid hr23; have HS23 := Lib.hid (assocT hS); have k1 := HC3.out _ _ _ _ HS23.out (by simp); clear hO hB hr23 hS))
        rename_i hHeld
        clear hHeld k0 k1 k2
        have HSa := Lib.hid (HS24.out.sub (R' := ha.rows ++ [(q8, .cells (opaC 5 ⟨sg, se, sb, sl, ss, sa, sr, sc, sv⟩ num at_ (.slice A12 n12 c12) (.slice A13 n13 c13)) 55)]) (List.Sublist.append (List.Sublist.refl _) (List.sublist_append_left _ _)))
        have HLa := Lib.hid ((edD_le HLE.out num at_ B).mono9 (show 10 * i ≤ 10 * i + 4 by omega))
        clear HS24 HS23 HR23 HS22
        have HRD := Lib.hid (st_anRead HSa.out (by have := HLa.out.rd; omega) (by have := HLa.out.ca; omega))
        have HRE := Lib.hid (fun (W : World) (v' : Value) (D' : DS) (T' : List (Nat × Obj)) (hS : St w2 W (w2.heap.size + 1) w2.heap.size v' D' (ha.rows ++ T')) => rf_anRead ha hS (by have := HLa.out.rd; omega) (by have := HHa.out; omega) (by have := HHa.out; omega))
        have HLb := Lib.hid (anR_le HLa.out)
        obtain ⟨Z, hZ⟩ : ∃ Z, Z = (anR (edD D num at_ B).2).1 := ⟨_, rfl⟩
        obtain ⟨zn, hzn⟩ : ∃ zn, zn = (anR (edD D num at_ B).2).2.1 := ⟨_, rfl⟩
        obtain ⟨zk, hzk⟩ : ∃ zk, zk = (anR (edD D num at_ B).2).2.2.1 := ⟨_, rfl⟩
        rw [← hZ, ← hzn, ← hzk] at HRD HRE
        clear hZ hzn hzk
        obtain ⟨zg, ze, zb, zl, zs, za, zr, zc, zv⟩ := Z
        unfold spC at HRD HRE
        dsimp only at HRD HRE
        go_wp2_with fail
        refine HRD.out.mono ?_
        rintro e w21 ⟨rfl, hS⟩
        have HS22 := Lib.hid (hS.new ((Below.refl _ w21).alloc (Nat.le_refl _) (spO ⟨zg, ze, zb, zl, zs, za, zr, zc, zv⟩)) (Nat.le_refl _) (heap_alloc_new w21 (spO ⟨zg, ze, zb, zl, zs, za, zr, zc, zv⟩))).inT
        clear hS
        go_wp2_with fail
        refine (HRE.out _ _ _ _ HS22.out).mono ?_
        rintro e w23 ⟨rfl, hb, hlb, hS⟩
        have HHb := Lib.hid (show hb.L.length + hb.C.length ≤ 2 * i + 2 by have := HHa.out; omega)
        have HS24 := Lib.hid (hS.new ((Below.refl _ w23).alloc (Nat.le_refl _) (spO ⟨zg, ze, zb, zl, zs, za, zr, zc, zv⟩)) (Nat.le_refl _) (heap_alloc_new w23 (spO ⟨zg, ze, zb, zl, zs, za, zr, zc, zv⟩))).inT
        obtain ⟨crd, hcrd⟩ : ∃ x : Nat, x = (anR (edD D num at_ B).2).2.2.2.rd := ⟨_, rfl⟩
        obtain ⟨cwr, hcwr⟩ : ∃ x : Nat, x = (anR (edD D num at_ B).2).2.2.2.wr := ⟨_, rfl⟩
        obtain ⟨cfl, hcfl⟩ : ∃ x : Nat, x = (anR (edD D num at_ B).2).2.2.2.fl := ⟨_, rfl⟩
        have HCV := Lib.hid (show cntV (anR (edD D num at_ B).2).2.2.2 = .agg #[.int .i64 crd, .int .i64 cwr, .int .i64 cfl] by rw [hcrd, hcwr, hcfl]; rfl)
        clear hS hlb HS22 HRD HRE hcrd hcwr hcfl
        go_wp2_with fail
        refine (st_CountsG HS24.out).mono ?_
        rintro e w25 ⟨rfl, hS⟩
        rw [HCV.out]
        have HS26 := Lib.hid (hS.new ((Below.refl _ w25).alloc (Nat.le_refl _) (.cells #[.int .i64 crd, .int .i64 cwr, .int .i64 cfl] 63)) (Nat.le_refl _) (heap_alloc_new w25 (.cells #[.int .i64 crd, .int .i64 cwr, .int .i64 cfl] 63))).inT
        clear hS HS24
        go_wp2_with fail
        refine (rf_CountsG hb HS26.out).mono ?_
        rintro e w27 ⟨rfl, hS⟩
        rw [HCV.out]
        have hS28 := (hS.new ((Below.refl _ w27).alloc (Nat.le_refl _) (.cells #[.int .i64 crd, .int .i64 cwr, .int .i64 cfl] 63)) (Nat.le_refl _) (heap_alloc_new w27 (.cells #[.int .i64 crd, .int .i64 cwr, .int .i64 cfl] 63))).inT
        obtain ⟨W28, hW28⟩ : ∃ W, W = w27.alloc (.cells #[.int .i64 crd, .int .i64 cwr, .int .i64 cfl] 63) := ⟨_, rfl⟩
        rw [← hW28] at hS28
        have HS28 := Lib.hid hS28
        clear hS HS26 hS28
        go_upto_region 35 with (fail)
        rw [← hW28]
        have d21 := cell9 (HS28.out.mem (show (w21.heap.size, spO ⟨zg, ze, zb, zl, zs, za, zr, zc, zv⟩) ∈ _ by simp))
        have d23 := cell9 (HS28.out.mem (show (w23.heap.size, spO ⟨zg, ze, zb, zl, zs, za, zr, zc, zv⟩) ∈ _ by simp))
        have d25 := cell3 (HS28.out.mem (show (w25.heap.size, Obj.cells #[.int .i64 crd, .int .i64 cwr, .int .i64 cfl] 63) ∈ _ by simp))
        have d27 := cell3 (HS28.out.mem (show (w27.heap.size, Obj.cells #[.int .i64 crd, .int .i64 cwr, .int .i64 cfl] 63) ∈ _ by simp))
        dsimp only at d21 d23
        clear hW28
        go_wp2
        go_roundg (n - (i + 1))
        case measure => have := HK.out; omega
        case rel => exact ⟨i + 1, _, _, hb, by omega, by go_num, HLb.out.mono9 (by omega), by have := HHb.out; omega, HS28.out.sub (List.Sublist.append (List.Sublist.refl _) (List.nil_sublist _))⟩
      by_cases k6 : kd = 6
      · subst k6
        have HWN := Lib.hid (fun W => an_Write_nil ⟨sg, se, sb, sl, ss, sa, sr, sc, sv⟩ W)
        unfold spC at HWN
        dsimp only at HWN
        go_wp2_with fail
        refine (an_Read_nil _).mono ?_
        rintro e w12 ⟨rfl, hB⟩
        have hS13 := ((HS8.out.below hB).new ((Below.refl _ w12).alloc (Nat.le_refl _) (spO zSp)) (Nat.le_refl _) (heap_alloc_new w12 (spO zSp))).inT
        obtain ⟨W13, hW⟩ : ∃ W, W = w12.alloc (spO zSp) := ⟨_, rfl⟩
        rw [← hW] at hS13
        have HS13 := Lib.hid hS13
        unfold spO spC zSp at hW
        dsimp only at hW
        clear hB hS13 HS8 d8
        unfold spC zSp
        dsimp only
        go_upto_region 28 with (fail)
        rw [← hW]
        have d8 := HC8.out _ _ _ _ HS13.out (by simp)
        (try dsimp only at d8)
        clear hW
        go_wp2_with fail
        refine (HWN.out _).mono ?_
        rintro e w14 ⟨rfl, hB⟩
        have hS14 := HS13.out.below hB
        have HS14 := Lib.hid hS14
        have d14 := cell9 (hS14.mem (show (w12.heap.size, spO zSp) ∈ _ by simp))
        unfold zSp at d14
        dsimp only at d14
        clear hB hS14 HS13 d8
        have HSa := Lib.hid (HS14.out.sub (R' := h.rows ++ [(q8, .cells (opaC 6 ⟨sg, se, sb, sl, ss, sa, sr, sc, sv⟩ num at_ (.slice A12 n12 c12) (.slice A13 n13 c13)) 55)]) (List.Sublist.append (List.Sublist.refl _) ((List.Sublist.refl _).cons _)))
        obtain ⟨Da, hDa⟩ : ∃ Da, Da = D := ⟨_, rfl⟩
        obtain ⟨ha, hha⟩ : ∃ ha : RfOk r D, ha = h := ⟨_, rfl⟩
        subst hDa
        subst hha
        have HLa := Lib.hid (HLE.out.mono9 (show 10 * i ≤ 10 * i + 4 by omega))
        have HHa := Lib.hid (show ha.L.length + ha.C.length ≤ 2 * i + 2 by have := HLL.out; omega)
        clear HS14
        have HRD := Lib.hid (st_anRead HSa.out (by have := HLa.out.rd; omega) (by have := HLa.out.ca; omega))
        have HRE := Lib.hid (fun (W : World) (v' : Value) (D' : DS) (T' : List (Nat × Obj)) (hS : St w2 W (w2.heap.size + 1) w2.heap.size v' D' (ha.rows ++ T')) => rf_anRead ha hS (by have := HLa.out.rd; omega) (by have := HHa.out; omega) (by have := HHa.out; omega))
        have HLb := Lib.hid (anR_le HLa.out)
        obtain ⟨Z, hZ⟩ : ∃ Z, Z = (anR Da).1 := ⟨_, rfl⟩
        obtain ⟨zn, hzn⟩ : ∃ zn, zn = (anR Da).2.1 := ⟨_, rfl⟩
        obtain ⟨zk, hzk⟩ : ∃ zk, zk = (anR Da).2.2.1 := ⟨_, rfl⟩
        rw [← hZ, ← hzn, ← hzk] at HRD HRE
        clear hZ hzn hzk
        obtain ⟨zg, ze, zb, zl, zs, za, zr, zc, zv⟩ := Z
        unfold spC at HRD HRE
        dsimp only at HRD HRE
        go_wp2_with fail
        refine HRD.out.mono ?_
        rintro e w21 ⟨rfl, hS⟩
        have HS22 := Lib.hid (hS.new ((Below.refl _ w21).alloc (Nat.le_refl _) (spO ⟨zg, ze, zb, zl, zs, za, zr, zc, zv⟩)) (Nat.le_refl _) (heap_alloc_new w21 (spO ⟨zg, ze, zb, zl, zs, za, zr, zc, zv⟩))).inT
        clear hS
        go_wp2_with fail
        refine (HRE.out _ _ _ _ HS22.out).mono ?_
        rintro e w23 ⟨rfl, hb, hlb, hS⟩
        have HHb := Lib.hid (show hb.L.length + hb.C.length ≤ 2 * i + 2 by have := HHa.out; omega)
        have HS24 := Lib.hid (hS.new ((Below.refl _ w23).alloc (Nat.le_refl _) (spO ⟨zg, ze, zb, zl, zs, za, zr, zc, zv⟩)) (Nat.le_refl _) (heap_alloc_new w23 (spO ⟨zg, ze, zb, zl, zs, za, zr, zc, zv⟩))).inT
        obtain ⟨crd, hcrd⟩ : ∃ x : Nat, x = (anR Da).2.2.2.rd := ⟨_, rfl⟩
        obtain ⟨cwr, hcwr⟩ : ∃ x : Nat, x = (anR Da).2.2.2.wr := ⟨_, rfl⟩
        obtain ⟨cfl, hcfl⟩ : ∃ x : Nat, x = (anR Da).2.2.2.fl := ⟨_, rfl⟩
        have HCV := Lib.hid (show cntV (anR Da).2.2.2 = .agg #[.int .i64 crd, .int .i64 cwr, .int .i64 cfl] by rw [hcrd, hcwr, hcfl]; rfl)
        clear hS hlb HS22 HRD HRE hcrd hcwr hcfl
        go_wp2_with fail
        refine (st_CountsG HS24.out).mono ?_
        rintro e w25 ⟨rfl, hS⟩
        rw [HCV.out]
        have HS26 := Lib.hid (hS.new ((Below.refl _ w25).alloc (Nat.le_refl _) (.cells #[.int .i64 crd, .int .i64 cwr, .int .i64 cfl] 63)) (Nat.le_refl _) (heap_alloc_new w25 (.cells #[.int .i64 crd, .int .i64 cwr, .int .i64 cfl] 63))).inT
        clear hS HS24
        go_wp2_with fail
        refine (rf_CountsG hb HS26.out).mono ?_
        rintro e w27 ⟨rfl, hS⟩
        rw [HCV.out]
        have hS28 := (hS.new ((Below.refl _ w27).alloc (Nat.le_refl _) (.cells #[.int .i64 crd, .int .i64 cwr, .int .i64 cfl] 63)) (Nat.le_refl _) (heap_alloc_new w27 (.cells #[.int .i64 crd, .int .i64 cwr, .int .i64 cfl] 63))).inT
        obtain ⟨W28, hW28⟩ : ∃ W, W = w27.alloc (.cells #[.int .i64 crd, .int .i64 cwr, .int .i64 cfl] 63) := ⟨_, rfl⟩
        rw [← hW28] at hS28
        have HS28 := Lib.hid hS28
        clear hS HS26 hS28
        go_upto_region 35 with (fail)
        rw [← hW28]
        have d21 := cell9 (HS28.out.mem (show (w21.heap.size, spO ⟨zg, ze, zb, zl, zs, za, zr, zc, zv⟩) ∈ _ by simp))
        have d23 := cell9 (HS28.out.mem (show (w23.heap.size, spO ⟨zg, ze, zb, zl, zs, za, zr, zc, zv⟩) ∈ _ by simp))
        have d25 := cell3 (HS28.out.mem (show (w25.heap.size, Obj.cells #[.int .i64 crd, .int .i64 cwr, .int .i64 cfl] 63) ∈ _ by simp))
        have d27 := cell3 (HS28.out.mem (show (w27.heap.size, Obj.cells #[.int .i64 crd, .int .i64 cwr, .int .i64 cfl] 63) ∈ _ by simp))
        dsimp only at d21 d23
        clear hW28
        go_wp2
        go_roundg (n - (i + 1))
        case measure => have := HK.out; omega
        case rel => exact ⟨i + 1, _, _, hb, by omega, by go_num, HLb.out.mono9 (by omega), by have := HHb.out; omega, HS28.out.sub (List.Sublist.append (List.Sublist.refl _) (List.nil_sublist _))⟩
      have e1 : (kd == 1) = false := by simp [k1]
      have e3 : (kd == 3) = false := by simp [k3]
      have e4 : (kd == 4) = false := by simp [k4]
      have e5 : (kd == 5) = false := by simp [k5]
      have e6 : (kd == 6) = false := by simp [k6]
      clear k1 k3 k4 k5 k6
      have HSa := HS8
      obtain ⟨Da, hDa⟩ : ∃ Da, Da = D := ⟨_, rfl⟩
      obtain ⟨ha, hha⟩ : ∃ ha : RfOk r D, ha = h := ⟨_, rfl⟩
      subst hDa
      subst hha
      have HLa := Lib.hid (HLE.out.mono9 (show 10 * i ≤ 10 * i + 4 by omega))
      have HHa := Lib.hid (show ha.L.length + ha.C.length ≤ 2 * i + 2 by have := HLL.out; omega)
      have HRD := Lib.hid (st_anRead HSa.out (by have := HLa.out.rd; omega) (by have := HLa.out.ca; omega))
      have HRE := Lib.hid (fun (W : World) (v' : Value) (D' : DS) (T' : List (Nat × Obj)) (hS : St w2 W (w2.heap.size + 1) w2.heap.size v' D' (ha.rows ++ T')) => rf_anRead ha hS (by have := HLa.out.rd; omega) (by have := HHa.out; omega) (by have := HHa.out; omega))
      have HLb := Lib.hid (anR_le HLa.out)
      obtain ⟨Z, hZ⟩ : ∃ Z, Z = (anR Da).1 := ⟨_, rfl⟩
      obtain ⟨zn, hzn⟩ : ∃ zn, zn = (anR Da).2.1 := ⟨_, rfl⟩
      obtain ⟨zk, hzk⟩ : ∃ zk, zk = (anR Da).2.2.1 := ⟨_, rfl⟩
      rw [← hZ, ← hzn, ← hzk] at HRD HRE
      clear hZ hzn hzk
      obtain ⟨zg, ze, zb, zl, zs, za, zr, zc, zv⟩ := Z
      unfold spC at HRD HRE
      dsimp only at HRD HRE
      go_wp2_with fail
      refine HRD.out.mono ?_
      rintro e w21 ⟨rfl, hS⟩
      have HS22 := Lib.hid (hS.new ((Below.refl _ w21).alloc (Nat.le_refl _) (spO ⟨zg, ze, zb, zl, zs, za, zr, zc, zv⟩)) (Nat.le_refl _) (heap_alloc_new w21 (spO ⟨zg, ze, zb, zl, zs, za, zr, zc, zv⟩))).inT
      clear hS
      go_wp2_with fail
      refine (HRE.out _ _ _ _ HS22.out).mono ?_
      rintro e w23 ⟨rfl, hb, hlb, hS⟩
      have HHb := Lib.hid (show hb.L.length + hb.C.length ≤ 2 * i + 2 by have := HHa.out; omega)
      have HS24 := Lib.hid (hS.new ((Below.refl _ w23).alloc (Nat.le_refl _) (spO ⟨zg, ze, zb, zl, zs, za, zr, zc, zv⟩)) (Nat.le_refl _) (heap_alloc_new w23 (spO ⟨zg, ze, zb, zl, zs, za, zr, zc, zv⟩))).inT
      obtain ⟨crd, hcrd⟩ : ∃ x : Nat, x = (anR Da).2.2.2.rd := ⟨_, rfl⟩
      obtain ⟨cwr, hcwr⟩ : ∃ x : Nat, x = (anR Da).2.2.2.wr := ⟨_, rfl⟩
      obtain ⟨cfl, hcfl⟩ : ∃ x : Nat, x = (anR Da).2.2.2.fl := ⟨_, rfl⟩
      have HCV := Lib.hid (show cntV (anR Da).2.2.2 = .agg #[.int .i64 crd, .int .i64 cwr, .int .i64 cfl] by rw [hcrd, hcwr, hcfl]; rfl)
      clear hS hlb HS22 HRD HRE hcrd hcwr hcfl
      go_wp2_with fail
      refine (st_CountsG HS24.out).mono ?_
      rintro e w25 ⟨rfl, hS⟩
      rw [HCV.out]
      have HS26 := Lib.hid (hS.new ((Below.refl _ w25).alloc (Nat.le_refl _) (.cells #[.int .i64 crd, .int .i64 cwr, .int .i64 cfl] 63)) (Nat.le_refl _) (heap_alloc_new w25 (.cells #[.int .i64 crd, .int .i64 cwr, .int .i64 cfl] 63))).inT
      clear hS HS24
      go_wp2_with fail
      refine (rf_CountsG hb HS26.out).mono ?_
      rintro e w27 ⟨rfl, hS⟩
      rw [HCV.out]
      have hS28 := (hS.new ((Below.refl _ w27).alloc (Nat.le_refl _) (.cells #[.int .i64 crd, .int .i64 cwr, .int .i64 cfl] 63)) (Nat.le_refl _) (heap_alloc_new w27 (.cells #[.int .i64 crd, .int .i64 cwr, .int .i64 cfl] 63))).inT
      obtain ⟨W28, hW28⟩ : ∃ W, W = w27.alloc (.cells #[.int .i64 crd, .int .i64 cwr, .int .i64 cfl] 63) := ⟨_, rfl⟩
      rw [← hW28] at hS28
      have HS28 := Lib.hid hS28
      clear hS HS26 hS28
      go_upto_region 35 with (fail)
      rw [← hW28]
      have d21 := cell9 (HS28.out.mem (show (w21.heap.size, spO ⟨zg, ze, zb, zl, zs, za, zr, zc, zv⟩) ∈ _ by simp))
      have d23 := cell9 (HS28.out.mem (show (w23.heap.size, spO ⟨zg, ze, zb, zl, zs, za, zr, zc, zv⟩) ∈ _ by simp))
      have d25 := cell3 (HS28.out.mem (show (w25.heap.size, Obj.cells #[.int .i64 crd, .int .i64 cwr, .int .i64 cfl] 63) ∈ _ by simp))
      have d27 := cell3 (HS28.out.mem (show (w27.heap.size, Obj.cells #[.int .i64 crd, .int .i64 cwr, .int .i64 cfl] 63) ∈ _ by simp))
      dsimp only at d21 d23
      clear hW28
      go_wp2
      go_roundg (n - (i + 1))
      case measure => have := HK.out; omega
      case rel => exact ⟨i + 1, _, _, hb, by omega, by go_num, HLb.out.mono9 (by omega), by have := HHb.out; omega, HS28.out.sub (List.Sublist.append (List.Sublist.refl _) (List.nil_sublist _))⟩
    · obtain rfl : i = n := by omega
      have HM := Lib.hid (st_MediumG HS.out)
      go_wp2_with fail
      refine HM.out.mono ?_
      rintro e w30 ⟨A30, c30, R30, rfl, hr30, hS⟩
      have HS30 := Lib.hid (assocT hS)
      have HR30 := Lib.hid hr30
      clear hS hr30 HM
      go_wp2_with fail
      refine (rf_MediumG h HS30.out (by have := HLL.out; omega)).mono ?_
      rintro e w31 ⟨A31, c31, R31, rfl, hr31, hS⟩
      have HS31 := Lib.hid hS
      have HSM := Lib.hid (l11_same A30 A31 _ c30 _ c31 D.M D.M w31 (HR30.out w31 (fun p hp => hS.kp.all p (by simp [hp]))) (hr31 w31 (fun p hp => hS.kp.all p (by simp [hp]))))
      rw [decide_eq_true rfl] at HSM
      clear hS hr31 HS30
      go_wp2_with fail
      refine HSM.out.mono ?_
      rintro e w32 ⟨rfl, hw32⟩
      rw [hw32]
      go_wp2
      go_ret
      exact ⟨rfl, HB2.out.trans (HS31.out.bl.mono HB2.out.size)⟩
end Go.Proofs.Ytggoaelbglhehaa
/- Words on memory: a slice of bools that is read. -/
set_option linter.unusedVariables false
set_option linter.unusedSimpArgs false
namespace Go.Proofs.Ytggoaelbglhehaa
open Go.RowKit
structure RdB (w : World) (A : Option Addr) (n c : Nat) (l : List Bool) : Prop where
  len : l.length = n
  cap : n ≤ c
  max : n ≤ 140737488355328
  at_ : 0 < n → ∃ b o, A = some ⟨b, o, none⟩ ∧ ∀ j, j < n → w.cell? ⟨b, o + j, none⟩ = some (.bool (l.getD j false))
theorem RdB.ext {w w' : World} {A : Option Addr} {n c : Nat} {l : List Bool} (h : RdB w A n c l) (hb : Below w.heap.size w w') : RdB w' A n c l :=
  ⟨h.len, h.cap, h.max, fun hn => by
    obtain ⟨b, o, e, hc⟩ := h.at_ hn
    exact ⟨b, o, e, fun j hj => (hb.cell (World.block_lt_of_cell? w _ (hc j hj))).trans (hc j hj)⟩⟩
end Go.Proofs.Ytggoaelbglhehaa
/- Words for rows: what the reading of a slice of bools says of memory. -/
set_option linter.unusedVariables false
set_option linter.unusedSimpArgs false
namespace Go.Proofs.Ytggoaelbglhehaa
open Go.ChangeShapes Go.WideShapes Go.RowKit Go.Deep
theorem spot0 {W : World} {x : Addr} {v : Value} (h : W.cell? (x.add 0) = some v) : x.spot = none := by
  obtain ⟨b, o, s⟩ := x
  cases s with
  | none => rfl
  | some s =>
    exfalso
    rw [show (⟨b, o, some s⟩ : Addr).add 0 = ⟨b, o, some s⟩ from rfl] at h
    simp only [World.cell?] at h
    split at h <;> simp at h
theorem len_open {H : Type} {enc : TypeId × Value → H} {P : Program} {W : World} {base : Nat} {spare : Nat → Bool} {held : Bool} {t e : TypeId} {a : Option Addr} {len cap : Nat} {d : DataW H} {ps : List MemPlace} {ts : List TypeId} {ds : List (DataW H)} {j : Nat}
    (hsz : (DataW.weightsEach P ts ds).all (· ≤ reachBytes) = true) (ht : ts[j]? = some t) (hd : ds[j]? = some d) (hu : P.underlying t = some (.slice e)) (hB : 1 ≤ P.bytesOf e)
    (h : DataW.Trod enc P W base spare held t (.slice a len cap) d ps) : len ≤ 140737488351232 := by
  obtain ⟨fuel, hf⟩ := h
  rcases open_slice hu hf with ⟨hcs, _⟩ | ⟨x, l, c, m, n, D, Pl, hcs, _, hl, _, hm, hx, _⟩
  · simp [Value.cells] at hcs; omega
  · simp [Value.cells] at hcs
    obtain ⟨rfl, rfl, rfl⟩ := hcs
    obtain ⟨hx, _⟩ := Prod.mk.inj hx
    subst hx
    have z := sized_slice hsz ht hd hu
    simp only [List.length_map, List.length_range] at z
    have z2 := Nat.le_trans (Nat.le_mul_of_pos_right _ hB) z
    have z3 : reachBytes = 140737488351232 := by simp [reachBytes]
    omega
section
variable {H : Type} {enc : TypeId × Value → H} {P : Program} {W : World} {base : Nat} {spare : Nat → Bool} {held : Bool} {t e : TypeId} {a : Option Addr} {len cap : Nat} {d : DataW H} {ps : List MemPlace}
theorem rdb_of (hu : P.underlying t = some (.slice e)) (he : P.underlying e = some .bool) (hc : P.cellsOf e = 1) (hm : len ≤ 140737488351232)
    (h : DataW.Trod enc P W base spare held t (.slice a len cap) d ps) : ∃ l, RdB W a len cap l := by
  obtain ⟨fuel, hf⟩ := h
  rcases open_slice1 hu hc hf with ⟨hcs, _⟩ | ⟨x, l, c, m, n, V, D, Pl, hcs, _, hl, _, hmm, hx, hV⟩
  · simp [Value.cells] at hcs
    obtain ⟨rfl, rfl, rfl⟩ := hcs
    exact ⟨[], rfl, Nat.le_refl _, by omega, fun hp => absurd hp (by omega)⟩
  · simp [Value.cells] at hcs
    obtain ⟨rfl, rfl, rfl⟩ := hcs
    have hlm : len ≤ m := by rw [hmm]; split <;> omega
    have hB : ∀ i, i < m → ∃ b, V i = .bool b := fun i hi => by
      obtain ⟨b, h1, _⟩ := DataW.trod_bool he (hV i hi).2
      exact ⟨b, by simpa using h1⟩
    refine ⟨(List.range len).map fun i => (match V i with | .bool b => b | _ => false), by simp, hl, by omega, fun hp => ?_⟩
    have hs := spot0 (hV 0 (by omega)).1
    obtain ⟨b, o, s⟩ := x
    simp only at hs
    subst hs
    refine ⟨b, o, rfl, fun j hj => ?_⟩
    have h1 := (hV j (by omega)).1
    rw [Addr.add_mid] at h1
    obtain ⟨v, hv⟩ := hB j (by omega)
    rw [h1, hv]
    simp [List.getD_eq_getElem?_getD, hj, hv]
end
end Go.Proofs.Ytggoaelbglhehaa
/- Words for rows: what the reading of fates and of a script says of memory. -/
set_option linter.unusedVariables false
set_option linter.unusedSimpArgs false
namespace Go.Proofs.Ytggoaelbglhehaa
open Go.ChangeShapes Go.WideShapes Go.RowKit Go.Deep
theorem weightsAll_memO {H : Type} {P : Program} {e : TypeId} : ∀ (l : List (DataW H)) (x : DataW H), x ∈ l → ∀ n, n ∈ x.weights P e → n ∈ DataW.weightsAll P e l
  | [], x, h, _, _ => by simp at h
  | y :: r, x, h, n, hn => by
    rw [DataW.weightsAll, List.mem_append]
    rcases List.mem_cons.1 h with rfl | h
    · exact .inl hn
    · exact .inr (weightsAll_memO r x h n hn)
theorem elem_weight {H : Type} {P : Program} {t e : TypeId} {elems spare : List (DataW H)} (hu : P.underlying t = some (.slice e)) (hw : ∀ n ∈ (DataW.slice elems spare).weights P t, n ≤ reachBytes) {x : DataW H} (hx : x ∈ elems) {n : Nat} (hn : n ∈ x.weights P e) : n ≤ reachBytes :=
  hw n (by simp only [DataW.weights, hu]; exact List.mem_cons_of_mem _ (List.mem_append.2 (.inl (weightsAll_memO elems x hx n hn))))
theorem reach_eq : reachBytes = 140737488351232 := by simp [reachBytes]
section
variable {H : Type} {enc : TypeId × Value → H} {P : Program} {W : World} {base : Nat} {spare : Nat → Bool} {held : Bool} {t e : TypeId} {v : Value} {d : DataW H} {ps : List MemPlace} {fuel : Nat}
theorem slice_len (hu : P.underlying t = some (.slice e)) {elems sp : List (DataW H)} (hw : ∀ n ∈ (DataW.slice elems sp).weights P t, n ≤ reachBytes) : (elems.length + sp.length) * P.bytesOf e ≤ reachBytes :=
  hw _ (by simp only [DataW.weights, hu]; exact List.mem_cons_self)
theorem rd_cell (hu : P.underlying t = some (.slice e)) (he : P.underlying e = some (.int .u8)) (hc : P.cellsOf e = 1) (hB : P.bytesOf e = 1) (hw : ∀ n ∈ d.weights P t, n ≤ reachBytes)
    (h : DataW.trod enc P W base spare held fuel t [v] = some (d, ps)) : ∃ A n c l, v = .slice A n c ∧ Rd W A n c l ∧ n ≤ 140737488351232 := by
  have h' := h
  rcases open_ints hu he hc h with ⟨hcs, hx⟩ | ⟨x, l, c, zs, hcs, _, hl, _, hz, hx, hcell, hwz⟩
  · simp at hcs
    exact ⟨none, 0, 0, [], hcs, Rd.nil _, by omega⟩
  · simp at hcs
    obtain ⟨hx, _⟩ := Prod.mk.inj hx
    subst hx hcs
    have z := slice_len hu hw
    rw [hB, reach_eq] at z
    have hl2 : l ≤ zs.length := by
      rw [hz]
      split
      · exact hl
      · exact Nat.le_refl _
    simp only [lits, List.length_map, List.length_take, List.length_drop] at z
    obtain ⟨L, hr⟩ := rd_of hu he hc ⟨_, h'⟩ (by omega)
    exact ⟨_, _, _, L, rfl, hr, by omega⟩
theorem rdf_cell {f0 f1 : Field} (hu : P.underlying t = some (.slice e)) (he : P.underlying e = some (.struct #[f0, f1])) (ce : P.cellsOf e = 2) (hB : P.bytesOf e = 16)
    (o0 : f0.offset = 0) (o1 : f1.offset = 1) (c0 : P.cellsOf f0.type = 1) (c1 : P.cellsOf f1.type = 1) (u0 : P.underlying f0.type = some (.int .i64)) (u1 : P.underlying f1.type = some (.int .i64)) (hw : ∀ n ∈ d.weights P t, n ≤ reachBytes)
    (h : DataW.trod enc P W base spare held fuel t [v] = some (d, ps)) : ∃ A n c l, v = .slice A n c ∧ RdF W A n c l ∧ n ≤ 8796093022207 := by
  rcases open_slice hu h with ⟨hcs, _⟩ | ⟨x, len, cap, m, n, D, Pl, hcs, _, hl, _, hmm, hx, hV⟩
  · simp at hcs
    exact ⟨none, 0, 0, [], hcs, RdF.nil _, by omega⟩
  · simp at hcs
    obtain ⟨hx, _⟩ := Prod.mk.inj hx
    subst hx hcs
    have hlm : len ≤ m := by rw [hmm]; split <;> omega
    have z := slice_len hu hw
    rw [hB, reach_eq] at z
    simp only [List.length_map, List.length_range] at z
    have each : ∀ i, i < len → ∃ o : Ft, W.cell? (x.add (i * 2)) = some (.int .i64 o.kind) ∧ W.cell? (x.add (i * 2 + 1)) = some (.int .i64 o.at_) := by
      intro i hi
      obtain ⟨cs', h1, h2⟩ := hV i (by omega)
      rw [ce] at h1
      obtain ⟨_, hlen, hcell⟩ := World.cells?_some h1
      obtain ⟨xs, k, hk, hxy, _, hxl, hfl⟩ := DataW.trod_struct he h2
      match xs, hxl, cs', hlen with
      | [y0, y1], _, [v0, v1], _ =>
        have g0 := hfl 0 f0 rfl
        have g1 := hfl 1 f1 rfl
        simp [o0, o1, c0, c1] at g0 g1
        have e0 := hcell 0 (by omega)
        have e1 := hcell 1 (by omega)
        rw [add_add] at e0 e1
        obtain ⟨b0, hb0, _, _⟩ := DataW.trod_int u0 g0
        obtain ⟨b1, hb1, _, _⟩ := DataW.trod_int u1 g1
        simp at hb0 hb1
        subst hb0 hb1
        exact ⟨⟨b0, b1⟩, by simpa using e0, by simpa using e1⟩
    obtain ⟨F, hF⟩ := choose_lt each
    refine ⟨_, _, _, (List.range len).map F, rfl, ⟨by simp, hl, by omega, fun hp => ?_⟩, by omega⟩
    have hs := spot0 (by simpa using (hF 0 (by omega)).1 : W.cell? (x.add 0) = _)
    obtain ⟨b, o, s⟩ := x
    simp only at hs
    subst hs
    refine ⟨b, o, rfl, fun j hj => ?_⟩
    have h1 := hF j (by omega)
    simp only [Addr.add_mid] at h1
    have e9 : ((List.range len).map F).getD j default = F j := by simp [List.getD_eq_getElem?_getD, hj]
    rw [e9]
    obtain ⟨r0, r1⟩ := h1
    rw [← Nat.add_assoc] at r1
    exact ⟨r0, r1⟩
end
section
variable {H : Type} {enc : TypeId × Value → H} {P : Program} {W : World} {base : Nat} {spare : Nat → Bool} {held : Bool} {t e : TypeId} {a : Option Addr} {len cap : Nat} {d : DataW H} {ps : List MemPlace} {ts : List TypeId} {ds : List (DataW H)} {j : Nat}
theorem arg_weights (hsz : (DataW.weightsEach P ts ds).all (· ≤ reachBytes) = true) (ht : ts[j]? = some t) (hd : ds[j]? = some d) : ∀ n ∈ d.weights P t, n ≤ reachBytes := fun n hn => by
  have := List.all_eq_true.1 hsz _ (DataW.weights_mem_each ht hd n hn)
  simpa using this
theorem rdf_of {f0 f1 : Field} (hsz : (DataW.weightsEach P ts ds).all (· ≤ reachBytes) = true) (ht : ts[j]? = some t) (hd : ds[j]? = some d) (hu : P.underlying t = some (.slice e)) (he : P.underlying e = some (.struct #[f0, f1])) (ce : P.cellsOf e = 2) (hB : P.bytesOf e = 16)
    (o0 : f0.offset = 0) (o1 : f1.offset = 1) (c0 : P.cellsOf f0.type = 1) (c1 : P.cellsOf f1.type = 1) (u0 : P.underlying f0.type = some (.int .i64)) (u1 : P.underlying f1.type = some (.int .i64))
    (h : DataW.Trod enc P W base spare held t (.slice a len cap) d ps) : ∃ l, RdF W a len cap l ∧ len ≤ 8796093022207 := by
  obtain ⟨fuel, hf⟩ := h
  obtain ⟨A, n, c, l, e1, hr, hn⟩ := rdf_cell hu he ce hB o0 o1 c0 c1 u0 u1 (arg_weights hsz ht hd) (v := .slice a len cap) hf
  injection e1 with q1 q2 q3
  subst q1 q2 q3
  exact ⟨l, hr, hn⟩
theorem rdod_of {h0 h1 h2 h3 h4 h5 h6 h7 f0 f1 : Field} {tb tf : TypeId} (hsz : (DataW.weightsEach P ts ds).all (· ≤ reachBytes) = true) (ht : ts[j]? = some t) (hd : ds[j]? = some d) (hu : P.underlying t = some (.slice e)) (he : P.underlying e = some (.struct #[h0, h1, h2, h3, h4, h5, h6, h7])) (ce : P.cellsOf e = 8)
    (p0 : h0.offset = 0) (p1 : h1.offset = 1) (p2 : h2.offset = 2) (p3 : h3.offset = 3) (p4 : h4.offset = 4) (p5 : h5.offset = 5) (p6 : h6.offset = 6) (p7 : h7.offset = 7)
    (k0 : P.cellsOf h0.type = 1) (k1 : P.cellsOf h1.type = 1) (k2 : P.cellsOf h2.type = 1) (k3 : P.cellsOf h3.type = 1) (k4 : P.cellsOf h4.type = 1) (k5 : P.cellsOf h5.type = 1) (k6 : P.cellsOf h6.type = 1) (k7 : P.cellsOf h7.type = 1)
    (v0 : P.underlying h0.type = some .bool) (v1 : P.underlying h1.type = some (.int .i64)) (v2 : P.underlying h2.type = some (.int .i64)) (v3 : P.underlying h3.type = some (.int .i64)) (v4 : P.underlying h4.type = some (.int .i64)) (v5 : P.underlying h5.type = some (.int .u8))
    (v6 : P.underlying h6.type = some (.slice tb)) (v7 : P.underlying h7.type = some (.slice tf)) (b1 : P.underlying tb = some (.int .u8)) (b2 : P.cellsOf tb = 1) (b3 : P.bytesOf tb = 1)
    (q1 : P.underlying tf = some (.struct #[f0, f1])) (q2 : P.cellsOf tf = 2) (q3 : P.bytesOf tf = 16)
    (o0 : f0.offset = 0) (o1 : f1.offset = 1) (c0 : P.cellsOf f0.type = 1) (c1 : P.cellsOf f1.type = 1) (u0 : P.underlying f0.type = some (.int .i64)) (u1 : P.underlying f1.type = some (.int .i64)) (hm : len ≤ 140737488351232)
    (h : DataW.Trod enc P W base spare held t (.slice a len cap) d ps) : ∃ l, RdO W a len cap l := by
  have hwt := arg_weights hsz ht hd
  obtain ⟨fuel, hf⟩ := h
  rcases open_slice hu hf with ⟨hcs, _⟩ | ⟨x, l, c, m, n, D, Pl, hcs, _, hl, _, hmm, hx, hV⟩
  · simp [Value.cells] at hcs
    obtain ⟨rfl, rfl, rfl⟩ := hcs
    exact ⟨[], rfl, Nat.le_refl _, by omega, fun hp => absurd hp (by omega)⟩
  · simp [Value.cells] at hcs
    obtain ⟨rfl, rfl, rfl⟩ := hcs
    have hlm : len ≤ m := by rw [hmm]; split <;> omega
    obtain ⟨hx, _⟩ := Prod.mk.inj hx
    subst hx
    have each : ∀ i, i < len → ∃ o : OpD, o.ok ∧ W.cell? (x.add (i * 8)) = some (.bool o.two) ∧ W.cell? (x.add (i * 8 + 1)) = some (.int .i64 o.kind) ∧ W.cell? (x.add (i * 8 + 2)) = some (.int .i64 o.blk) ∧ W.cell? (x.add (i * 8 + 3)) = some (.int .i64 o.num) ∧ W.cell? (x.add (i * 8 + 4)) = some (.int .i64 o.len) ∧ W.cell? (x.add (i * 8 + 5)) = some (.int .u8 (o.fill.toNat : Int)) ∧
        (∃ A n c, W.cell? (x.add (i * 8 + 6)) = some (.slice A n c) ∧ Rd W A n c o.B) ∧ (∃ A n c, W.cell? (x.add (i * 8 + 7)) = some (.slice A n c) ∧ RdF W A n c o.F) := by
      intro i hi
      obtain ⟨cs', s1, s2⟩ := hV i (by omega)
      rw [ce] at s1
      obtain ⟨_, hlen, hcell⟩ := World.cells?_some s1
      obtain ⟨xs, k, hk, hxy, _, hxl, hfl⟩ := DataW.trod_struct he s2
      match xs, hxl, cs', hlen with
      | [y0, y1, y2, y3, y4, y5, y6, y7], _, [w0, w1, w2, w3, w4, w5, w6, w7], _ =>
        have g0 := hfl 0 h0 rfl
        have g1 := hfl 1 h1 rfl
        have g2 := hfl 2 h2 rfl
        have g3 := hfl 3 h3 rfl
        have g4 := hfl 4 h4 rfl
        have g5 := hfl 5 h5 rfl
        have g6 := hfl 6 h6 rfl
        have g7 := hfl 7 h7 rfl
        simp [p0, p1, p2, p3, p4, p5, p6, p7, k0, k1, k2, k3, k4, k5, k6, k7] at g0 g1 g2 g3 g4 g5 g6 g7
        have e0 := hcell 0 (by omega)
        have e1 := hcell 1 (by omega)
        have e2 := hcell 2 (by omega)
        have e3 := hcell 3 (by omega)
        have e4 := hcell 4 (by omega)
        have e5 := hcell 5 (by omega)
        have e6 := hcell 6 (by omega)
        have e7 := hcell 7 (by omega)
        rw [add_add] at e0 e1 e2 e3 e4 e5 e6 e7
        obtain ⟨b0, hb0, _⟩ := DataW.trod_bool v0 g0
        obtain ⟨z1, hb1, _, hw1⟩ := DataW.trod_int v1 g1
        obtain ⟨z2, hb2, _, hw2⟩ := DataW.trod_int v2 g2
        obtain ⟨z3, hb3, _, hw3⟩ := DataW.trod_int v3 g3
        obtain ⟨z4, hb4, _, hw4⟩ := DataW.trod_int v4 g4
        obtain ⟨z5, hb5, _, hw5⟩ := DataW.trod_int v5 g5
        simp at hb0 hb1 hb2 hb3 hb4 hb5
        subst hb0 hb1 hb2 hb3 hb4 hb5
        have hD : D i = .agg [y0.1, y1.1, y2.1, y3.1, y4.1, y5.1, y6.1, y7.1] := (Prod.mk.inj hxy).1
        have hDw : ∀ n ∈ (D i).weights P e, n ≤ reachBytes := fun n hn => elem_weight hu hwt (List.mem_map.2 ⟨i, by simpa using hi, rfl⟩) hn
        have hw6 : ∀ n ∈ y6.1.weights P h6.type, n ≤ reachBytes := fun n hn => hDw n (by
          rw [hD]; simp only [DataW.weights, he]
          exact DataW.weights_mem_each (j := 6) (t := h6.type) (d := y6.1) rfl rfl _ hn)
        have hw7 : ∀ n ∈ y7.1.weights P h7.type, n ≤ reachBytes := fun n hn => hDw n (by
          rw [hD]; simp only [DataW.weights, he]
          exact DataW.weights_mem_each (j := 7) (t := h7.type) (d := y7.1) rfl rfl _ hn)
        obtain ⟨A6, n6, d6, l6, rfl, hr6, hn6⟩ := rd_cell v6 b1 b2 b3 hw6 g6
        obtain ⟨A7, n7, d7, l7, rfl, hr7, hn7⟩ := rdf_cell v7 q1 q2 q3 o0 o1 c0 c1 u0 u1 hw7 g7
        have h8 := wf_u8 hw5
        refine ⟨⟨b0, z1, z2, z3, z4, UInt8.ofNat z5.toNat, l6, l7⟩, ⟨wf_i64 hw1, wf_i64 hw2, wf_i64 hw3, wf_i64 hw4, by have := hr6.len; simp only; omega, by have := hr7.len; simp only; omega⟩, by simpa using e0, by simpa using e1, by simpa using e2, by simpa using e3, by simpa using e4, ?_, ⟨A6, n6, d6, by simpa using e6, hr6⟩, ⟨A7, n7, d7, by simpa using e7, hr7⟩⟩
        rw [show (((UInt8.ofNat z5.toNat).toNat : Nat) : Int) = z5 by rw [UInt8.toNat_ofNat']; omega]
        simpa using e5
    obtain ⟨F, hF⟩ := choose_lt each
    refine ⟨(List.range len).map F, by simp, hl, by omega, fun hp => ?_⟩
    have hs := spot0 (by simpa using (hF 0 (by omega)).2.1 : W.cell? (x.add 0) = _)
    obtain ⟨b, o, s⟩ := x
    simp only at hs
    subst hs
    refine ⟨b, o, rfl, fun j hj => ?_⟩
    have h1 := hF j (by omega)
    simp only [Addr.add_mid] at h1
    have e9 : ((List.range len).map F).getD j default = F j := by simp [List.getD_eq_getElem?_getD, hj]
    rw [e9]
    obtain ⟨r, r0, r1, r2, r3, r4, r5, r6, r7⟩ := h1
    simp only [← Nat.add_assoc] at r1 r2 r3 r4 r5 r6 r7
    exact ⟨r, r0, r1, r2, r3, r4, r5, r6, r7⟩
end
end Go.Proofs.Ytggoaelbglhehaa
/- Words for rows: what the reading of AnchorWhole's tries says of memory. -/
set_option linter.unusedVariables false
set_option linter.unusedSimpArgs false
namespace Go.Proofs.Ytggoaelbglhehaa
open Go.ChangeShapes Go.WideShapes Go.RowKit Go.Deep
section
variable {H : Type} {enc : TypeId × Value → H} {P : Program} {W : World} {base : Nat} {spare : Nat → Bool} {held : Bool} {t e : TypeId} {a : Option Addr} {len cap : Nat} {d : DataW H} {ps : List MemPlace} {ts : List TypeId} {ds : List (DataW H)} {j : Nat}
theorem sp_trod {fuel : Nat} {y : DataW H × List MemPlace} {f0 f1 f2 f3 f4 f5 f6 f7 g0 g1 : Field} {c0 c1 c2 c3 c4 c5 c6 c7 c8 : Value} (hs : P.underlying t = some (.struct #[f0, f1, f2, f3, f4, f5, f6, f7]))
    (o0 : f0.offset = 0) (o1 : f1.offset = 1) (o2 : f2.offset = 2) (o3 : f3.offset = 3) (o4 : f4.offset = 4) (o5 : f5.offset = 6) (o6 : f6.offset = 7) (o7 : f7.offset = 8)
    (k0 : P.cellsOf f0.type = 1) (k1 : P.cellsOf f1.type = 1) (k2 : P.cellsOf f2.type = 1) (k3 : P.cellsOf f3.type = 1) (k4 : P.cellsOf f4.type = 2) (k5 : P.cellsOf f5.type = 1) (k6 : P.cellsOf f6.type = 1) (k7 : P.cellsOf f7.type = 1)
    (u0 : P.underlying f0.type = some (.int .i64)) (u1 : P.underlying f1.type = some (.int .i64)) (u2 : P.underlying f2.type = some (.int .i64)) (u3 : P.underlying f3.type = some (.int .i64)) (u4 : P.underlying f4.type = some (.struct #[g0, g1])) (u5 : P.underlying f5.type = some (.int .i64)) (u6 : P.underlying f6.type = some (.int .i64)) (u7 : P.underlying f7.type = some (.int .i64))
    (q0 : g0.offset = 0) (q1 : g1.offset = 1) (m0 : P.cellsOf g0.type = 1) (m1 : P.cellsOf g1.type = 1) (v0 : P.underlying g0.type = some (.int .i64)) (v1 : P.underlying g1.type = some (.int .i64))
    (hf : DataW.trod enc P W base spare held fuel t [c0, c1, c2, c3, c4, c5, c6, c7, c8] = some y) : ∃ s : Sp, s.ok ∧ c0 = .int .i64 s.gen ∧ c1 = .int .i64 s.epoch ∧ c2 = .int .i64 s.blocks ∧ c3 = .int .i64 s.log ∧ c4 = .int .i64 s.stamp ∧ c5 = .int .i64 s.at_ ∧ c6 = .int .i64 s.root ∧ c7 = .int .i64 s.count ∧ c8 = .int .i64 s.version := by
  obtain ⟨xs, n, _, hx, _, hlen, hg⟩ := DataW.trod_struct hs hf
  match xs, hlen with
  | [y0, y1, y2, y3, y4, y5, y6, y7], _ =>
    have e0 : DataW.trod enc P W base spare held n f0.type [c0] = some y0 := by simpa [Value.cells, o0, k0] using hg 0 f0 rfl
    have e1 : DataW.trod enc P W base spare held n f1.type [c1] = some y1 := by simpa [Value.cells, o1, k1] using hg 1 f1 rfl
    have e2 : DataW.trod enc P W base spare held n f2.type [c2] = some y2 := by simpa [Value.cells, o2, k2] using hg 2 f2 rfl
    have e3 : DataW.trod enc P W base spare held n f3.type [c3] = some y3 := by simpa [Value.cells, o3, k3] using hg 3 f3 rfl
    have e4 : DataW.trod enc P W base spare held n f4.type [c4, c5] = some y4 := by simpa [Value.cells, o4, k4] using hg 4 f4 rfl
    have e5 : DataW.trod enc P W base spare held n f5.type [c6] = some y5 := by simpa [Value.cells, o5, k5] using hg 5 f5 rfl
    have e6 : DataW.trod enc P W base spare held n f6.type [c7] = some y6 := by simpa [Value.cells, o6, k6] using hg 6 f6 rfl
    have e7 : DataW.trod enc P W base spare held n f7.type [c8] = some y7 := by simpa [Value.cells, o7, k7] using hg 7 f7 rfl
    obtain ⟨zs, n', _, hz, _, hzl, hgg⟩ := DataW.trod_struct u4 e4
    match zs, hzl with
    | [z0, z1], _ =>
      have d0 : DataW.trod enc P W base spare held n' g0.type [c4] = some z0 := by simpa [q0, m0] using hgg 0 g0 rfl
      have d1 : DataW.trod enc P W base spare held n' g1.type [c5] = some z1 := by simpa [q1, m1] using hgg 1 g1 rfl
      obtain ⟨x0, rfl, w0⟩ := i64_one u0 e0
      obtain ⟨x1, rfl, w1⟩ := i64_one u1 e1
      obtain ⟨x2, rfl, w2⟩ := i64_one u2 e2
      obtain ⟨x3, rfl, w3⟩ := i64_one u3 e3
      obtain ⟨x4, rfl, w4⟩ := i64_one v0 d0
      obtain ⟨x5, rfl, w5⟩ := i64_one v1 d1
      obtain ⟨x6, rfl, w6⟩ := i64_one u5 e5
      obtain ⟨x7, rfl, w7⟩ := i64_one u6 e6
      obtain ⟨x8, rfl, w8⟩ := i64_one u7 e7
      exact ⟨⟨x0, x1, x2, x3, x4, x5, x6, x7, x8⟩, ⟨w0, w1, w2, w3, w4, w5, w6, w7, w8⟩, rfl, rfl, rfl, rfl, rfl, rfl, rfl, rfl, rfl⟩
theorem rdtry_of {h0 h1 h2 h3 s0 s1 s2 s3 s4 s5 s6 s7 g0 g1 f0 f1 : Field} {tf : TypeId} (hsz : (DataW.weightsEach P ts ds).all (· ≤ reachBytes) = true) (ht : ts[j]? = some t) (hd : ds[j]? = some d) (hu : P.underlying t = some (.slice e)) (he : P.underlying e = some (.struct #[h0, h1, h2, h3])) (ce : P.cellsOf e = 12)
    (p0 : h0.offset = 0) (p1 : h1.offset = 9) (p2 : h2.offset = 10) (p3 : h3.offset = 11)
    (l0 : P.cellsOf h0.type = 9) (l1 : P.cellsOf h1.type = 1) (l2 : P.cellsOf h2.type = 1) (l3 : P.cellsOf h3.type = 1)
    (w0 : P.underlying h0.type = some (.struct #[s0, s1, s2, s3, s4, s5, s6, s7])) (w1 : P.underlying h1.type = some (.int .i64)) (w2 : P.underlying h2.type = some .bool) (w3 : P.underlying h3.type = some (.slice tf))
    (n0 : s0.offset = 0) (n1 : s1.offset = 1) (n2 : s2.offset = 2) (n3 : s3.offset = 3) (n4 : s4.offset = 4) (n5 : s5.offset = 6) (n6 : s6.offset = 7) (n7 : s7.offset = 8)
    (k0 : P.cellsOf s0.type = 1) (k1 : P.cellsOf s1.type = 1) (k2 : P.cellsOf s2.type = 1) (k3 : P.cellsOf s3.type = 1) (k4 : P.cellsOf s4.type = 2) (k5 : P.cellsOf s5.type = 1) (k6 : P.cellsOf s6.type = 1) (k7 : P.cellsOf s7.type = 1)
    (u0 : P.underlying s0.type = some (.int .i64)) (u1 : P.underlying s1.type = some (.int .i64)) (u2 : P.underlying s2.type = some (.int .i64)) (u3 : P.underlying s3.type = some (.int .i64)) (u4 : P.underlying s4.type = some (.struct #[g0, g1])) (u5 : P.underlying s5.type = some (.int .i64)) (u6 : P.underlying s6.type = some (.int .i64)) (u7 : P.underlying s7.type = some (.int .i64))
    (i0 : g0.offset = 0) (i1 : g1.offset = 1) (m0 : P.cellsOf g0.type = 1) (m1 : P.cellsOf g1.type = 1) (v0 : P.underlying g0.type = some (.int .i64)) (v1 : P.underlying g1.type = some (.int .i64))
    (q1 : P.underlying tf = some (.struct #[f0, f1])) (q2 : P.cellsOf tf = 2) (q3 : P.bytesOf tf = 16)
    (o0 : f0.offset = 0) (o1 : f1.offset = 1) (c0 : P.cellsOf f0.type = 1) (c1 : P.cellsOf f1.type = 1) (y0 : P.underlying f0.type = some (.int .i64)) (y1 : P.underlying f1.type = some (.int .i64)) (hm : len ≤ 140737488351232)
    (h : DataW.Trod enc P W base spare held t (.slice a len cap) d ps) : ∃ l, RdTry W a len cap l := by
  have hwt := arg_weights hsz ht hd
  obtain ⟨fuel, hf⟩ := h
  rcases open_slice hu hf with ⟨hcs, _⟩ | ⟨x, l, c, m, n, D, Pl, hcs, _, hl, _, hmm, hx, hV⟩
  · simp [Value.cells] at hcs
    obtain ⟨rfl, rfl, rfl⟩ := hcs
    exact ⟨[], rfl, Nat.le_refl _, by omega, fun hp => absurd hp (by omega)⟩
  · simp [Value.cells] at hcs
    obtain ⟨rfl, rfl, rfl⟩ := hcs
    have hlm : len ≤ m := by rw [hmm]; split <;> omega
    obtain ⟨hx, _⟩ := Prod.mk.inj hx
    subst hx
    have each : ∀ i, i < len → ∃ o : TryD, o.ok ∧ (W.cell? (x.add (i * 12)) = some (.int .i64 o.s.gen) ∧ W.cell? (x.add (i * 12 + 1)) = some (.int .i64 o.s.epoch) ∧ W.cell? (x.add (i * 12 + 2)) = some (.int .i64 o.s.blocks) ∧ W.cell? (x.add (i * 12 + 3)) = some (.int .i64 o.s.log) ∧ W.cell? (x.add (i * 12 + 4)) = some (.int .i64 o.s.stamp) ∧ W.cell? (x.add (i * 12 + 5)) = some (.int .i64 o.s.at_) ∧ W.cell? (x.add (i * 12 + 6)) = some (.int .i64 o.s.root) ∧ W.cell? (x.add (i * 12 + 7)) = some (.int .i64 o.s.count) ∧ W.cell? (x.add (i * 12 + 8)) = some (.int .i64 o.s.version) ∧ W.cell? (x.add (i * 12 + 9)) = some (.int .i64 o.arm) ∧ W.cell? (x.add (i * 12 + 10)) = some (.bool o.crash)) ∧
        (∃ A n c, W.cell? (x.add (i * 12 + 11)) = some (.slice A n c) ∧ RdF W A n c o.F) := by
      intro i hi
      obtain ⟨cs', s1', s2'⟩ := hV i (by omega)
      rw [ce] at s1'
      obtain ⟨_, hlen, hcell⟩ := World.cells?_some s1'
      obtain ⟨xs, k, hk, hxy, _, hxl, hfl⟩ := DataW.trod_struct he s2'
      match xs, hxl, cs', hlen with
      | [t0, t1, t2, t3], _, [b0, b1, b2, b3, b4, b5, b6, b7, b8, b9, b10, b11], _ =>
        have e0 := hfl 0 h0 rfl
        have e1 := hfl 1 h1 rfl
        have e2 := hfl 2 h2 rfl
        have e3 := hfl 3 h3 rfl
        simp [p0, p1, p2, p3, l0, l1, l2, l3] at e0 e1 e2 e3
        have a0 := hcell 0 (by omega)
        have a1 := hcell 1 (by omega)
        have a2 := hcell 2 (by omega)
        have a3 := hcell 3 (by omega)
        have a4 := hcell 4 (by omega)
        have a5 := hcell 5 (by omega)
        have a6 := hcell 6 (by omega)
        have a7 := hcell 7 (by omega)
        have a8 := hcell 8 (by omega)
        have a9 := hcell 9 (by omega)
        have a10 := hcell 10 (by omega)
        have a11 := hcell 11 (by omega)
        rw [add_add] at a0 a1 a2 a3 a4 a5 a6 a7 a8 a9 a10 a11
        obtain ⟨S, hS, rfl, rfl, rfl, rfl, rfl, rfl, rfl, rfl, rfl⟩ := sp_trod w0 n0 n1 n2 n3 n4 n5 n6 n7 k0 k1 k2 k3 k4 k5 k6 k7 u0 u1 u2 u3 u4 u5 u6 u7 i0 i1 m0 m1 v0 v1 e0
        obtain ⟨z1, hb1, hw1⟩ := i64_one w1 e1
        obtain ⟨z2, hb2, _⟩ := DataW.trod_bool w2 e2
        simp at hb2
        subst hb1 hb2
        have hD : D i = .agg [t0.1, t1.1, t2.1, t3.1] := (Prod.mk.inj hxy).1
        have hDw : ∀ n ∈ (D i).weights P e, n ≤ reachBytes := fun n hn => elem_weight hu hwt (List.mem_map.2 ⟨i, by simpa using hi, rfl⟩) hn
        have hw7 : ∀ n ∈ t3.1.weights P h3.type, n ≤ reachBytes := fun n hn => hDw n (by
          rw [hD]; simp only [DataW.weights, he]
          exact DataW.weights_mem_each (j := 3) (t := h3.type) (d := t3.1) rfl rfl _ hn)
        obtain ⟨A7, n7', d7, l7, rfl, hr7, hn7⟩ := rdf_cell w3 q1 q2 q3 o0 o1 c0 c1 y0 y1 hw7 e3
        exact ⟨⟨S, z1, z2, l7⟩, ⟨hS, hw1, by have := hr7.len; simp only; omega⟩, ⟨by simpa using a0, by simpa using a1, by simpa using a2, by simpa using a3, by simpa using a4, by simpa using a5, by simpa using a6, by simpa using a7, by simpa using a8, by simpa using a9, by simpa using a10⟩, ⟨A7, n7', d7, by simpa using a11, hr7⟩⟩
    obtain ⟨F, hF⟩ := choose_lt each
    refine ⟨(List.range len).map F, by simp, hl, by omega, fun hp => ?_⟩
    have hs := spot0 (by simpa using (hF 0 (by omega)).2.1.1 : W.cell? (x.add 0) = _)
    obtain ⟨b, o, s⟩ := x
    simp only at hs
    subst hs
    refine ⟨b, o, rfl, fun j hj => ?_⟩
    have h1 := hF j (by omega)
    simp only [Addr.add_mid] at h1
    have e9 : ((List.range len).map F).getD j default = F j := by simp [List.getD_eq_getElem?_getD, hj]
    rw [e9]
    obtain ⟨r, ⟨r0, r1, r2, r3, r4, r5, r6, r7, r8, r9, r10⟩, r11⟩ := h1
    simp only [← Nat.add_assoc] at r1 r2 r3 r4 r5 r6 r7 r8 r9 r10 r11
    exact ⟨r, r0, r1, r2, r3, r4, r5, r6, r7, r8, r9, r10, r11⟩
end
end Go.Proofs.Ytggoaelbglhehaa
/- Words for rows of the narrowed statements: what the bound on the bulk of the arguments gives. -/
set_option linter.unusedVariables false
set_option linter.unusedSimpArgs false
namespace Go.Proofs.Ytggoaelbglhehaa
open Go.ChangeShapes Go.WideShapes Go.RowKit
theorem bulk_one {H : Type} (d : DataW H) : 1 ≤ Rows.uptoBulk d := by
  cases d with
  | lit l => cases l <;> simp [Rows.uptoBulk]
  | nil => simp [Rows.uptoBulk]
  | ptr d => simp [Rows.uptoBulk]
  | slice elems spare => simp [Rows.uptoBulk]
  | agg parts => simp [Rows.uptoBulk]
  | iface t d => simp [Rows.uptoBulk]
  | map entries => simp [Rows.uptoBulk]
  | held h => simp [Rows.uptoBulk]
theorem bulk_part {H : Type} {d : DataW H} {l : List (DataW H)} (h : d ∈ l) : Rows.uptoBulk d ≤ Rows.uptoBulkAll l := by
  induction l with
  | nil => cases h
  | cons x r ih =>
    simp only [Rows.uptoBulkAll]
    cases List.mem_cons.1 h with
    | inl e => subst e; omega
    | inr e => have := ih e; omega
theorem bulk_length {H : Type} (l : List (DataW H)) : l.length ≤ Rows.uptoBulkAll l := by
  induction l with
  | nil => simp [Rows.uptoBulkAll]
  | cons x r ih => have := bulk_one x; simp only [Rows.uptoBulkAll, List.length_cons]; omega
theorem bulk_slice {H : Type} (elems spare : List (DataW H)) : elems.length + spare.length + 1 ≤ Rows.uptoBulk (.slice elems spare) := by
  have h1 := bulk_length elems
  have h2 := bulk_length spare
  simp only [Rows.uptoBulk]
  omega
theorem bulk_all {H : Type} {l : List (DataW H)} (hk : Rows.uptoSmall H l = true) : Rows.uptoBulkAll l ≤ 1048576 := of_decide_eq_true hk
/-- the bulk of each of a call's arguments -/
theorem bulk_arg {H : Type} {l : List (DataW H)} (hk : Rows.uptoSmall H l = true) {d : DataW H} (hd : d ∈ l) : Rows.uptoBulk d ≤ 1048576 := Nat.le_trans (bulk_part hd) (bulk_all hk)
theorem rd_open_u {H : Type} {enc : TypeId × Value → H} {P : Program} {W : World} {base : Nat} {spare : Nat → Bool} {held : Bool} {t e : TypeId} {a : Option Addr} {len cap : Nat} {d : DataW H} {ps : List MemPlace}
    (hu : P.underlying t = some (.slice e)) (he : P.underlying e = some (.int .u8)) (hc : P.cellsOf e = 1) (hb : Rows.uptoBulk d ≤ 1048576)
    (h : DataW.Trod enc P W base spare held t (.slice a len cap) d ps) : ∃ l, Rd W a len cap l ∧ len ≤ 1048576 := by
  have hlen : len ≤ 1048576 := by
    obtain ⟨fuel, hf⟩ := h
    rcases open_ints hu he hc hf with ⟨hcs, _⟩ | ⟨x, l, c, zs, hcs, _, hl, _, hz, hx, hcell, hwz⟩
    · simp [Value.cells] at hcs; omega
    · simp [Value.cells] at hcs
      obtain ⟨rfl, rfl, rfl⟩ := hcs
      obtain ⟨hx, _⟩ := Prod.mk.inj hx
      subst hx
      have hbb := Nat.le_trans (bulk_slice (H := H) (lits .u8 (zs.take len)) (lits .u8 (zs.drop len))) hb
      have hl2 : len ≤ zs.length := by
        rw [hz]
        split
        · exact hl
        · exact Nat.le_refl _
      simp only [lits, List.length_map, List.length_take, List.length_drop] at hbb
      omega
  obtain ⟨l, hr⟩ := rd_of hu he hc h (Nat.le_trans hlen (by omega))
  exact ⟨l, hr, hlen⟩
theorem bulk_append {H : Type} (l r : List (DataW H)) : Rows.uptoBulkAll (l ++ r) = Rows.uptoBulkAll l + Rows.uptoBulkAll r := by
  induction l with
  | nil => simp [Rows.uptoBulkAll]
  | cons x l ih => simp only [List.cons_append, Rows.uptoBulkAll, ih]; omega
theorem spot_none {W : World} {x : Addr} {v : Value} (h : W.cell? (x.add 0) = some v) : x.spot = none := by
  obtain ⟨b, o, s⟩ := x
  cases s with
  | none => rfl
  | some s =>
    exfalso
    rw [show (⟨b, o, some s⟩ : Addr).add 0 = ⟨b, o, some s⟩ from rfl] at h
    simp only [World.cell?] at h
    split at h <;> simp at h
theorem flatten_bulk {H : Type} (L : Nat → List UInt8) (D : Nat → DataW H) : ∀ is : List Nat, (∀ i, i ∈ is → (L i).length + 1 ≤ Rows.uptoBulk (D i)) → (is.map L).flatten.length ≤ Rows.uptoBulkAll (is.map D)
  | [], _ => by simp
  | i :: is, h => by
    have h1 := h i (by simp)
    have h2 := flatten_bulk L D is (fun j hj => h j (by simp [hj]))
    simp only [List.map_cons, List.flatten_cons, List.length_append, Rows.uptoBulkAll]
    omega
/-- A slice of slices of bytes that came in. -/
theorem rds_open_u {H : Type} {enc : TypeId × Value → H} {P : Program} {W : World} {base : Nat} {spare : Nat → Bool} {held : Bool} {t e f : TypeId} {a : Option Addr} {len cap : Nat} {d : DataW H} {ps : List MemPlace}
    (hu : P.underlying t = some (.slice e)) (he : P.underlying e = some (.slice f)) (hf8 : P.underlying f = some (.int .u8)) (hce : P.cellsOf e = 1) (hcf : P.cellsOf f = 1) (hb : Rows.uptoBulk d ≤ 1048576)
    (h : DataW.Trod enc P W base spare held t (.slice a len cap) d ps) : ∃ ls, Rds W a len cap ls ∧ ls.flatten.length ≤ 1048576 ∧ len ≤ 1048576 := by
  obtain ⟨fuel, hf⟩ := h
  rcases Go.Deep.open_slice1 hu hce hf with ⟨hcs, _⟩ | ⟨x, l, c, m, k, V, D, Pl, hcs, _, hl, _, hmm, hx, hcell⟩
  · simp [Value.cells] at hcs
    obtain ⟨rfl, rfl, rfl⟩ := hcs
    exact ⟨[], ⟨rfl, Nat.le_refl _, by omega, fun hp => absurd hp (by omega)⟩, by simp, by omega⟩
  · simp [Value.cells] at hcs
    obtain ⟨rfl, rfl, rfl⟩ := hcs
    obtain ⟨hx, _⟩ := Prod.mk.inj hx
    subst hx
    have hlm : len ≤ m := by
      rw [hmm]
      split
      · exact hl
      · exact Nat.le_refl _
    have hbb : Rows.uptoBulkAll ((List.range len).map D) ≤ 1048576 := by
      have : Rows.uptoBulkAll ((List.range len).map D) ≤ Rows.uptoBulk (.slice ((List.range len).map D) ((List.range (m - len)).map fun j => D (len + j))) := by
        simp only [Rows.uptoBulk]; omega
      omega
    have hlen : len ≤ 1048576 := by
      have := bulk_length ((List.range len).map D)
      simp at this
      omega
    have hel : ∀ i, i < len → ∃ l : List UInt8, ∃ A1 n1 c1, W.cell? (x.add i) = some (.slice A1 n1 c1) ∧ Rd W A1 n1 c1 l ∧ l.length + 1 ≤ Rows.uptoBulk (D i) := by
      intro i hi
      obtain ⟨h1, h2⟩ := hcell i (by omega)
      have hDi : Rows.uptoBulk (D i) ≤ 1048576 := Nat.le_trans (bulk_part (List.mem_map.2 ⟨i, by simpa using hi, rfl⟩)) hbb
      rcases open_ints he hf8 hcf h2 with ⟨hcs, hxx⟩ | ⟨x1, l1, c1, zs, hcs, _, hl1, _, hz, hxx, hcell1, hwz⟩
      · simp at hcs
        rw [hcs] at h1
        exact ⟨[], none, 0, 0, h1, Rd.nil _, by have := bulk_one (D i); simpa using this⟩
      · simp at hcs
        obtain ⟨hD, _⟩ := Prod.mk.inj hxx
        have hbl := bulk_slice (H := H) (lits .u8 (zs.take l1)) (lits .u8 (zs.drop l1))
        rw [← hD] at hbl
        have hl2 : l1 ≤ zs.length := by
          rw [hz]
          split
          · exact hl1
          · exact Nat.le_refl _
        simp only [lits, List.length_map, List.length_take, List.length_drop] at hbl
        rw [hcs] at h1 h2
        obtain ⟨l, hr⟩ := rd_of he hf8 hcf ⟨_, h2⟩ (by omega)
        exact ⟨l, _, _, _, h1, hr, by have := hr.len; omega⟩
    obtain ⟨L, hL⟩ := Go.Deep.choose_lt hel
    refine ⟨(List.range len).map L, ⟨by simp, hl, by omega, fun hp => ?_⟩, Nat.le_trans (flatten_bulk L D _ (fun i hi => ?_)) hbb, hlen⟩
    · obtain ⟨A1, n1, c1, h0, _⟩ := hL 0 hp
      have hs := spot_none h0
      obtain ⟨b, o, s⟩ := x
      simp at hs
      subst hs
      refine ⟨b, o, rfl, fun j hj => ?_⟩
      obtain ⟨A1, n1, c1, h1, h2, _⟩ := hL j hj
      rw [Addr.add_mid] at h1
      refine ⟨A1, n1, c1, h1, ?_⟩
      have hg : ((List.range len).map L).getD j [] = L j := by
        simp [List.getD_eq_getElem?_getD, hj]
      rw [hg]; exact h2
    · obtain ⟨A1, n1, c1, _, _, h3⟩ := hL i (by simpa using hi)
      exact h3
end Go.Proofs.Ytggoaelbglhehaa
/- Words for rows of the narrowed statements: a script of steps on a device that came in. -/
set_option linter.unusedVariables false
set_option linter.unusedSimpArgs false
namespace Go.Proofs.Ytggoaelbglhehaa
open Go.ChangeShapes Go.WideShapes Go.RowKit Go.Deep
section
variable {H : Type} {enc : TypeId × Value → H} {P : Program} {W : World} {base : Nat} {spare : Nat → Bool} {held : Bool} {t e : TypeId} {v : Value} {d : DataW H} {ps : List MemPlace} {fuel : Nat}
theorem rd_cell_u (hu : P.underlying t = some (.slice e)) (he : P.underlying e = some (.int .u8)) (hc : P.cellsOf e = 1) (hb : Rows.uptoBulk d ≤ 1048576)
    (h : DataW.trod enc P W base spare held fuel t [v] = some (d, ps)) : ∃ A n c l, v = .slice A n c ∧ Rd W A n c l ∧ n ≤ 1048576 := by
  have h' := h
  rcases open_ints hu he hc h with ⟨hcs, hx⟩ | ⟨x, l, c, zs, hcs, _, hl, _, hz, hx, hcell, hwz⟩
  · simp at hcs
    exact ⟨none, 0, 0, [], hcs, Rd.nil _, by omega⟩
  · simp at hcs
    subst hcs
    obtain ⟨L, hr, hn⟩ := rd_open_u hu he hc hb ⟨_, h'⟩
    exact ⟨_, _, _, L, rfl, hr, hn⟩
theorem rdf_cell_u {f0 f1 : Field} (hu : P.underlying t = some (.slice e)) (he : P.underlying e = some (.struct #[f0, f1])) (ce : P.cellsOf e = 2) 
    (o0 : f0.offset = 0) (o1 : f1.offset = 1) (c0 : P.cellsOf f0.type = 1) (c1 : P.cellsOf f1.type = 1) (u0 : P.underlying f0.type = some (.int .i64)) (u1 : P.underlying f1.type = some (.int .i64)) (hb : Rows.uptoBulk d ≤ 1048576)
    (h : DataW.trod enc P W base spare held fuel t [v] = some (d, ps)) : ∃ A n c l, v = .slice A n c ∧ RdF W A n c l ∧ n ≤ 1048576 := by
  rcases open_slice hu h with ⟨hcs, _⟩ | ⟨x, len, cap, m, n, D, Pl, hcs, _, hl, _, hmm, hx, hV⟩
  · simp at hcs
    exact ⟨none, 0, 0, [], hcs, RdF.nil _, by omega⟩
  · simp at hcs
    obtain ⟨hx, _⟩ := Prod.mk.inj hx
    subst hx hcs
    have hlm : len ≤ m := by rw [hmm]; split <;> omega
    have z : len ≤ 1048576 := by
      have h1 := bulk_length ((List.range len).map D)
      rw [List.length_map, List.length_range] at h1
      simp only [Rows.uptoBulk] at hb
      omega
    have each : ∀ i, i < len → ∃ o : Ft, W.cell? (x.add (i * 2)) = some (.int .i64 o.kind) ∧ W.cell? (x.add (i * 2 + 1)) = some (.int .i64 o.at_) := by
      intro i hi
      obtain ⟨cs', h1, h2⟩ := hV i (by omega)
      rw [ce] at h1
      obtain ⟨_, hlen, hcell⟩ := World.cells?_some h1
      obtain ⟨xs, k, hk, hxy, _, hxl, hfl⟩ := DataW.trod_struct he h2
      match xs, hxl, cs', hlen with
      | [y0, y1], _, [v0, v1], _ =>
        have g0 := hfl 0 f0 rfl
        have g1 := hfl 1 f1 rfl
        simp [o0, o1, c0, c1] at g0 g1
        have e0 := hcell 0 (by omega)
        have e1 := hcell 1 (by omega)
        rw [add_add] at e0 e1
        obtain ⟨b0, hb0, _, _⟩ := DataW.trod_int u0 g0
        obtain ⟨b1, hb1, _, _⟩ := DataW.trod_int u1 g1
        simp at hb0 hb1
        subst hb0 hb1
        exact ⟨⟨b0, b1⟩, by simpa using e0, by simpa using e1⟩
    obtain ⟨F, hF⟩ := choose_lt each
    refine ⟨_, _, _, (List.range len).map F, rfl, ⟨by simp, hl, by omega, fun hp => ?_⟩, by omega⟩
    have hs := spot0 (by simpa using (hF 0 (by omega)).1 : W.cell? (x.add 0) = _)
    obtain ⟨b, o, s⟩ := x
    simp only at hs
    subst hs
    refine ⟨b, o, rfl, fun j hj => ?_⟩
    have h1 := hF j (by omega)
    simp only [Addr.add_mid] at h1
    have e9 : ((List.range len).map F).getD j default = F j := by simp [List.getD_eq_getElem?_getD, hj]
    rw [e9]
    obtain ⟨r0, r1⟩ := h1
    rw [← Nat.add_assoc] at r1
    exact ⟨r0, r1⟩
end
section
variable {H : Type} {enc : TypeId × Value → H} {P : Program} {W : World} {base : Nat} {spare : Nat → Bool} {held : Bool} {t e : TypeId} {a : Option Addr} {len cap : Nat} {d : DataW H} {ps : List MemPlace} {ts : List TypeId} {ds : List (DataW H)} {j : Nat}
theorem rdod_open_u {h0 h1 h2 h3 h4 h5 h6 h7 f0 f1 : Field} {tb tf : TypeId} (hu : P.underlying t = some (.slice e)) (he : P.underlying e = some (.struct #[h0, h1, h2, h3, h4, h5, h6, h7])) (ce : P.cellsOf e = 8)
    (p0 : h0.offset = 0) (p1 : h1.offset = 1) (p2 : h2.offset = 2) (p3 : h3.offset = 3) (p4 : h4.offset = 4) (p5 : h5.offset = 5) (p6 : h6.offset = 6) (p7 : h7.offset = 7)
    (k0 : P.cellsOf h0.type = 1) (k1 : P.cellsOf h1.type = 1) (k2 : P.cellsOf h2.type = 1) (k3 : P.cellsOf h3.type = 1) (k4 : P.cellsOf h4.type = 1) (k5 : P.cellsOf h5.type = 1) (k6 : P.cellsOf h6.type = 1) (k7 : P.cellsOf h7.type = 1)
    (v0 : P.underlying h0.type = some .bool) (v1 : P.underlying h1.type = some (.int .i64)) (v2 : P.underlying h2.type = some (.int .i64)) (v3 : P.underlying h3.type = some (.int .i64)) (v4 : P.underlying h4.type = some (.int .i64)) (v5 : P.underlying h5.type = some (.int .u8))
    (v6 : P.underlying h6.type = some (.slice tb)) (v7 : P.underlying h7.type = some (.slice tf)) (b1 : P.underlying tb = some (.int .u8)) (b2 : P.cellsOf tb = 1)
    (q1 : P.underlying tf = some (.struct #[f0, f1])) (q2 : P.cellsOf tf = 2)
    (o0 : f0.offset = 0) (o1 : f1.offset = 1) (c0 : P.cellsOf f0.type = 1) (c1 : P.cellsOf f1.type = 1) (u0 : P.underlying f0.type = some (.int .i64)) (u1 : P.underlying f1.type = some (.int .i64)) (hb : Rows.uptoBulk d ≤ 1048576)
    (h : DataW.Trod enc P W base spare held t (.slice a len cap) d ps) : ∃ l, RdO W a len cap l ∧ len ≤ 1048576 := by
  obtain ⟨fuel, hf⟩ := h
  rcases open_slice hu hf with ⟨hcs, _⟩ | ⟨x, l, c, m, n, D, Pl, hcs, _, hl, _, hmm, hx, hV⟩
  · simp [Value.cells] at hcs
    obtain ⟨rfl, rfl, rfl⟩ := hcs
    exact ⟨[], ⟨rfl, Nat.le_refl _, by omega, fun hp => absurd hp (by omega)⟩, by omega⟩
  · simp [Value.cells] at hcs
    obtain ⟨rfl, rfl, rfl⟩ := hcs
    have hlm : len ≤ m := by rw [hmm]; split <;> omega
    obtain ⟨hx, _⟩ := Prod.mk.inj hx
    subst hx
    have hbA : Rows.uptoBulkAll ((List.range len).map D) ≤ 1048576 := by
      simp only [Rows.uptoBulk] at hb
      omega
    have hlen0 : len ≤ 1048576 := by
      have h1 := bulk_length ((List.range len).map D)
      rw [List.length_map, List.length_range] at h1
      omega
    have each : ∀ i, i < len → ∃ o : OpD, o.ok ∧ W.cell? (x.add (i * 8)) = some (.bool o.two) ∧ W.cell? (x.add (i * 8 + 1)) = some (.int .i64 o.kind) ∧ W.cell? (x.add (i * 8 + 2)) = some (.int .i64 o.blk) ∧ W.cell? (x.add (i * 8 + 3)) = some (.int .i64 o.num) ∧ W.cell? (x.add (i * 8 + 4)) = some (.int .i64 o.len) ∧ W.cell? (x.add (i * 8 + 5)) = some (.int .u8 (o.fill.toNat : Int)) ∧
        (∃ A n c, W.cell? (x.add (i * 8 + 6)) = some (.slice A n c) ∧ Rd W A n c o.B) ∧ (∃ A n c, W.cell? (x.add (i * 8 + 7)) = some (.slice A n c) ∧ RdF W A n c o.F) := by
      intro i hi
      obtain ⟨cs', s1, s2⟩ := hV i (by omega)
      rw [ce] at s1
      obtain ⟨_, hlen, hcell⟩ := World.cells?_some s1
      obtain ⟨xs, k, hk, hxy, _, hxl, hfl⟩ := DataW.trod_struct he s2
      match xs, hxl, cs', hlen with
      | [y0, y1, y2, y3, y4, y5, y6, y7], _, [w0, w1, w2, w3, w4, w5, w6, w7], _ =>
        have g0 := hfl 0 h0 rfl
        have g1 := hfl 1 h1 rfl
        have g2 := hfl 2 h2 rfl
        have g3 := hfl 3 h3 rfl
        have g4 := hfl 4 h4 rfl
        have g5 := hfl 5 h5 rfl
        have g6 := hfl 6 h6 rfl
        have g7 := hfl 7 h7 rfl
        simp [p0, p1, p2, p3, p4, p5, p6, p7, k0, k1, k2, k3, k4, k5, k6, k7] at g0 g1 g2 g3 g4 g5 g6 g7
        have e0 := hcell 0 (by omega)
        have e1 := hcell 1 (by omega)
        have e2 := hcell 2 (by omega)
        have e3 := hcell 3 (by omega)
        have e4 := hcell 4 (by omega)
        have e5 := hcell 5 (by omega)
        have e6 := hcell 6 (by omega)
        have e7 := hcell 7 (by omega)
        rw [add_add] at e0 e1 e2 e3 e4 e5 e6 e7
        obtain ⟨b0, hb0, _⟩ := DataW.trod_bool v0 g0
        obtain ⟨z1, hb1, _, hw1⟩ := DataW.trod_int v1 g1
        obtain ⟨z2, hb2, _, hw2⟩ := DataW.trod_int v2 g2
        obtain ⟨z3, hb3, _, hw3⟩ := DataW.trod_int v3 g3
        obtain ⟨z4, hb4, _, hw4⟩ := DataW.trod_int v4 g4
        obtain ⟨z5, hb5, _, hw5⟩ := DataW.trod_int v5 g5
        simp at hb0 hb1 hb2 hb3 hb4 hb5
        subst hb0 hb1 hb2 hb3 hb4 hb5
        have hD : D i = .agg [y0.1, y1.1, y2.1, y3.1, y4.1, y5.1, y6.1, y7.1] := (Prod.mk.inj hxy).1
        have hDb : Rows.uptoBulk (D i) ≤ 1048576 := Nat.le_trans (bulk_part (List.mem_map.2 ⟨i, by simpa using hi, rfl⟩)) hbA
        rw [hD] at hDb
        simp only [Rows.uptoBulk, Rows.uptoBulkAll] at hDb
        obtain ⟨A6, n6, d6, l6, rfl, hr6, hn6⟩ := rd_cell_u v6 b1 b2 (by omega) g6
        obtain ⟨A7, n7, d7, l7, rfl, hr7, hn7⟩ := rdf_cell_u v7 q1 q2 o0 o1 c0 c1 u0 u1 (by omega) g7
        have h8 := wf_u8 hw5
        refine ⟨⟨b0, z1, z2, z3, z4, UInt8.ofNat z5.toNat, l6, l7⟩, ⟨wf_i64 hw1, wf_i64 hw2, wf_i64 hw3, wf_i64 hw4, by have := hr6.len; simp only; omega, by have := hr7.len; simp only; omega⟩, by simpa using e0, by simpa using e1, by simpa using e2, by simpa using e3, by simpa using e4, ?_, ⟨A6, n6, d6, by simpa using e6, hr6⟩, ⟨A7, n7, d7, by simpa using e7, hr7⟩⟩
        rw [show (((UInt8.ofNat z5.toNat).toNat : Nat) : Int) = z5 by rw [UInt8.toNat_ofNat']; omega]
        simpa using e5
    obtain ⟨F, hF⟩ := choose_lt each
    refine ⟨(List.range len).map F, ⟨by simp, hl, by omega, fun hp => ?_⟩, hlen0⟩
    have hs := spot0 (by simpa using (hF 0 (by omega)).2.1 : W.cell? (x.add 0) = _)
    obtain ⟨b, o, s⟩ := x
    simp only at hs
    subst hs
    refine ⟨b, o, rfl, fun j hj => ?_⟩
    have h1 := hF j (by omega)
    simp only [Addr.add_mid] at h1
    have e9 : ((List.range len).map F).getD j default = F j := by simp [List.getD_eq_getElem?_getD, hj]
    rw [e9]
    obtain ⟨r, r0, r1, r2, r3, r4, r5, r6, r7⟩ := h1
    simp only [← Nat.add_assoc] at r1 r2 r3 r4 r5 r6 r7
    exact ⟨r, r0, r1, r2, r3, r4, r5, r6, r7⟩
end
end Go.Proofs.Ytggoaelbglhehaa
/- Words for rows of the narrowed statements: AnchorPlays' steps. -/
set_option linter.unusedVariables false
set_option linter.unusedSimpArgs false
namespace Go.Proofs.Ytggoaelbglhehaa
open Go.ChangeShapes Go.WideShapes Go.RowKit Go.Deep
section
variable {H : Type} {enc : TypeId × Value → H} {P : Program} {W : World} {base : Nat} {spare : Nat → Bool} {held : Bool} {t e : TypeId} {a : Option Addr} {len cap : Nat} {d : DataW H} {ps : List MemPlace} {ts : List TypeId} {ds : List (DataW H)} {j : Nat}
theorem rdopa_open_u {h0 h1 h2 h3 h4 h5 s0 s1 s2 s3 s4 s5 s6 s7 g0 g1 f0 f1 : Field} {tb tf : TypeId} (hu : P.underlying t = some (.slice e)) (he : P.underlying e = some (.struct #[h0, h1, h2, h3, h4, h5])) (ce : P.cellsOf e = 14)
    (p0 : h0.offset = 0) (p1 : h1.offset = 1) (p2 : h2.offset = 10) (p3 : h3.offset = 11) (p4 : h4.offset = 12) (p5 : h5.offset = 13)
    (l0 : P.cellsOf h0.type = 1) (l1 : P.cellsOf h1.type = 9) (l2 : P.cellsOf h2.type = 1) (l3 : P.cellsOf h3.type = 1) (l4 : P.cellsOf h4.type = 1) (l5 : P.cellsOf h5.type = 1)
    (w0 : P.underlying h0.type = some (.int .i64)) (w1 : P.underlying h1.type = some (.struct #[s0, s1, s2, s3, s4, s5, s6, s7])) (w2 : P.underlying h2.type = some (.int .i64)) (w3 : P.underlying h3.type = some (.int .i64)) (w4 : P.underlying h4.type = some (.slice tb)) (w5 : P.underlying h5.type = some (.slice tf))
    (n0 : s0.offset = 0) (n1 : s1.offset = 1) (n2 : s2.offset = 2) (n3 : s3.offset = 3) (n4 : s4.offset = 4) (n5 : s5.offset = 6) (n6 : s6.offset = 7) (n7 : s7.offset = 8)
    (k0 : P.cellsOf s0.type = 1) (k1 : P.cellsOf s1.type = 1) (k2 : P.cellsOf s2.type = 1) (k3 : P.cellsOf s3.type = 1) (k4 : P.cellsOf s4.type = 2) (k5 : P.cellsOf s5.type = 1) (k6 : P.cellsOf s6.type = 1) (k7 : P.cellsOf s7.type = 1)
    (u0 : P.underlying s0.type = some (.int .i64)) (u1 : P.underlying s1.type = some (.int .i64)) (u2 : P.underlying s2.type = some (.int .i64)) (u3 : P.underlying s3.type = some (.int .i64)) (u4 : P.underlying s4.type = some (.struct #[g0, g1])) (u5 : P.underlying s5.type = some (.int .i64)) (u6 : P.underlying s6.type = some (.int .i64)) (u7 : P.underlying s7.type = some (.int .i64))
    (i0 : g0.offset = 0) (i1 : g1.offset = 1) (m0 : P.cellsOf g0.type = 1) (m1 : P.cellsOf g1.type = 1) (v0 : P.underlying g0.type = some (.int .i64)) (v1 : P.underlying g1.type = some (.int .i64))
    (b1 : P.underlying tb = some (.int .u8)) (b2 : P.cellsOf tb = 1)
    (q1 : P.underlying tf = some (.struct #[f0, f1])) (q2 : P.cellsOf tf = 2)
    (o0 : f0.offset = 0) (o1 : f1.offset = 1) (c0 : P.cellsOf f0.type = 1) (c1 : P.cellsOf f1.type = 1) (y0 : P.underlying f0.type = some (.int .i64)) (y1 : P.underlying f1.type = some (.int .i64)) (hb : Rows.uptoBulk d ≤ 1048576)
    (h : DataW.Trod enc P W base spare held t (.slice a len cap) d ps) : ∃ l, RdOpA W a len cap l ∧ len ≤ 1048576 := by
  obtain ⟨fuel, hf⟩ := h
  rcases open_slice hu hf with ⟨hcs, _⟩ | ⟨x, l, c, m, n, D, Pl, hcs, _, hl, _, hmm, hx, hV⟩
  · simp [Value.cells] at hcs
    obtain ⟨rfl, rfl, rfl⟩ := hcs
    exact ⟨[], ⟨rfl, Nat.le_refl _, by omega, fun hp => absurd hp (by omega)⟩, by omega⟩
  · simp [Value.cells] at hcs
    obtain ⟨rfl, rfl, rfl⟩ := hcs
    have hlm : len ≤ m := by rw [hmm]; split <;> omega
    obtain ⟨hx, _⟩ := Prod.mk.inj hx
    subst hx
    have hbA : Rows.uptoBulkAll ((List.range len).map D) ≤ 1048576 := by
      simp only [Rows.uptoBulk] at hb
      omega
    have hlen0 : len ≤ 1048576 := by
      have h1 := bulk_length ((List.range len).map D)
      rw [List.length_map, List.length_range] at h1
      omega
    have each : ∀ i, i < len → ∃ o : OpA, o.ok ∧ (W.cell? (x.add (i * 14)) = some (.int .i64 o.kind) ∧ W.cell? (x.add (i * 14 + 1)) = some (.int .i64 o.s.gen) ∧ W.cell? (x.add (i * 14 + 2)) = some (.int .i64 o.s.epoch) ∧ W.cell? (x.add (i * 14 + 3)) = some (.int .i64 o.s.blocks) ∧ W.cell? (x.add (i * 14 + 4)) = some (.int .i64 o.s.log) ∧ W.cell? (x.add (i * 14 + 5)) = some (.int .i64 o.s.stamp) ∧ W.cell? (x.add (i * 14 + 6)) = some (.int .i64 o.s.at_) ∧ W.cell? (x.add (i * 14 + 7)) = some (.int .i64 o.s.root) ∧ W.cell? (x.add (i * 14 + 8)) = some (.int .i64 o.s.count) ∧ W.cell? (x.add (i * 14 + 9)) = some (.int .i64 o.s.version) ∧ W.cell? (x.add (i * 14 + 10)) = some (.int .i64 o.num) ∧ W.cell? (x.add (i * 14 + 11)) = some (.int .i64 o.at_)) ∧
        (∃ A n c, W.cell? (x.add (i * 14 + 12)) = some (.slice A n c) ∧ Rd W A n c o.B) ∧ (∃ A n c, W.cell? (x.add (i * 14 + 13)) = some (.slice A n c) ∧ RdF W A n c o.F) := by
      intro i hi
      obtain ⟨cs', s1', s2'⟩ := hV i (by omega)
      rw [ce] at s1'
      obtain ⟨_, hlen, hcell⟩ := World.cells?_some s1'
      obtain ⟨xs, k, hk, hxy, _, hxl, hfl⟩ := DataW.trod_struct he s2'
      match xs, hxl, cs', hlen with
      | [t0, t1, t2, t3, t4, t5], _, [b0, b1', b2', b3, b4, b5, b6, b7, b8, b9, b10, b11, b12, b13], _ =>
        have e0 := hfl 0 h0 rfl
        have e1 := hfl 1 h1 rfl
        have e2 := hfl 2 h2 rfl
        have e3 := hfl 3 h3 rfl
        have e4 := hfl 4 h4 rfl
        have e5 := hfl 5 h5 rfl
        simp [p0, p1, p2, p3, p4, p5, l0, l1, l2, l3, l4, l5] at e0 e1 e2 e3 e4 e5
        have a0 := hcell 0 (by omega)
        have a1 := hcell 1 (by omega)
        have a2 := hcell 2 (by omega)
        have a3 := hcell 3 (by omega)
        have a4 := hcell 4 (by omega)
        have a5 := hcell 5 (by omega)
        have a6 := hcell 6 (by omega)
        have a7 := hcell 7 (by omega)
        have a8 := hcell 8 (by omega)
        have a9 := hcell 9 (by omega)
        have a10 := hcell 10 (by omega)
        have a11 := hcell 11 (by omega)
        have a12 := hcell 12 (by omega)
        have a13 := hcell 13 (by omega)
        rw [add_add] at a0 a1 a2 a3 a4 a5 a6 a7 a8 a9 a10 a11 a12 a13
        obtain ⟨S, hS, rfl, rfl, rfl, rfl, rfl, rfl, rfl, rfl, rfl⟩ := sp_trod w1 n0 n1 n2 n3 n4 n5 n6 n7 k0 k1 k2 k3 k4 k5 k6 k7 u0 u1 u2 u3 u4 u5 u6 u7 i0 i1 m0 m1 v0 v1 e1
        obtain ⟨z0, hb0, hw0⟩ := i64_one w0 e0
        obtain ⟨z2, hb2, hw2⟩ := i64_one w2 e2
        obtain ⟨z3, hb3, hw3⟩ := i64_one w3 e3
        subst hb0 hb2 hb3
        have hD : D i = .agg [t0.1, t1.1, t2.1, t3.1, t4.1, t5.1] := (Prod.mk.inj hxy).1
        have hDb : Rows.uptoBulk (D i) ≤ 1048576 := Nat.le_trans (bulk_part (List.mem_map.2 ⟨i, by simpa using hi, rfl⟩)) hbA
        rw [hD] at hDb
        simp only [Rows.uptoBulk, Rows.uptoBulkAll] at hDb
        obtain ⟨A6, n6, d6, l6, rfl, hr6, hn6⟩ := rd_cell_u w4 b1 b2 (by omega) e4
        obtain ⟨A7, n7', d7, l7, rfl, hr7, hn7⟩ := rdf_cell_u w5 q1 q2 o0 o1 c0 c1 y0 y1 (by omega) e5
        exact ⟨⟨z0, S, z2, z3, l6, l7⟩, ⟨hw0, hS, hw2, hw3, by have := hr6.len; simp only; omega, by have := hr7.len; simp only; omega⟩, ⟨by simpa using a0, by simpa using a1, by simpa using a2, by simpa using a3, by simpa using a4, by simpa using a5, by simpa using a6, by simpa using a7, by simpa using a8, by simpa using a9, by simpa using a10, by simpa using a11⟩, ⟨A6, n6, d6, by simpa using a12, hr6⟩, ⟨A7, n7', d7, by simpa using a13, hr7⟩⟩
    obtain ⟨F, hF⟩ := choose_lt each
    refine ⟨(List.range len).map F, ⟨by simp, hl, by omega, fun hp => ?_⟩, hlen0⟩
    have hs := spot0 (by simpa using (hF 0 (by omega)).2.1.1 : W.cell? (x.add 0) = _)
    obtain ⟨b, o, s⟩ := x
    simp only at hs
    subst hs
    refine ⟨b, o, rfl, fun j hj => ?_⟩
    have h1 := hF j (by omega)
    simp only [Addr.add_mid] at h1
    have e9 : ((List.range len).map F).getD j default = F j := by simp [List.getD_eq_getElem?_getD, hj]
    rw [e9]
    obtain ⟨r, ⟨r0, r1, r2, r3, r4, r5, r6, r7, r8, r9, r10, r11⟩, r12, r13⟩ := h1
    simp only [← Nat.add_assoc] at r1 r2 r3 r4 r5 r6 r7 r8 r9 r10 r11 r12 r13
    exact ⟨r, r0, r1, r2, r3, r4, r5, r6, r7, r8, r9, r10, r11, r12, r13⟩
end
end Go.Proofs.Ytggoaelbglhehaa
