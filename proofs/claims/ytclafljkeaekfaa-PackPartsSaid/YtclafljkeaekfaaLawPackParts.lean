/- The walk of PackParts. -/
import Derived.Test.YtclafljkeaekfaaPkL3
import Derived.Deep.QuietTactic
import Derived.BigQuiet
import Derived.Deep.RegionLaw
import Derived.Deep.RegionWith
import Derived.Deep.DeepCutAuto
import Derived.Deep.RegionHeld3
set_option linter.unusedVariables false
set_option linter.unusedSimpArgs false
set_option maxRecDepth 100000
namespace Go.Proofs.Ytclafljkeaekfaa
open Go.RowKit
theorem cut_toV (A : Option Addr) (n c hi : Nat) (h2 : hi ≤ n) (h3 : n ≤ c) (W : World) : (Instr.slice 22 (.slice A n c) none (some (.int .i64 (hi : Int))) none).run Try.prog W = .ok (.slice A hi c) W := by
  obtain ⟨i0, hi0, hzz⟩ := Option.map_eq_some_iff.1 info_val
  simp only [Prod.mk.injEq] at hzz
  obtain ⟨hz0, hz1, hz2⟩ := hzz
  have hel : Try.prog.elem 22 = 27 := by simp [Program.elem, Try.underlying22]
  have hu : Try.prog.underlying 22 = some (.slice (Try.prog.elem 22)) := by rw [hel]; exact Try.underlying22
  rw [run_slice_h W 22 A n c hu .i64 (hi : Int) (Int.natCast_nonneg _) (by omega), hel]
  have ha : A.map (fun x => x.add 0) = A := by cases A <;> simp [Addr.add]
  simp [sizeOf, typeInfo, hi0, hz1, sliced, Result.andThen, ha]
theorem cut_toB (A : Option Addr) (n c hi : Nat) (h2 : hi ≤ n) (h3 : n ≤ c) (W : World) : (Instr.slice 28 (.slice A n c) none (some (.int .i64 (hi : Int))) none).run Try.prog W = .ok (.slice A hi c) W := by
  obtain ⟨i0, hi0, hzz⟩ := Option.map_eq_some_iff.1 info_u8
  simp only [Prod.mk.injEq] at hzz
  obtain ⟨hz0, hz1, hz2⟩ := hzz
  have hel : Try.prog.elem 28 = 5 := by simp [Program.elem, Try.underlying28]
  have hu : Try.prog.underlying 28 = some (.slice (Try.prog.elem 28)) := by rw [hel]; exact Try.underlying28
  rw [run_slice_h W 28 A n c hu .i64 (hi : Int) (Int.natCast_nonneg _) (by omega), hel]
  have ha : A.map (fun x => x.add 0) = A := by cases A <;> simp [Addr.add]
  simp [sizeOf, typeInfo, hi0, hz1, sliced, Result.andThen, ha]
theorem cat_take_prefix (l : List ValV) (a : Nat) : (cat l).take (cat (l.take a)).length = cat (l.take a) ∧ (cat (l.take a)).length ≤ (cat l).length := by
  have h : cat l = cat (l.take a) ++ cat (l.drop a) := by rw [← cat_append, List.take_append_drop]
  rw [h]
  refine ⟨List.take_left' rfl, by simp⟩
/-- how the second list, made right, goes with the first -/
structure Zip (M N : List ValV) (p : Nat) : Prop where
  rt : ∀ y ∈ N, Rt y
  bulk : bulk N ≤ 1048576
  len : N.length = p
  le : p ≤ M.length
  kind : ∀ i, i < p → ((M.take p).getD i default).kind = (N.getD i default).kind
theorem zip_of (M l2 : List ValV) (k n2 : Nat) (hM : ∀ y ∈ M, Rt y) (h2 : ∀ x ∈ l2, x.ok) (hl2 : l2.length = n2) (hk : k ≤ M.length) (hk2 : k ≤ n2) : Zip M (sml (zp M l2 k) 0) (sml (zp M l2 k) 0).length := by
  have hg := sml_get (zp M l2 k) 0
  rw [zp_length] at hg
  refine ⟨sml_rt _ 0 (zp_ok M l2 h2 n2 hl2 k hk2), ?_, rfl, by omega, fun i hi => ?_⟩
  · have := sml_bulk (zp M l2 k) 0 (by omega); omega
  · rw [hg.2 i hi, zp_get M l2 k i (by omega)]
    have e : (M.take (sml (zp M l2 k) 0).length).getD i default = M.getD i default := by simp [List.getD_eq_getElem?_getD, hi]
    rw [e]
    obtain ⟨r, hr, hrk⟩ := rgt_kind (M.getD i default)
    rw [(hM _ (memV M i (by omega))).rt] at hrk
    rw [hrk]
    exact (rgt_same_kind ⟨(r : Int), _, _, _⟩ r hr rfl).symm
set_option maxHeartbeats 1000000 in
theorem walk_PackParts (A1 : Option Addr) (n1 c1 : Nat) (l1 : List ValV) (A2 : Option Addr) (n2 c2 : Nat) (l2 : List ValV) (w : World) (hr1 : RdV w A1 n1 c1 l1) (hr2 : RdV w A2 n2 c2 l2) :
    Calls Try.prog 3 #[.slice A1 n1 c1, .slice A2 n2 c2] w fun e w' => e = .returned (.bool true) ∧ Below w.heap.size w w' := by
  have HR1 := Lib.hid hr1
  have HR2 := Lib.hid hr2
  have hmx2 := hr2.max
  have HL2 := Lib.hid hr2.len
  clear hr1 hr2
  go_enter Try.func3, Try.ntmps3
  go_wp2_with fail
  refine (l2_fixed w).mono ?_
  rintro e w1 ⟨rfl, hB1⟩
  have HB1 := Lib.hid hB1
  clear hB1
  go_wp2_with fail
  refine (l2_small A1 n1 c1 l1 w1 (HR1.out.ext HB1.out)).mono ?_
  rintro e w2 ⟨vl, rfl, hO, hB⟩
  obtain ⟨M, hM⟩ : ∃ M, M = sml l1 0 := ⟨_, rfl⟩
  rw [← hM] at hO
  have hrt : ∀ y ∈ M, Rt y := by rw [hM]; exact sml_rt l1 0 HR1.out.ok
  have hbk : bulk M ≤ 1048576 := by have := sml_bulk l1 0 (by omega); rw [← hM] at this; omega
  obtain ⟨q, hq⟩ : ∃ q, q = M.length := ⟨_, rfl⟩
  rw [← hq] at hO
  have hq5 : 10 * q ≤ 1048576 := by have := bulk_len M; rw [hq]; omega
  obtain ⟨Al, cl, rfl, hRl⟩ := hO.rd (by omega) (fun y hy => (hrt y hy).ok)
  have HB2 := Lib.hid (HB1.out.trans (hB.mono HB1.out.size))
  have HRl := Lib.hid hRl
  have HRT := Lib.hid hrt
  have HBK := Lib.hid hbk
  have HQ := Lib.hid hq
  have HR22 := Lib.hid (HR2.out.ext (w' := w2) (by have h := HB2.out; exact h))
  clear hO hB hM hrt hbk hq hRl
  go_wp2_with fail
  go_loopw [6, 7, 8] (fun vm ix _ wx => ∃ k : Nat, k ≤ q ∧ k ≤ n2 ∧ ix = .int .i64 k ∧ OwnV wx w2.heap.size vm k (zp M l2 k) ∧ Below w2.heap.size w2 wx) (fun _ x _ _ => q - (intOf x).toNat)
  case atStart => exact ⟨0, by omega, by omega, rfl, OwnV.nil _ _, Below.refl _ _⟩
  case round =>
    obtain ⟨k, hk, hk2, rfl, hO, hB⟩ := hrel
    have HO := Lib.hid hO
    have HB := Lib.hid hB
    have hz := hB.size
    clear hO hB
    by_cases hkk : k < q ∧ k < n2
    · obtain ⟨h1, h2⟩ := hkk
      have h1i : (k : Int) < (q : Int) := by omega
      have h2i : (k : Int) < (n2 : Int) := by omega
      obtain ⟨bb, oo, rfl, hc⟩ := HRl.out.at_ (by omega)
      obtain ⟨b2, o2, rfl, hc2⟩ := HR22.out.at_ (by omega)
      have d0 := cell_ext HB.out (hc k h1).1
      have g0 := cell_ext HB.out (hc2 k h2).1
      have g1 := cell_ext HB.out (hc2 k h2).2.1
      have g2 := cell_ext HB.out (hc2 k h2).2.2.1
      have g3 := cell_ext HB.out (hc2 k h2).2.2.2
      obtain ⟨y, hy⟩ : ∃ y, y = M.getD k default := ⟨_, rfl⟩
      obtain ⟨z, hzz⟩ : ∃ z, z = l2.getD k default := ⟨_, rfl⟩
      rw [← hy] at d0
      rw [← hzz] at g0 g1 g2 g3
      have HZ := Lib.hid (show zp M l2 (k + 1) = zp M l2 k ++ [⟨y.kind, z.u, z.i, z.s⟩] by rw [zp, hy, hzz])
      obtain ⟨Am, cm, rfl⟩ := HO.out.slice
      have d9 := cell_ext ((Below.refl _ wr).alloc (Nat.le_refl _) (.cells #[.int .i64 z.kind, .int .u64 z.u, .int .i64 z.i, .string z.s] 27)) d0
      clear hc hc2 hy hzz
      go_wp2_with (at_builtin; refine wp_appV1 (W := wr.alloc (.cells #[.int .i64 y.kind, .int .u64 z.u, .int .i64 z.i, .string z.s] 27)) w2.heap.size ⟨y.kind, z.u, z.i, z.s⟩ (HO.out.alloc _) (by simp; omega) (by omega) _ _ rfl rfl rfl (wr.heap.size + 1) (by simp) rfl ?_; intro v3 w3 hO3 hG3; have HO3 := Lib.hid hO3; have HG3 := Lib.hid hG3; clear hO3 hG3)
      go_roundw
      case rel =>
        refine ⟨k + 1, by omega, by omega, by go_num, by rw [HZ.out]; exact HO3.out, ?_⟩
        exact ((HB.out.alloc hz _).alloc (by simp; omega) _).grown HG3.out (by simp; omega) (fun p hp => (HO.out.blk p hp).1)
      case measure => simp [intOf]; omega
    · have hex : ¬ (k : Int) < (q : Int) ∨ ((k : Int) < (q : Int) ∧ ¬ (k : Int) < (n2 : Int)) := by omega
      have hZok := zp_ok M l2 HR2.out.ok n2 HL2.out k hk2
      obtain ⟨Am, cm, rfl, hRm⟩ := HO.out.rd (by omega) hZok
      have HRm := Lib.hid hRm
      clear hkk hRm hZok
      rcases hex with h1 | ⟨h1, h2⟩
      all_goals (
        go_wp2_with fail
        refine (l2_small Am k cm (zp M l2 k) wr HRm.out).mono ?_
        rintro e w4 ⟨vN, rfl, hO4, hB4⟩
        have hZip := zip_of M l2 k n2 HRT.out HR2.out.ok HL2.out (by rw [← HQ.out]; exact hk) hk2
        obtain ⟨N, hN⟩ : ∃ N, N = sml (zp M l2 k) 0 := ⟨_, rfl⟩
        rw [← hN] at hZip hO4
        obtain ⟨p, hp⟩ : ∃ p, p = N.length := ⟨_, rfl⟩
        rw [← hp] at hZip hO4
        have hpq : p ≤ q := by rw [HQ.out]; exact hZip.le
        obtain ⟨AN, cN, rfl, hRN⟩ := hO4.rd (by omega) (fun y hy => (hZip.rt y hy).ok)
        have HB4 := Lib.hid (HB.out.trans (hB4.mono hz))
        have HRN := Lib.hid hRN
        have hcl := HRl.out.cap
        have HRL4 := Lib.hid (((HRl.out.ext HB.out).ext hB4).takeV p hpq)
        have HZ := Lib.hid hZip
        have hct := cut_toV Al q cl p hpq hcl w4
        clear hO4 hB4 hN hp hZip hRN
        go_wp2_with fail
        obtain ⟨l', hl'⟩ : ∃ l', l' = M.take p := ⟨_, rfl⟩
        rw [← hl'] at HRL4
        have hl'l : l'.length = p := by rw [hl', List.length_take]; have := HZ.out.le; omega
        have hl'r : ∀ y ∈ l', Rt y := fun y hy => HRT.out y (by rw [hl'] at hy; exact List.mem_of_mem_take hy)
        have hl'b : bulk l' ≤ 1048576 := by rw [hl']; have := bulk_take M p; have := HBK.out; omega
        have hw1 := wrn_cat l' hl'r hl'b p (by omega)
        rw [List.take_of_length_le (by omega)] at hw1
        refine (l2_written Al p cl l' w4 HRL4.out).mono ?_
        rintro e w5 ⟨hP, -, hB5⟩
        rw [hw1] at hP
        obtain ⟨ua, rfl, hOa⟩ := hP rfl
        obtain ⟨Ca, hCa⟩ : ∃ Ca, Ca = cat l' := ⟨_, rfl⟩
        have hOa : Own w5 _ ua (cat l').length (cat l') := hOa
        rw [← hCa] at hOa
        have hCal : Ca.length ≤ 1048576 := by rw [hCa]; have := cat_len l' hl'r; omega
        obtain ⟨Aa, ca, rfl, hRa⟩ := hOa.rd (by omega)
        have HRa := Lib.hid hRa
        have HB5 := Lib.hid (HB4.out.trans (hB5.mono HB4.out.size))
        have HRL5 := Lib.hid (HRL4.out.ext hB5)
        have HRN5 := Lib.hid (HRN.out.ext hB5)
        have HL' := Lib.hid hl'
        have HLR := Lib.hid hl'r
        have HLB := Lib.hid hl'b
        have HLL := Lib.hid hl'l
        have HCA := Lib.hid hCa
        clear hP hB5 hOa hRa hw1 hl' hl'r hl'b hl'l hCa hct
        go_wp2_with fail
        have hw1 := wrn_cat N HZ.out.rt HZ.out.bulk p (by rw [HZ.out.len]; exact Nat.le_refl _)
        rw [List.take_of_length_le (by rw [HZ.out.len]; exact Nat.le_refl _)] at hw1
        refine (l2_written AN p cN N w5 HRN5.out).mono ?_
        rintro e w6 ⟨hP, -, hB6⟩
        rw [hw1] at hP
        obtain ⟨ub, rfl, hOb⟩ := hP rfl
        obtain ⟨Cb, hCb⟩ : ∃ Cb, Cb = cat N := ⟨_, rfl⟩
        have hOb : Own w6 _ ub (cat N).length (cat N) := hOb
        rw [← hCb] at hOb
        have hCbl : Cb.length ≤ 1048576 := by rw [hCb]; have := cat_len N HZ.out.rt; have := HZ.out.bulk; omega
        obtain ⟨Ab, cb, rfl, hRb⟩ := hOb.rd (by omega)
        have HRb := Lib.hid hRb
        have HRa6 := Lib.hid (HRa.out.ext hB6)
        have HB6 := Lib.hid (HB5.out.trans (hB6.mono HB5.out.size))
        have HRL6 := Lib.hid (HRL5.out.ext hB6)
        have HRN6 := Lib.hid (HRN5.out.ext hB6)
        have HCB := Lib.hid hCb
        clear hP hB6 hOb hRb hw1 hCb
        go_wp2_with fail
        go_loopw [12] (fun x wx => ∃ a : Nat, a ≤ p ∧ x = .int .i64 a ∧ l'.take a = N.take a ∧ Only [] w6 wx) (fun x _ => p - (intOf x).toNat)
        case atStart => exact ⟨0, by omega, rfl, by simp, Only.refl _ _⟩
        case round =>
          obtain ⟨a, hap, rfl, hEQ, hO⟩ := hrel
          have HO := Lib.hid hO
          have HEQ := Lib.hid hEQ
          clear hO
          by_cases hlt : a < p
          · have hlti : (a : Int) < (p : Int) := by omega
            have hltd : decide ((a : Int) < (p : Int)) = true := decide_eq_true hlti
            obtain ⟨bl, ol, rfl, hcL⟩ := (HRL6.out.keep HO.out (by simp)).at_ (by omega)
            obtain ⟨bn, on, rfl, hcN⟩ := (HRN6.out.keep HO.out (by simp)).at_ (by omega)
            have hcL := hcL a hlt
            have hcN := hcN a hlt
            obtain ⟨y, hy⟩ : ∃ y, y = l'.getD a default := ⟨_, rfl⟩
            obtain ⟨z, hzz⟩ : ∃ z, z = N.getD a default := ⟨_, rfl⟩
            rw [← hy] at hcL
            rw [← hzz] at hcN
            obtain ⟨g0, g1, g2, g3⟩ := hcL
            obtain ⟨f0, f1, f2, f3⟩ := hcN
            have hkind : y.kind = z.kind := by
              have := HZ.out.kind a hlt
              rw [← HL'.out, ← hy, ← hzz] at this
              exact this
            have hcase : (y.u = z.u ∧ y.i = z.i ∧ y.s = z.s) ∨ ¬ (y.u : Int) = (z.u : Int) ∨ ((y.u : Int) = (z.u : Int) ∧ ¬ y.i = z.i) ∨ ((y.u : Int) = (z.u : Int) ∧ y.i = z.i ∧ ¬ y.s.toList = z.s.toList) := by
              by_cases h1 : y.u = z.u
              · by_cases h2 : y.i = z.i
                · by_cases h3 : y.s = z.s
                  · exact .inl ⟨h1, h2, h3⟩
                  · exact .inr (.inr (.inr ⟨by omega, h2, fun h => h3 (bytes_toList_inj h)⟩))
                · exact .inr (.inr (.inl ⟨by omega, h2⟩))
              · exact .inr (.inl (by omega))
            have HYY := Lib.hid hy
            have HZZ := Lib.hid hzz
            obtain ⟨t, ht⟩ : ∃ t, t = eqV y z := ⟨_, rfl⟩
            have HTT := Lib.hid ht
            have hiff := eqV_iff y z
            rw [← ht] at hiff
            have HIFF := Lib.hid hiff
            clear hiff ht hy hzz
            have hw3 : (0 : Int) ≤ (a : Int) := by omega
            go_upto_region 19 with fail
            go_cut [82] (fun v wx => v = .bool t ∧ Only [] wr wx)
            case first =>
              rcases hcase with ⟨h1, h2, h3⟩ | h1 | ⟨h1, h2⟩ | ⟨h1, h2, h3⟩
              · have h5 : t = true := by rw [HTT.out]; exact decide_eq_true ⟨hkind, h1, h2, h3⟩
                have h1i : (y.u : Int) = (z.u : Int) := by omega
                clear h1
                go_region_held3 (fun w' => w'.cell? ⟨bl, ol + a * 4, none⟩ = some (.int .i64 y.kind) ∧ w'.cell? ⟨bl, ol + a * 4 + 1, none⟩ = some (.int .u64 y.u) ∧ w'.cell? ⟨bl, ol + a * 4 + 2, none⟩ = some (.int .i64 y.i) ∧ w'.cell? ⟨bl, ol + a * 4 + 3, none⟩ = some (.string y.s) ∧ w'.cell? ⟨bn, on + a * 4, none⟩ = some (.int .i64 z.kind) ∧ w'.cell? ⟨bn, on + a * 4 + 1, none⟩ = some (.int .u64 z.u) ∧ w'.cell? ⟨bn, on + a * 4 + 2, none⟩ = some (.int .i64 z.i) ∧ w'.cell? ⟨bn, on + a * 4 + 3, none⟩ = some (.string z.s) ∧ Only [] wr w')
                  (first | exact ⟨g0, g1, g2, g3, f0, f1, f2, f3, (Only.refl _ _).drew⟩)
                  (first | fail)
                all_goals (go_wp2_with fail; go_meet; exact ⟨by simp [h5], (Only.refl _ _).drew⟩)
              · have h5 : t = false := by rw [HTT.out]; exact decide_eq_false (fun h => h1 (by rw [h.2.1]))
                go_region_held3 (fun w' => w'.cell? ⟨bl, ol + a * 4, none⟩ = some (.int .i64 y.kind) ∧ w'.cell? ⟨bl, ol + a * 4 + 1, none⟩ = some (.int .u64 y.u) ∧ w'.cell? ⟨bl, ol + a * 4 + 2, none⟩ = some (.int .i64 y.i) ∧ w'.cell? ⟨bl, ol + a * 4 + 3, none⟩ = some (.string y.s) ∧ w'.cell? ⟨bn, on + a * 4, none⟩ = some (.int .i64 z.kind) ∧ w'.cell? ⟨bn, on + a * 4 + 1, none⟩ = some (.int .u64 z.u) ∧ w'.cell? ⟨bn, on + a * 4 + 2, none⟩ = some (.int .i64 z.i) ∧ w'.cell? ⟨bn, on + a * 4 + 3, none⟩ = some (.string z.s) ∧ Only [] wr w')
                  (first | exact ⟨g0, g1, g2, g3, f0, f1, f2, f3, (Only.refl _ _).drew⟩)
                  (first | fail)
                all_goals (go_wp2_with fail; go_meet; exact ⟨by simp [h5], (Only.refl _ _).drew⟩)
              · have h5 : t = false := by rw [HTT.out]; exact decide_eq_false (fun h => h2 h.2.2.1)
                go_region_held3 (fun w' => w'.cell? ⟨bl, ol + a * 4, none⟩ = some (.int .i64 y.kind) ∧ w'.cell? ⟨bl, ol + a * 4 + 1, none⟩ = some (.int .u64 y.u) ∧ w'.cell? ⟨bl, ol + a * 4 + 2, none⟩ = some (.int .i64 y.i) ∧ w'.cell? ⟨bl, ol + a * 4 + 3, none⟩ = some (.string y.s) ∧ w'.cell? ⟨bn, on + a * 4, none⟩ = some (.int .i64 z.kind) ∧ w'.cell? ⟨bn, on + a * 4 + 1, none⟩ = some (.int .u64 z.u) ∧ w'.cell? ⟨bn, on + a * 4 + 2, none⟩ = some (.int .i64 z.i) ∧ w'.cell? ⟨bn, on + a * 4 + 3, none⟩ = some (.string z.s) ∧ Only [] wr w')
                  (first | exact ⟨g0, g1, g2, g3, f0, f1, f2, f3, (Only.refl _ _).drew⟩)
                  (first | fail)
                all_goals (go_wp2_with fail; go_meet; exact ⟨by simp [h5], (Only.refl _ _).drew⟩)
              · have h5 : t = false := by rw [HTT.out]; exact decide_eq_false (fun h => h3 (by rw [h.2.2.2]))
                go_region_held3 (fun w' => w'.cell? ⟨bl, ol + a * 4, none⟩ = some (.int .i64 y.kind) ∧ w'.cell? ⟨bl, ol + a * 4 + 1, none⟩ = some (.int .u64 y.u) ∧ w'.cell? ⟨bl, ol + a * 4 + 2, none⟩ = some (.int .i64 y.i) ∧ w'.cell? ⟨bl, ol + a * 4 + 3, none⟩ = some (.string y.s) ∧ w'.cell? ⟨bn, on + a * 4, none⟩ = some (.int .i64 z.kind) ∧ w'.cell? ⟨bn, on + a * 4 + 1, none⟩ = some (.int .u64 z.u) ∧ w'.cell? ⟨bn, on + a * 4 + 2, none⟩ = some (.int .i64 z.i) ∧ w'.cell? ⟨bn, on + a * 4 + 3, none⟩ = some (.string z.s) ∧ Only [] wr w')
                  (first | exact ⟨g0, g1, g2, g3, f0, f1, f2, f3, (Only.refl _ _).drew⟩)
                  (first | fail)
                all_goals (go_wp2_with fail; go_meet; exact ⟨by simp [h5], (Only.refl _ _).drew⟩)
            case rest =>
              obtain ⟨rfl, hO9⟩ := hcut
              have HO9 := Lib.hid (HO.out.trans hO9)
              clear hO9 hcase hkind g0 g1 g2 g3 f0 f1 f2 f3
              cases t
              · have hNE : a < p → l'.getD a default ≠ N.getD a default := fun _ h => by
                  rw [← HYY.out, ← HZZ.out] at h
                  have := HIFF.out.2 h
                  cases this
                have hlaw := parts_law l' N p a HLL.out HZ.out.len HLR.out HZ.out.rt (fun i hi => by have := HZ.out.kind i hi; rw [← HL'.out] at this; exact this) hap hEQ hNE
                obtain ⟨na, hna⟩ : ∃ na, na = Ca.length := ⟨_, rfl⟩
                obtain ⟨nb, hnb⟩ : ∃ nb, nb = Cb.length := ⟨_, rfl⟩
                obtain ⟨mn, hmn⟩ : ∃ mn, mn = min na nb := ⟨_, rfl⟩
                rw [← HCA.out, ← HCB.out, ← hna, ← hnb, ← hmn] at hlaw
                have HRa7 := Lib.hid ((HRa6.out.keep HO9.out (by simp)))
                have HRb7 := Lib.hid ((HRb.out.keep HO9.out (by simp)))
                rw [← hna] at HRa7 hCal
                rw [← hnb] at HRb7 hCbl
                have HRL7 := Lib.hid ((HRL6.out.keep HO9.out (by simp)).takeV a hap)
                have hpre := cat_take_prefix l' a
                have hpre2 := cat_take_prefix N a
                rw [← hEQ, ← HCB.out] at hpre2
                rw [← HCA.out] at hpre
                have hw1 := wrn_cat (l'.take a) (fun y hy => HLR.out y (List.mem_of_mem_take hy)) (by have := bulk_take l' a; have := HLB.out; omega) a (by rw [List.length_take, HLL.out]; omega)
                rw [List.take_of_length_le (show (l'.take a).length ≤ a by rw [List.length_take]; omega)] at hw1
                obtain ⟨Ch, hCh⟩ : ∃ Ch, Ch = cat (l'.take a) := ⟨_, rfl⟩
                rw [← hCh] at hpre hpre2 hw1
                obtain ⟨hn, hhn⟩ : ∃ hn, hn = Ch.length := ⟨_, rfl⟩
                rw [← hhn, ← hna] at hpre
                rw [← hhn, ← hnb] at hpre2
                have hhm : hn ≤ mn := by omega
                have hcl2 := HRL6.out.cap
                have hcut := cut_toV (some ⟨bl, ol, none⟩) p cl a hap hcl2 wc
                have hB7 := HB6.out.trans (HO9.out.below HB6.out.size (by simp))
                have HLAW := Lib.hid hlaw
                have HPRE := Lib.hid hpre
                have HPRE2 := Lib.hid hpre2
                have HW1 := Lib.hid hw1
                have HMN := Lib.hid hmn
                have HHN := Lib.hid hhn
                have hcapA := HRa7.out.cap
                have hcapB := HRb7.out.cap
                have hmna : mn ≤ na ∧ mn ≤ nb ∧ (mn = na ∨ mn = nb) := by omega
                have HB7 := Lib.hid hB7
                have HNAB := Lib.hid (show a = p → na = nb from fun h => hlaw.2 h)
                rw [← hna, ← hnb]
                clear hlaw hpre hpre2 hw1 hmn hhn hna hnb hCh hB7 hEQ hNE
                go_wp2_with fail
                refine (l2_written (some ⟨bl, ol, none⟩) a cl (l'.take a) wc HRL7.out).mono ?_
                rintro e w8 ⟨hP, -, hB8⟩
                rw [HW1.out] at hP
                obtain ⟨uh, rfl, hOh⟩ := hP rfl
                have hOh : Own w8 _ uh Ch.length Ch := hOh
                rw [← HHN.out] at hOh
                obtain ⟨Ah, ch, rfl, hRh⟩ := hOh.rd (by omega)
                have HRh := Lib.hid hRh
                have HRa8 := Lib.hid (HRa7.out.ext hB8)
                have HRb8 := Lib.hid (HRb7.out.ext hB8)
                have HB8 := Lib.hid (HB7.out.trans (hB8.mono HB7.out.size))
                have hmm : ((na : Int) ≤ (nb : Int) ∧ mn = na) ∨ ((nb : Int) < (na : Int) ∧ mn = nb) := by rw [HMN.out]; omega
                clear hP hB8 hOh hRh hcut
                go_upto_region 22 with fail
                go_cut [14] (fun v wx => v = .int .i64 (mn : Int) ∧ wx = w8)
                case first =>
                  rcases hmm with h1 | h1
                  · go_wp2_with fail
                    all_goals (go_meet; exact ⟨by first | (simp; done) | (simp; omega), rfl⟩)
                  · go_wp2_with fail
                    all_goals (go_meet; exact ⟨by first | (simp; done) | (simp; omega), rfl⟩)
                case rest =>
                  obtain ⟨rfl, rfl⟩ := hcut
                  have hcA : ∀ W : World, _ := fun W => cut_toB Aa na ca hn (by omega) hcapA W
                  have hcB : ∀ W : World, _ := fun W => cut_toB Ab nb cb hn (by omega) hcapB W
                  have hcA2 : ∀ W : World, _ := fun W => cut_toB Aa na ca mn hmna.1 hcapA W
                  have hcB2 : ∀ W : World, _ := fun W => cut_toB Ab nb cb mn hmna.2.1 hcapB W
                  have hapd : ((a : Int) == (p : Int)) = false := by simp; omega
                  have hgt : ¬ (mn : Int) < (hn : Int) := by omega
                  have hgd : decide ((mn : Int) < (hn : Int)) = false := decide_eq_false hgt
                  have hdl : decide (a = p) = false := decide_eq_false (by omega)
                  rw [hdl] at HLAW
                  clear hmm
                  go_wp2_with fail
                  refine (l2_same Aa Ah hn ca hn ch (Ca.take hn) Ch _ (HRa8.out.take hn (by omega)) HRh.out).mono ?_
                  rintro e w9 ⟨rfl, rfl⟩
                  rw [decide_eq_true HPRE.out.1]
                  go_wp2_with fail
                  refine (l2_same Ab Ah hn cb hn ch (Cb.take hn) Ch _ (HRb8.out.take hn (by omega)) HRh.out).mono ?_
                  rintro e w10 ⟨rfl, rfl⟩
                  rw [decide_eq_true HPRE2.out.1]
                  go_wp2_with fail
                  have HSM := Lib.hid (fun j => l2_same Aa Ab mn ca mn cb (Ca.take mn) (Cb.take mn) (w10.drewN j) ((HRa8.out.take mn hmna.1).drew j) ((HRb8.out.take mn hmna.2.1).drew j))
                  rw [HLAW.out.1] at HSM
                  go_quiet ((go_at_call 16; exact Calls.quiet_of_same (HSM.out _)))
                  go_wp2
                  go_ret
                  exact ⟨by simp, HB2.out.trans ((below_drewN HB8.out _).mono HB2.out.size)⟩
              · have hT := Lib.hid (show l'.take (a + 1) = N.take (a + 1) by
                  rw [takeV_snoc l' a (by rw [HLL.out]; exact hlt), takeV_snoc N a (by rw [HZ.out.len]; exact hlt), HEQ.out, ← HYY.out, ← HZZ.out, HIFF.out.1 rfl])
                clear hEQ
                go_wp2
                go_roundw
                case rel => exact ⟨a + 1, by omega, by go_num, hT.out, HO9.out⟩
                case measure => simp [intOf]; omega
          · have hltd : decide ((a : Int) < (p : Int)) = false := decide_eq_false (by omega)
            have hNE : a < p → l'.getD a default ≠ N.getD a default := fun h => by omega
            go_wp2_with fail
            go_quiet ((fail))
            have HO9 := Lib.hid (HO.out.drewN nq)
            have hlaw := parts_law l' N p a HLL.out HZ.out.len HLR.out HZ.out.rt (fun i hi => by have := HZ.out.kind i hi; rw [← HL'.out] at this; exact this) hap hEQ hNE
            obtain ⟨na, hna⟩ : ∃ na, na = Ca.length := ⟨_, rfl⟩
            obtain ⟨nb, hnb⟩ : ∃ nb, nb = Cb.length := ⟨_, rfl⟩
            obtain ⟨mn, hmn⟩ : ∃ mn, mn = min na nb := ⟨_, rfl⟩
            rw [← HCA.out, ← HCB.out, ← hna, ← hnb, ← hmn] at hlaw
            have HRa7 := Lib.hid ((HRa6.out.keep HO9.out (by simp)))
            have HRb7 := Lib.hid ((HRb.out.keep HO9.out (by simp)))
            rw [← hna] at HRa7 hCal
            rw [← hnb] at HRb7 hCbl
            have HRL7 := Lib.hid ((HRL6.out.keep HO9.out (by simp)).takeV a hap)
            have hpre := cat_take_prefix l' a
            have hpre2 := cat_take_prefix N a
            rw [← hEQ, ← HCB.out] at hpre2
            rw [← HCA.out] at hpre
            have hw1 := wrn_cat (l'.take a) (fun y hy => HLR.out y (List.mem_of_mem_take hy)) (by have := bulk_take l' a; have := HLB.out; omega) a (by rw [List.length_take, HLL.out]; omega)
            rw [List.take_of_length_le (show (l'.take a).length ≤ a by rw [List.length_take]; omega)] at hw1
            obtain ⟨Ch, hCh⟩ : ∃ Ch, Ch = cat (l'.take a) := ⟨_, rfl⟩
            rw [← hCh] at hpre hpre2 hw1
            obtain ⟨hn, hhn⟩ : ∃ hn, hn = Ch.length := ⟨_, rfl⟩
            rw [← hhn, ← hna] at hpre
            rw [← hhn, ← hnb] at hpre2
            have hhm : hn ≤ mn := by omega
            have hcl2 := HRL6.out.cap
            have hcut := cut_toV Al p cl a hap hcl2 (wr.drewN nq)
            have hB7 := HB6.out.trans (HO9.out.below HB6.out.size (by simp))
            have HLAW := Lib.hid hlaw
            have HPRE := Lib.hid hpre
            have HPRE2 := Lib.hid hpre2
            have HW1 := Lib.hid hw1
            have HMN := Lib.hid hmn
            have HHN := Lib.hid hhn
            have hcapA := HRa7.out.cap
            have hcapB := HRb7.out.cap
            have hmna : mn ≤ na ∧ mn ≤ nb ∧ (mn = na ∨ mn = nb) := by omega
            have HB7 := Lib.hid hB7
            have HNAB := Lib.hid (show a = p → na = nb from fun h => hlaw.2 h)
            rw [← hna, ← hnb]
            clear hlaw hpre hpre2 hw1 hmn hhn hna hnb hCh hB7 hEQ hNE
            go_wp2_with fail
            refine (l2_written Al a cl (l'.take a) (wr.drewN nq) HRL7.out).mono ?_
            rintro e w8 ⟨hP, -, hB8⟩
            rw [HW1.out] at hP
            obtain ⟨uh, rfl, hOh⟩ := hP rfl
            have hOh : Own w8 _ uh Ch.length Ch := hOh
            rw [← HHN.out] at hOh
            obtain ⟨Ah, ch, rfl, hRh⟩ := hOh.rd (by omega)
            have HRh := Lib.hid hRh
            have HRa8 := Lib.hid (HRa7.out.ext hB8)
            have HRb8 := Lib.hid (HRb7.out.ext hB8)
            have HB8 := Lib.hid (HB7.out.trans (hB8.mono HB7.out.size))
            have hmm : ((na : Int) ≤ (nb : Int) ∧ mn = na) ∨ ((nb : Int) < (na : Int) ∧ mn = nb) := by rw [HMN.out]; omega
            clear hP hB8 hOh hRh hcut
            go_upto_region 22 with fail
            go_cut [14] (fun v wx => v = .int .i64 (mn : Int) ∧ wx = w8)
            case first =>
              rcases hmm with h1 | h1
              · go_wp2_with fail
                all_goals (go_meet; exact ⟨by first | (simp; done) | (simp; omega), rfl⟩)
              · go_wp2_with fail
                all_goals (go_meet; exact ⟨by first | (simp; done) | (simp; omega), rfl⟩)
            case rest =>
              obtain ⟨rfl, rfl⟩ := hcut
              have hcA : ∀ W : World, _ := fun W => cut_toB Aa na ca hn (by omega) hcapA W
              have hcB : ∀ W : World, _ := fun W => cut_toB Ab nb cb hn (by omega) hcapB W
              have hcA2 : ∀ W : World, _ := fun W => cut_toB Aa na ca mn hmna.1 hcapA W
              have hcB2 : ∀ W : World, _ := fun W => cut_toB Ab nb cb mn hmna.2.1 hcapB W
              have hapd : ((a : Int) == (p : Int)) = true := by simp; omega
              have hnab : ((na : Int) == (nb : Int)) = true := by have := HNAB.out (by omega); simp; omega
              have hgt : ¬ (mn : Int) < (hn : Int) := by omega
              have hgd : decide ((mn : Int) < (hn : Int)) = false := decide_eq_false hgt
              have hdl : decide (a = p) = true := decide_eq_true (by omega)
              rw [hdl] at HLAW
              clear hmm
              go_wp2_with fail
              refine (l2_same Aa Ah hn ca hn ch (Ca.take hn) Ch _ (HRa8.out.take hn (by omega)) HRh.out).mono ?_
              rintro e w9 ⟨rfl, rfl⟩
              rw [decide_eq_true HPRE.out.1]
              go_wp2_with fail
              refine (l2_same Ab Ah hn cb hn ch (Cb.take hn) Ch _ (HRb8.out.take hn (by omega)) HRh.out).mono ?_
              rintro e w10 ⟨rfl, rfl⟩
              rw [decide_eq_true HPRE2.out.1]
              go_wp2_with fail
              have HSM := Lib.hid (fun j => l2_same Aa Ab mn ca mn cb (Ca.take mn) (Cb.take mn) (w10.drewN j) ((HRa8.out.take mn hmna.1).drew j) ((HRb8.out.take mn hmna.2.1).drew j))
              rw [HLAW.out.1] at HSM
              go_quiet ((go_at_call 16; exact Calls.quiet_of_same (HSM.out _)))
              go_wp2
              go_ret
              exact ⟨by simp, HB2.out.trans ((below_drewN HB8.out _).mono HB2.out.size)⟩)
end Go.Proofs.Ytclafljkeaekfaa
