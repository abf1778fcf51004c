/- The laws' own helpers over the device: play. -/
import Derived.Test.YtjbffahmjhbpjaaDvf
import Derived.Deep.RegionHeld3
set_option linter.unusedVariables false
set_option linter.unusedSimpArgs false
set_option maxRecDepth 100000
namespace Go.Proofs.Ytjbffahmjhbpjaa
open Go.RowKit
def opO (x : OpD) (vB vF : Value) : Obj := .cells (opC x vB vF) 48
theorem opCells {W : World} {q : Nat} {two : Bool} {kd blk num len : Int} {fill : UInt8} {B : List UInt8} {F : List Ft} {vB vF : Value} (h : W.heap[q]? = some (opO ⟨two, kd, blk, num, len, fill, B, F⟩ vB vF)) :
    W.cell? ⟨q, 0, none⟩ = some (.bool two) ∧ W.cell? ⟨q, 1, none⟩ = some (.int .i64 kd) ∧ W.cell? ⟨q, 2, none⟩ = some (.int .i64 blk) ∧ W.cell? ⟨q, 3, none⟩ = some (.int .i64 num) ∧ W.cell? ⟨q, 4, none⟩ = some (.int .i64 len) ∧ W.cell? ⟨q, 5, none⟩ = some (.int .u8 (fill.toNat : Int)) ∧ W.cell? ⟨q, 6, none⟩ = some vB ∧ W.cell? ⟨q, 7, none⟩ = some vF := by
  have hc : ∀ j, W.cell? ⟨q, j, none⟩ = (opC ⟨two, kd, blk, num, len, fill, B, F⟩ vB vF)[j]? := fun j => cell_of_row W q j _ _ _ h
  exact ⟨hc 0, hc 1, hc 2, hc 3, hc 4, hc 5, hc 6, hc 7⟩
set_option maxHeartbeats 1000000 in
theorem st_play {w0 w : World} {b g : Nat} {vc : Value} {D : DS} {R : List (Nat × Obj)} (x : OpD) (AB AF : Option Addr) (nB cB nF cF : Nat) (h : St w0 w b g vc D R) (hx : x.ok) (hD : D.le 100000000) (hB : Rd w AB nB cB x.B) (hF : RdF w AF nF cF x.F) :
    Calls Try.prog 24 #[.pointer (some ⟨b, 0, none⟩), .agg (opC x (.slice AB nB cB) (.slice AF nF cF))] w fun e w' => e = .returned (.int .i64 (plD D x).1) ∧ ∃ vc', St w0 w' b g vc' (plD D x).2 R := by
  obtain ⟨two, kd, blk, num, len, fill, B, F⟩ := x
  have hBl := hB.len
  have hBm : nB ≤ 140737488351232 := by have h9 : B.length ≤ 140737488351232 := hx.2.2.2.2.1; have h8 : B.length = nB := hBl; omega
  have hFl := hF.len
  have hFm : nF ≤ 8796093022207 := by have h9 : F.length ≤ 8796093022207 := hx.2.2.2.2.2; have h8 : F.length = nF := hFl; omega
  have HNB := Lib.hid hx.2.2.1
  obtain ⟨o, ho⟩ : ∃ o, o = opO ⟨two, kd, blk, num, len, fill, B, F⟩ (.slice AB nB cB) (.slice AF nF cF) := ⟨_, rfl⟩
  have hB0 := (Below.refl _ w).alloc (Nat.le_refl _) o
  have hHT : St w0 (w.alloc o) b g vc D ((w.heap.size, o) :: R) := h.new hB0 (Nat.le_refl _) (heap_alloc_new w _)
  have hRB := hB.ext hB0
  have hRF := hF.ext hB0
  have hCB : ∀ (W : World) (v D'), St w0 W b g v D' ((w.heap.size, o) :: R) → W.cell? ⟨w.heap.size, 0, none⟩ = some (.bool two) ∧ W.cell? ⟨w.heap.size, 1, none⟩ = some (.int .i64 kd) ∧ W.cell? ⟨w.heap.size, 2, none⟩ = some (.int .i64 blk) ∧ W.cell? ⟨w.heap.size, 3, none⟩ = some (.int .i64 num) ∧ W.cell? ⟨w.heap.size, 4, none⟩ = some (.int .i64 len) ∧ W.cell? ⟨w.heap.size, 5, none⟩ = some (.int .u8 (fill.toNat : Int)) ∧ W.cell? ⟨w.heap.size, 6, none⟩ = some (.slice AB nB cB) ∧ W.cell? ⟨w.heap.size, 7, none⟩ = some (.slice AF nF cF) := fun W v D' h => by
    have h9 := h.get 0 rfl
    rw [show ((w.heap.size, o) : Nat × Obj).2 = o from rfl, ho] at h9
    exact opCells h9
  have hd := hCB _ _ _ hHT
  have HT := Lib.hid hHT
  have HRB := Lib.hid hRB
  have HRF := Lib.hid hRF
  have HCB := Lib.hid hCB
  have HDL := Lib.hid hD
  have HL := Lib.hid hD.left
  have HC := Lib.hid hD.ca
  have HW := Lib.hid hD.wr
  have HFL := Lib.hid hD.fl
  have hoo : o = .cells #[.bool two, .int .i64 kd, .int .i64 blk, .int .i64 num, .int .i64 len, .int .u8 (fill.toNat : Int), .slice AB nB cB, .slice AF nF cF] 48 := ho
  have HO := Lib.hid hoo
  rw [show Value.agg (opC ⟨two, kd, blk, num, len, fill, B, F⟩ (.slice AB nB cB) (.slice AF nF cF)) = .agg #[.bool two, .int .i64 kd, .int .i64 blk, .int .i64 num, .int .i64 len, .int .u8 (fill.toNat : Int), .slice AB nB cB, .slice AF nF cF] from rfl]
  clear h hB hF hD hx hCB hBl hFl hB0 hHT hRB hRF ho hoo
  by_cases k3 : kd = 3
  · subst k3
    have HP := Lib.hid (show plD D ⟨two, 3, blk, num, len, fill, B, F⟩ = wrD D blk (blkL (opN ⟨two, 3, blk, num, len, fill, B, F⟩) fill) from if_pos rfl)
    rw [HP.out]
    go_enter Try.func24, Try.ntmps24
    go_wp2_with fail
    rw [← HO.out]
    have HBK := Lib.hid (l6_block (w.alloc o).drew ⟨two, 3, blk, num, len, fill, B, F⟩ (.slice AB nB cB) (.slice AF nF cF))
    go_region_held3 (fun w' => w'.cell? ⟨w.heap.size, 0, none⟩ = some (.bool two) ∧ w'.cell? ⟨w.heap.size, 1, none⟩ = some (.int .i64 3) ∧ w'.cell? ⟨w.heap.size, 2, none⟩ = some (.int .i64 blk) ∧ w'.cell? ⟨w.heap.size, 3, none⟩ = some (.int .i64 num) ∧ w'.cell? ⟨w.heap.size, 4, none⟩ = some (.int .i64 len) ∧ w'.cell? ⟨w.heap.size, 5, none⟩ = some (.int .u8 (fill.toNat : Int)) ∧ w'.cell? ⟨w.heap.size, 6, none⟩ = some (.slice AB nB cB) ∧ w'.cell? ⟨w.heap.size, 7, none⟩ = some (.slice AF nF cF))
      (first | exact hd3 | exact hd2 | exact hd)
      (first | (go_at_call 16; refine HW2.out.mono ?_; rintro e w3 ⟨rfl, v3, hV3, hF3⟩; have HT3 := Lib.hid (HT2.out.fr hV3 hF3); have hd3 := HCB.out _ _ _ HT3.out; clear hV3 hF3)
             | (go_at_call 39; refine HBK.out.mono ?_; rintro e w2 ⟨u, rfl, hO2, hB2⟩; obtain ⟨A2, c2, rfl, hR2⟩ := hO2.rd (by unfold opN; omega); have HT2 := Lib.hid ((HT.out.drewN 1).below hB2); have hd2 := HCB.out _ _ _ HT2.out;
                have HW2 := Lib.hid (dv_Write w2 b g vc D blk A2 _ c2 _ HT2.out.dv hR2 (fun hp p e9 hm => by
                  obtain ⟨k9, c9, e8, h8, _⟩ := hO2.form hp
                  injection e8 with e7
                  rw [e7] at e9
                  injection e9 with e9
                  rw [← e9] at hm
                  have h7 : k9 < (w.alloc o).drew.heap.size := (HT.out.drewN 1).dv.lt k9 hm
                  have h6 : (w.alloc o).drew.heap.size ≤ k9 := h8
                  omega) HL.out (Nat.le_trans HC.out (by omega)) (Nat.lt_of_le_of_lt HW.out (by omega))); clear hO2 hB2 hR2))
    rename_i hHeld
    clear hHeld hd hd2 hd3
    go_wp2
    go_ret
    exact ⟨rfl, v3, HT3.out.sub (List.sublist_cons_self _ _)⟩
  by_cases k4 : kd = 4
  · subst k4
    have HP := Lib.hid (show plD D ⟨two, 4, blk, num, len, fill, B, F⟩ = flD D from rfl)
    rw [HP.out]
    have HF4 := Lib.hid (st_Flush HT.out HL.out (Nat.le_trans HC.out (by omega)) (Nat.lt_of_le_of_lt HFL.out (by omega)))
    rw [HO.out] at HF4
    clear hd k3
    go_enter Try.func24, Try.ntmps24
    go_wp2_with fail
    refine HF4.out.mono ?_
    rintro e w3 ⟨rfl, v3, hT3⟩
    have HT3 := Lib.hid hT3
    clear hT3
    go_wp2
    go_ret
    exact ⟨rfl, v3, HT3.out.sub (List.sublist_cons_self _ _)⟩
  by_cases k9 : kd = 9
  · subst k9
    have HP := Lib.hid (show plD D ⟨two, 9, blk, num, len, fill, B, F⟩ = edD D blk num B from rfl)
    rw [HP.out]
    clear k3 k4
    go_enter Try.func24, Try.ntmps24
    go_wp2_with fail
    rw [← HO.out]
    go_region_held3 (fun w' => w'.cell? ⟨w.heap.size, 2, none⟩ = some (.int .i64 blk) ∧ w'.cell? ⟨w.heap.size, 3, none⟩ = some (.int .i64 num) ∧ w'.cell? ⟨w.heap.size, 6, none⟩ = some (.slice AB nB cB))
      (first | exact ⟨hd3.2.2.1, hd3.2.2.2.1, hd3.2.2.2.2.2.2.1⟩ | exact ⟨hd2.2.2.1, hd2.2.2.2.1, hd2.2.2.2.2.2.2.1⟩ | exact ⟨hd.2.2.1, hd.2.2.2.1, hd.2.2.2.2.2.2.1⟩)
      (first | (go_at_call 18; refine HE2.out.mono ?_; rintro e w3 ⟨rfl, hV3, hF3⟩; have HT3 := Lib.hid (HT2.out.fr hV3 hF3); have hd3 := HCB.out _ _ _ HT3.out; clear hV3 hF3)
             | (refine step_app (w0 := (w.alloc o).drew) (w.alloc o).drew.heap.size (Own.nil _ _) (HRB.out.drew 1) (Below.refl _ _) (Nat.le_refl _) (by omega) _ _ rfl rfl rfl rfl ?_; intro v2 w2 hO2 hB2 hG2 hA2; obtain ⟨A2, c2, rfl, hR2⟩ := hO2.rd (by omega); have HT2 := Lib.hid ((HT.out.drewN 1).below hB2); have hd2 := HCB.out _ _ _ HT2.out;
                rw [Nat.zero_add, List.nil_append] at hR2
                have HE2 := Lib.hid (dv_Edit w2 b g vc D blk num A2 _ c2 _ HT2.out.dv hR2 HNB.out); clear hO2 hB2 hR2 hG2 hA2))
    rename_i hHeld
    clear hHeld hd hd2 hd3
    go_wp2
    go_ret
    exact ⟨rfl, vc, HT3.out.sub (List.sublist_cons_self _ _)⟩
  by_cases k6 : kd = 6
  · subst k6
    have HP := Lib.hid (show plD D ⟨two, 6, blk, num, len, fill, B, F⟩ = armD D num from rfl)
    rw [HP.out]
    have HA4 := Lib.hid (st_Arm num HT.out)
    rw [HO.out] at HA4
    clear hd k3 k4 k9
    go_enter Try.func24, Try.ntmps24
    go_wp2_with fail
    refine HA4.out.mono ?_
    rintro e w3 ⟨rfl, hT3⟩
    have HT3 := Lib.hid hT3
    clear hT3
    go_wp2
    go_ret
    exact ⟨rfl, vc, HT3.out.sub (List.sublist_cons_self _ _)⟩
  by_cases k8 : kd = 8
  · subst k8
    have HP := Lib.hid (show plD D ⟨two, 8, blk, num, len, fill, B, F⟩ = (0, crD D F) from rfl)
    rw [HP.out]
    rw [HO.out] at HRF HT
    clear hd k3 k4 k9 k6
    go_enter Try.func24, Try.ntmps24
    go_wp2_with (at_builtin; refine wp_appF HRF.out hFm _ _ rfl rfl rfl rfl ?_; intro A2 c2 w2 hR2 hB2 hx2; have HT2 := Lib.hid (HT.out.below hB2); have HC2 := Lib.hid (st_Crash nF c2 A2 F HT2.out (Nat.le_trans HC.out (by omega)) hR2 (fun _ p hp hm => by (have h7 := HT.out.dv.lt _ hm); (have h8 := hx2 p hp); omega)); clear hR2 hB2 hx2)
    refine HC2.out.mono ?_
    rintro e w3 ⟨rfl, v3, hT3⟩
    have HT3 := Lib.hid hT3
    clear hT3
    go_wp2
    go_ret
    exact ⟨rfl, v3, HT3.out.sub (List.sublist_cons_self _ _)⟩
  · have HP := Lib.hid (show plD D ⟨two, kd, blk, num, len, fill, B, F⟩ = (0, D) from by unfold plD; rw [if_neg k3, if_neg k4, if_neg k9, if_neg k6, if_neg k8])
    rw [HP.out]
    have e3 : (kd == 3) = false := by simp [k3]
    have e4 : (kd == 4) = false := by simp [k4]
    have e9 : (kd == 9) = false := by simp [k9]
    have e6 : (kd == 6) = false := by simp [k6]
    have e8 : (kd == 8) = false := by simp [k8]
    rw [HO.out] at HT
    clear hd k3 k4 k9 k6 k8
    go_enter Try.func24, Try.ntmps24
    go_wp2
    go_ret
    exact ⟨rfl, vc, HT.out.sub (List.sublist_cons_self _ _)⟩
end Go.Proofs.Ytjbffahmjhbpjaa
