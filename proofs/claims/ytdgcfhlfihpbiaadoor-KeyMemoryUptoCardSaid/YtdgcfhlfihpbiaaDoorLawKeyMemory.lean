/- The walk of KeyMemory (over arguments of bulk at most 1048576). -/
import Derived.Test.YtdgcfhlfihpbiaaDoorKy6
import Derived.Test.YtdgcfhlfihpbiaaDoorKy7
set_option linter.unusedVariables false
set_option linter.unusedSimpArgs false
set_option maxRecDepth 100000
namespace Go.Proofs.YtdgcfhlfihpbiaaDoor
open Go.RowKit
def oneS : ByteArray := ⟨#[111, 110, 101]⟩
def twoS : ByteArray := ⟨#[116, 119, 111]⟩
def threeS : ByteArray := ⟨#[116, 104, 114, 101, 101]⟩
theorem OwnT.cell {W : World} {base n g cap : Nat} {l : List ByteArray} (h : OwnT W base (.slice (some ⟨g, 0, none⟩) n cap) n l) (j : Nat) (hj : j < n) : W.cell? ⟨g, j, none⟩ = some (.string (l.getD j default)) := by
  have := World.ownsRow.cellAt h j (by omega)
  rw [this, tv_get l j (by rw [h.len]; exact hj)]
theorem OwnT.free {W : World} {base n g cap : Nat} {l : List ByteArray} (h : OwnT W base (.slice (some ⟨g, 0, none⟩) n cap) n l) (j : Nat) : W.frozen? ⟨g, j, none⟩ = false := World.ownsRow.frozenAt h j
theorem OwnT.store {W : World} {base n g cap : Nat} {l : List ByteArray} (h : OwnT W base (.slice (some ⟨g, 0, none⟩) n cap) n l) (j : Nat) (c : ByteArray) : OwnT (W.setCell ⟨g, j, none⟩ (.string c)) base (.slice (some ⟨g, 0, none⟩) n cap) n (l.set j c) := by
  have := (World.ownsRow.stored h j (.string c)).1
  unfold OwnT
  rwa [show tv (l.set j c) = (tv l).set j (.string c) by simp [tv, List.map_set]]
/-- two lists of the call's own that grow in turns; of what was at w7 only their first blocks change -/
structure LL (w7 : World) (ga gb base : Nat) (va vb : Value) (na nb : Nat) (la lb : List ByteArray) (wx : World) : Prop where
  oa : OwnT wx base va na la
  ob : OwnT wx base vb nb lb
  pa : ∀ k, va.ownBlock = some k → k = ga ∨ w7.heap.size ≤ k
  pb : ∀ k, vb.ownBlock = some k → k = gb ∨ w7.heap.size ≤ k
  ap : ∀ k, va.ownBlock = some k → vb.ownBlock ≠ some k
  on : Only [ga, gb] w7 wx
theorem LL.sym {w7 : World} {ga gb base : Nat} {va vb : Value} {na nb : Nat} {la lb : List ByteArray} {wx : World} (h : LL w7 ga gb base va vb na nb la lb wx) : LL w7 gb ga base vb va nb na lb la wx :=
  ⟨h.ob, h.oa, h.pb, h.pa, fun k hk e => h.ap k e hk, h.on.mono (by simp)⟩
theorem LL.step {w7 : World} {ga gb base : Nat} {va vb v1 : Value} {na nb n1 : Nat} {la lb l1 : List ByteArray} {wx w1 : World} {o : Obj} (h : LL w7 ga gb base va vb na nb la lb wx)
    (hO : OwnT w1 base v1 n1 l1) (hG : (wx.alloc o).grownBy w1 va.ownBlock) (hA : v1.ownBlock = va.ownBlock ∨ Blk v1 wx.heap.size w1.heap.size) : LL w7 ga gb base v1 vb n1 nb l1 lb w1 := by
  refine ⟨hO, ?_, ?_, h.pb, ?_, ?_⟩
  · refine World.ownsRow.kept (h.ob.alloc o) hG ?_
    cases hb : vb.ownBlock with
    | none => exact .inl rfl
    | some k => exact .inr (fun e => h.ap k e.symm hb)
  · intro k hk
    rcases hA with hA | hA
    · exact h.pa k (hA ▸ hk)
    · have := hA k hk
      have := h.on.size
      exact .inr (by omega)
  · intro k hk e
    rcases hA with hA | hA
    · exact h.ap k (hA ▸ hk) e
    · have h1 := hA k hk
      have h2 := h.ob.blk k e
      omega
  · have h1 := hG.os
    have h2 := hG.tape
    have h3 := hG.output
    have h4 := hG.size
    have h5 := h.on.size
    refine ⟨h1.trans h.on.os, h2.trans h.on.tape, h3.trans h.on.output, by simp at h4; omega, fun k hk hn => ?_⟩
    rw [hG.block k (by simp; omega) (fun e => by
      rcases h.pa k e.symm with h6 | h6
      · exact hn (by simp [h6])
      · omega), Below.heap_alloc wx o k (by omega)]
    exact h.on.blk k hk hn
set_option maxHeartbeats 4000000 in
theorem walk_KeyMemory (A : Option Addr) (n c : Nat) (l : List ByteArray) (w : World) (hm : MaxL w) (hr : RdT w A n c l) (hz : bulkT l ≤ 1048576) :
    Calls Tryd.prog 7 #[.slice A n c] w fun e w' => e = .returned (.bool true) ∧ Below w.heap.size w w' := by
  have HM := Lib.hid hm
  have HPS := Lib.hid hm.pos
  have HR := Lib.hid hr
  have HL := Lib.hid hr.len
  have HS := Lib.hid (show ∀ x ∈ l, x.size ≤ 1048576 from fun x hx => by have := bulkT_mem hx; omega)
  have hn : n ≤ 1048576 := by have := bulkT_len l; rw [hr.len] at this; omega
  clear hm hr hz
  go_enter Tryd.func7, Tryd.ntmps7
  go_wp2_with fail
  refine (l5_fixed w HM.out).mono ?_
  rintro e w1 ⟨rfl, hB1⟩
  have HB1 := Lib.hid hB1
  clear hB1
  go_wp2_with fail
  refine (l5_own A n c l w1 (HR.out.ext HB1.out) (by omega)).mono ?_
  rintro e w2 ⟨u2, rfl, hO2, hB2⟩
  obtain ⟨A2, c2, rfl, hR2⟩ := hO2.rd (by omega)
  have HB2 := Lib.hid (HB1.out.trans (hB2.mono HB1.out.size))
  have HMK := Lib.hid (ky_Make A2 n c2 l w2 hR2 HS.out (HM.out.ext HB2.out HPS.out))
  unfold MkPost at HMK
  clear hO2 hB2 hR2
  go_wp2_with fail
  refine HMK.out.mono ?_
  rintro e w3 ⟨rfl, hB3⟩
  have HB3 := Lib.hid (HB2.out.trans (hB3.mono HB2.out.size))
  clear hB3 HMK
  have hcase : mkA l = (⟨#[]⟩, 1) ∨ mkA l = (⟨#[]⟩, 23) ∨ (n ≠ 0 ∧ n ≤ 8 ∧ (mkL l).length ≤ 120 ∧ mkA l = (bstr (mkL l), 0)) := by
    rcases Classical.em ((mkA l).2 = 0) with h | h
    · have h2 := mkA_ok h
      rw [HL.out] at h2
      exact .inr (.inr h2)
    · unfold mkA at h ⊢
      split
      · exact .inl rfl
      · rename_i h1
        rw [if_neg h1] at h
        split
        · exact .inr (.inl rfl)
        · rename_i h2; rw [if_neg h2] at h; exact absurd rfl h
  rcases hcase with hA | hA | ⟨h1, h2, h3, hA⟩
  · rw [hA]
    clear hA
    go_wp2
    go_ret
    exact ⟨by simp, HB3.out⟩
  · rw [hA]
    clear hA
    go_wp2
    go_ret
    exact ⟨by simp, HB3.out⟩
  · obtain ⟨K, hK⟩ : ∃ K, K = bstr (mkL l) := ⟨_, rfl⟩
    have hKs : K.size ≤ 1048576 := by rw [hK, bstr_size]; omega
    have HSA := Lib.hid (show spA K.data.toList = (l, 0) by
      have h9 : K.data.toList = mkL l := by rw [hK]; rfl
      rw [h9]
      exact spA_mk (by rw [HL.out]; omega) (by rw [HL.out]; omega) h3)
    rw [hA, ← hK]
    have HSP := Lib.hid (fun w => ky_Split K w hKs)
    unfold SpPost at HSP
    rw [HSA.out] at HSP
    simp only at HSP
    rw [HL.out] at HSP
    clear hA hK hKs HSA h3
    go_wp2_with fail
    refine (HSP.out w3).mono ?_
    rintro e w4 ⟨u4, rfl, hO4, hB4⟩
    have HO4 := Lib.hid hO4
    have hz34 := hB4.size
    have HB4 := Lib.hid (HB3.out.trans (hB4.mono HB3.out.size))
    obtain ⟨ga, ca, rfl, hga1, hga2⟩ := hO4.form (by omega)
    clear hO4 hB4
    go_wp2_with fail
    refine (HSP.out w4).mono ?_
    rintro e w5 ⟨u5, rfl, hO5, hB5⟩
    have hz45 := hB5.size
    have HO45 := Lib.hid (HO4.out.ext hB5)
    have HO5 := Lib.hid hO5
    have HB5 := Lib.hid (HB4.out.trans (hB5.mono HB4.out.size))
    obtain ⟨gb, cb, rfl, hgb1, hgb2⟩ := hO5.form (by omega)
    clear hO5 hB5
    go_wp2_with fail
    refine (HSP.out w5).mono ?_
    rintro e w6 ⟨u6, rfl, hO6, hB6⟩
    have HO46 := Lib.hid (HO45.out.ext hB6)
    have HO56 := Lib.hid (HO5.out.ext hB6)
    have HB6 := Lib.hid (HB5.out.trans (hB6.mono HB5.out.size))
    have hz56 := hB6.size
    obtain ⟨gc, cc, rfl, hgc1, hgc2⟩ := hO6.form (by omega)
    have HRC := Lib.hid (hO6.rdA (by omega))
    have HRP := Lib.hid (HR.out.ext HB6.out)
    have hz3 := HB3.out.size
    have HPK := Lib.hid (show 0 < n → ∀ p, A = some p → p.block ∉ [ga, gb] from fun hn p hp hk => by
      obtain ⟨b, o, e1, hc⟩ := HR.out.at_ hn
      rw [hp] at e1
      have e2 : p = ⟨b, o, none⟩ := Option.some.inj e1
      have h9 : b < w.heap.size := World.block_lt_of_cell? w _ (hc 0 hn)
      simp only [List.mem_cons, List.not_mem_nil, or_false, e2] at hk
      omega)
    have hgab : ga < gb ∧ gb < gc := by omega
    clear hO6 hB6 HSP
    go_wp2_with fail
    go_loopw [13] (fun x wx => ∃ j : Nat, j ≤ n ∧ x = .int .i64 j ∧ OwnT wx w3.heap.size (.slice (some ⟨ga, 0, none⟩) n ca) n (List.replicate j oneS ++ l.drop j) ∧ Only [ga] w6 wx) (fun x _ => n - (intOf x).toNat)
    case atStart => exact ⟨0, by omega, rfl, by simpa using HO46.out, Only.refl _ _⟩
    case round =>
      obtain ⟨j, hj, rfl, hO, hW⟩ := hrel
      have HO := Lib.hid hO
      have HW := Lib.hid hW
      by_cases hjn : j < n
      · have hcell := hO.cell j hjn
        have hfree := hO.free j
        have HST := Lib.hid (show List.replicate (j + 1) oneS ++ l.drop (j + 1) = (List.replicate j oneS ++ l.drop j).set j oneS by
          rw [dropT l j (by rw [HL.out]; exact hjn), List.set_append_right _ _ (by simp)]
          simp [List.replicate_succ'])
        obtain ⟨x, hx⟩ : ∃ x, x = (List.replicate j oneS ++ l.drop j).getD j default := ⟨_, rfl⟩
        rw [← hx] at hcell
        clear hO hW hx
        go_wp2
        go_roundw
        case rel => exact ⟨j + 1, by omega, by go_num, by rw [HST.out]; exact HO.out.store j oneS, HW.out.setCell (by simp) _⟩
        case measure => simp [intOf]; omega
      · obtain rfl : n = j := by omega
        have hdr : l.drop n = [] := List.drop_eq_nil_of_le (by rw [HL.out]; exact Nat.le_refl _)
        rw [hdr, List.append_nil] at hO
        have HI := Lib.hid (show LL w6 ga gb w3.heap.size (.slice (some ⟨ga, 0, none⟩) n ca) (.slice (some ⟨gb, 0, none⟩) n cb) n n (List.replicate n oneS) l wr from
          ⟨hO, (HO56.out.keep hW (by
            intro k hk
            have e1 : gb = k := Option.some.inj hk
            simp; omega)).mono hz34, fun k hk => .inl (Option.some.inj hk).symm, fun k hk => .inl (Option.some.inj hk).symm, fun k hk e => by
              have e1 : ga = k := Option.some.inj hk
              have e2 : gb = k := Option.some.inj e
              omega, hW.mono (by simp)⟩)
        clear hO hW hdr HO HW HO46 HO56 HO45 HO4 HO5
        go_wp2_with fail
        go_loopw [6, 8, 14] (fun va vb x wx => ∃ j : Nat, j ≤ 64 ∧ x = .int .i64 j ∧ LL w6 ga gb w3.heap.size va vb (n + j) (n + j) (List.replicate n oneS ++ List.replicate j twoS) (l ++ List.replicate j threeS) wx) (fun _ _ x _ => 64 - (intOf x).toNat)
        case atStart => exact ⟨0, by omega, rfl, by simpa using HI.out⟩
        case round =>
          obtain ⟨j, hj, rfl, hI⟩ := hrel
          have HJ := Lib.hid hI
          have hzr : w3.heap.size ≤ wr.heap.size := by have := hI.on.size; omega
          by_cases hj64 : j < 64
          · have HTW := Lib.hid (show List.replicate n oneS ++ List.replicate (j + 1) twoS = (List.replicate n oneS ++ List.replicate j twoS) ++ [twoS] by rw [List.append_assoc]; simp [List.replicate_succ'])
            have HTH := Lib.hid (show l ++ List.replicate (j + 1) threeS = (l ++ List.replicate j threeS) ++ [threeS] by rw [List.append_assoc]; simp [List.replicate_succ'])
            clear hI
            go_upto_region 21 with (at_builtin; refine wp_appT1 w3.heap.size twoS HJ.out.oa hzr (by omega) _ _ rfl rfl rfl rfl ?_; intro v1 x1 hO1 hG1 hA1; have HJ1 := Lib.hid (HJ.out.step hO1 hG1 hA1); have hz1 : w3.heap.size ≤ x1.heap.size := (by have := HJ1.out.on.size; omega); clear hO1 hG1 hA1)
            go_wp2_with (at_builtin; refine wp_appT1 w3.heap.size threeS HJ1.out.ob hz1 (by omega) _ _ rfl rfl rfl rfl ?_; intro v2 x2 hO2 hG2 hA2; have HJ2 := Lib.hid (HJ1.out.sym.step hO2 hG2 hA2); clear hO2 hG2 hA2)
            go_roundw
            case rel => exact ⟨j + 1, by omega, by go_num, by rw [HTW.out, HTH.out]; exact HJ2.out.sym⟩
            case measure => simp [intOf]; omega
          · have HJ64 := Lib.hid (show j = 64 by omega)
            obtain ⟨g1, k1, rfl, _, _⟩ := hI.oa.form (by omega)
            obtain ⟨g2, k2, rfl, _, _⟩ := hI.ob.form (by omega)
            obtain ⟨N, hN⟩ : ∃ N, N = n + j := ⟨_, rfl⟩
            rw [← hN] at hI ⊢
            have HOA := Lib.hid hI.oa
            have HOB := Lib.hid hI.ob
            have HRC2 := Lib.hid (HRC.out.keep hI.on (by intro _ p hp; have e1 : (⟨gc, 0, none⟩ : Addr) = p := Option.some.inj hp; rw [← e1]; simp; omega))
            have HRP2 := Lib.hid (HRP.out.keep hI.on HPK.out)
            have HBX := Lib.hid (HB6.out.trans (hI.on.below HB6.out.size (by simp; omega)))
            have HGA := Lib.hid (show ∀ i, i < n → (List.replicate n oneS ++ List.replicate j twoS).getD i default = oneS from fun i hi => by
              rw [List.getD_eq_getElem?_getD, List.getElem?_append_left (by simpa using hi)]; simp [hi])
            have HGB := Lib.hid (show ∀ i, i < n → (l ++ List.replicate j threeS).getD i default = l.getD i default from fun i hi => by
              rw [List.getD_eq_getElem?_getD, List.getElem?_append_left (by rw [HL.out]; exact hi), List.getD_eq_getElem?_getD])
            have HGA2 := Lib.hid (show (List.replicate n oneS ++ List.replicate j twoS).getD n default = twoS by
              rw [List.getD_eq_getElem?_getD, List.getElem?_append_right (by simp)]; rw [HJ64.out]; simp)
            have HGB2 := Lib.hid (show (l ++ List.replicate j threeS).getD n default = threeS by
              rw [List.getD_eq_getElem?_getD, List.getElem?_append_right (by rw [HL.out]; exact Nat.le_refl _), HL.out]; rw [HJ64.out]; simp)
            have hN2 : n < N ∧ N ≤ 1000 := by omega
            clear hI HJ HI hN
            obtain ⟨w9, hw9⟩ : ∃ w9, w9 = wr := ⟨_, rfl⟩
            subst hw9
            go_wp2_with fail
            clear hj hj64
            go_loopw [15] (fun x wx => ∃ j : Nat, j ≤ n ∧ x = .int .i64 j ∧ Only [] w9 wx) (fun x _ => n - (intOf x).toNat)
            case atStart => exact ⟨0, by omega, rfl, Only.refl _ _⟩
            case round =>
              obtain ⟨j, hj, rfl, hO⟩ := hrel
              have HO := Lib.hid hO
              by_cases hjn : j < n
              · have hca := (HOA.out.keep hO (by simp)).cell j (by omega)
                have hcb := (HOB.out.keep hO (by simp)).cell j (by omega)
                rw [HGA.out j hjn] at hca
                rw [HGB.out j hjn] at hcb
                obtain ⟨bb, oo, rfl, hcp⟩ := (HRP2.out.keep hO (by simp)).at_ (by omega)
                obtain ⟨bc, oc, ec, hcc⟩ := (HRC2.out.keep hO (by simp)).at_ (by omega)
                have ec2 := Option.some.inj ec
                injection ec2 with ec3 ec4
                subst ec3 ec4
                have hcp2 := hcp j hjn
                have hcc2 := hcc j hjn
                rw [Nat.zero_add] at hcc2
                obtain ⟨x, hx⟩ : ∃ x, x = l.getD j default := ⟨_, rfl⟩
                rw [← hx] at hcb hcp2 hcc2
                obtain ⟨y, hy⟩ : ∃ y, y = oneS := ⟨_, rfl⟩
                rw [← hy] at hca
                have e1 : (y.toList == [111, 110, 101]) = true := by rw [hy, ByteArray.toList_eq]; rfl
                have e2 : (x.toList == x.toList) = true := by simp
                have hjN : (j : Int) < (N : Int) ∧ (j : Int) < (n : Int) ∧ (0 : Int) ≤ (j : Int) := by omega
                clear hO hcp hcc hx hy ec
                go_wp2_with fail
                go_quiet ((fail))
                go_wp2
                go_roundw
                case rel => exact ⟨j + 1, by omega, by go_num, HO.out.drewN _⟩
                case measure => simp [intOf]; omega
              · obtain rfl : n = j := by omega
                have hca := (HOA.out.keep hO (by simp)).cell n (by omega)
                have hcb := (HOB.out.keep hO (by simp)).cell n (by omega)
                rw [HGA2.out] at hca
                rw [HGB2.out] at hcb
                obtain ⟨y, hy⟩ : ∃ y, y = twoS := ⟨_, rfl⟩
                obtain ⟨z, hz⟩ : ∃ z, z = threeS := ⟨_, rfl⟩
                rw [← hy] at hca
                rw [← hz] at hcb
                have e1 : (y.toList == [116, 119, 111]) = true := by rw [hy, ByteArray.toList_eq]; rfl
                have e2 : (z.toList == [116, 104, 114, 101, 101]) = true := by rw [hz, ByteArray.toList_eq]; rfl
                have hjN : (n : Int) < (N : Int) ∧ (0 : Int) ≤ (n : Int) := by omega
                clear hO hy hz
                go_wp2
                go_ret
                exact ⟨by simp, HBX.out.trans (HO.out.below HBX.out.size (by simp))⟩
end Go.Proofs.YtdgcfhlfihpbiaaDoor
