/- The reference's device: Write, Edit. -/
import Derived.Test.YtggoaelbglhehaaMgP2
/- The reference's device: Write, Edit. -/
set_option linter.unusedVariables false
set_option linter.unusedSimpArgs false
set_option maxRecDepth 100000
namespace Go.Proofs.Ytggoaelbglhehaa
open Go.RowKit
section
variable {w0 w : World} {b g : Nat} {vp : Value} {Dp D : DS} {r : Nat} {T : List (Nat × Obj)}
set_option maxHeartbeats 2000000 in
theorem rf_Write (num : Int) (A : Option Addr) (m c : Nat) (L : List UInt8) (h : RfOk r D) (hS : St w0 w b g vp Dp (h.rows ++ T)) (hr : ∀ W : World, Below w0.heap.size w0 W → (∀ p ∈ T, W.heap[p.1]? = some p.2) → Rd W A m c L) (hl : D.left < 9223372036854775808) (hCn : h.C.length ≤ 100000000) (hwr : D.wr < 9223372036854775807) :
    Calls Try.prog 54 #[.pointer (some ⟨r, 0, none⟩), .int .i64 num, .slice A m c] w fun e w' => e = .returned (.int .i64 (wrD D num L).1) ∧ ∃ h' : RfOk r (wrD D num L).2, h'.L.length = h.L.length ∧ h'.C.length ≤ h.C.length + 1 ∧ St w0 w' b g vp Dp (h'.rows ++ T) := by
  obtain ⟨ily, hily, hzz⟩ := Option.map_eq_some_iff.1 info_ly
  simp only [Prod.mk.injEq] at hzz
  obtain ⟨sz0, sz1, sz2⟩ := hzz
  have HILY := Lib.hid (And.intro hily (And.intro sz0 (And.intro sz1 sz2)))
  clear hily sz0 sz1 sz2
  have HH := Lib.hid (rf_there num h hS)
  have HA := Lib.hid (rf_act h hS hl)
  have HS := Lib.hid hS
  have HR := Lib.hid hr
  have hR0 := hr w hS.bl (fun p hp => hS.kp.all p (List.mem_append_right _ hp))
  have hlen := hR0.len
  have hmx := hR0.max
  clear hS hr hR0
  by_cases h1 : 0 ≤ num ∧ num < (D.n : Int)
  · rw [decide_eq_true h1] at HH
    by_cases h2 : m = 512
    · subst h2
      obtain ⟨k, rfl⟩ : ∃ k : Nat, num = k := ⟨num.toNat, by omega⟩
      cases hact : (actD D).1 with
      | false =>
        have HW := Lib.hid (show wrD D k L = (6, (actD D).2) by unfold wrD; rw [if_neg (by simpa using h1), if_neg (by omega), if_neg (by simp [hact])])
        rw [hact] at HA
        rw [HW.out]
        clear hlen hact
        go_enter Try.func54, Try.ntmps54
        go_wp2_with fail
        refine HH.out.mono ?_
        rintro e w1 ⟨rfl, rfl⟩
        go_wp2_with fail
        refine HA.out.mono ?_
        rintro e w2 ⟨rfl, h', hLC, hS2⟩
        have HE := Lib.hid (And.intro hLC hS2)
        clear hLC hS2
        go_wp2
        go_ret
        exact ⟨rfl, h', by rw [HE.out.1.1], by rw [HE.out.1.2]; omega, HE.out.2⟩
      | true =>
        obtain ⟨D2, hD2⟩ : ∃ D2, D2 = (actD D).2 := ⟨_, rfl⟩
        have hk := actD_keeps D
        obtain ⟨D2', hD2'⟩ : ∃ D2', D2' = ({ D2 with wr := D2.wr + 1 } : DS) := ⟨_, rfl⟩
        have HD2' := Lib.hid hD2'
        have hkn : k < D2'.n := by rw [hD2']; show k < D2.n; rw [hD2, hk.2.2.1]; omega
        have HW := Lib.hid (show wrD D k L = (0, { D2' with C := D2'.C ++ [lyPd ⟨k, 0, L⟩] }) by unfold wrD; rw [if_neg (by simpa using h1), if_neg (by omega), if_pos hact, Int.toNat_natCast, hD2', hD2]; rfl)
        clear hD2'
        have HN := Lib.hid (show D2.n = D.n ∧ D2.wr = D.wr by rw [hD2]; exact ⟨hk.2.2.1, hk.2.2.2.2.1⟩)
        rw [hact, ← hD2] at HA
        rw [HW.out]
        have hww : (0 : Int) ≤ (D2.wr : Int) ∧ (D2.wr : Int) < 9223372036854775807 := by have := HN.out.2; omega
        clear hact hD2 hk
        go_enter Try.func54, Try.ntmps54
        go_wp2_with fail
        refine HH.out.mono ?_
        rintro e w1 ⟨rfl, rfl⟩
        go_wp2_with fail
        refine HA.out.mono ?_
        rintro e w2 ⟨rfl, h1', hLC1, hS1⟩
        obtain ⟨-, -, -, -, -, -, -, -, c8, -⟩ := h1'.cells hS1
        have f8 := h1'.free hS1 8
        obtain ⟨h2, hLC2, hS2⟩ := h1'.set hS1 8 (.int .i64 ((D2.wr : Int) + 1)) D2' h1'.left (by rw [HD2'.out]) (by rw [HD2'.out]) (by rw [HD2'.out]) (by rw [HD2'.out]; exact h1'.hl) (by rw [HD2'.out]; simp)
        obtain ⟨W, hW⟩ : ∃ W, W = w2.setCell ⟨r, 8, none⟩ (.int .i64 ((D2.wr : Int) + 1)) := ⟨_, rfl⟩
        rw [← hW] at hS2
        have HS2 := Lib.hid hS2
        have HLC := Lib.hid (show h2.L = h.L ∧ h2.C = h.C from ⟨hLC2.1.trans hLC1.1, hLC2.2.trans hLC1.2⟩)
        have hT : W.drew.cell? ⟨r, 3, none⟩ = some h2.vc := (h2.cells (hS2.drewN 1)).2.2.2.1
        have HCP := Lib.hid (rf_copied W.drew A 512 c L (HR.out _ (hS2.drewN 1).bl (fun p hp => (hS2.drewN 1).kp.all p (List.mem_append_right _ hp))) (by omega))
        clear hS1 hS2 hLC1 hLC2
        go_wp2_with fail
        rw [← hW]
        clear hW c8 f8
        refine wp_region_z (fun w' => True) (fun w' => w'.cell? ⟨r, 3, none⟩ = some h2.vc) 10 (by kernel_rfl) ?_
        refine wpAnyZ.takeN (i := 0) (v := .pointer (some ⟨r, 0, none⟩)) rfl (by kernel_rfl) (by kernel_rfl) (by kernel_rfl) (by decide) (fun _ _ _ h => h) (by rfl) (fun w => ?zy) trivial (fun _ => hT) ?_
        case zy => go_simp
        (try simp only [Act.put, List.getElem_toArray, List.getElem_cons_zero, List.getElem_cons_succ, List.setIfInBounds_toArray, List.set_cons_zero, List.set_cons_succ])
        refine wpAnyZ.takeN (i := 1) (v := .pointer (some ⟨r, 0, none⟩)) rfl (by kernel_rfl) (by kernel_rfl) (by kernel_rfl) (by decide) (fun _ _ _ h => h) (by rfl) (fun w => ?zy) trivial (fun _ => hT) ?_
        case zy => go_simp
        (try simp only [Act.put, List.getElem_toArray, List.getElem_cons_zero, List.getElem_cons_succ, List.setIfInBounds_toArray, List.set_cons_zero, List.set_cons_succ])
        refine wpAnyZ.takeN (i := 2) (v := .pointer (some ⟨r, 0, none⟩)) rfl (by kernel_rfl) (by kernel_rfl) (by kernel_rfl) (by decide) (fun _ _ _ h => h) (by rfl) (fun w => ?zy) trivial (fun _ => hT) ?_
        case zy => go_simp
        (try simp only [Act.put, List.getElem_toArray, List.getElem_cons_zero, List.getElem_cons_succ, List.setIfInBounds_toArray, List.set_cons_zero, List.set_cons_succ])
        refine wpAnyZ.takeN (i := 3) (v := .pointer (some ⟨r, 3, none⟩)) rfl (by kernel_rfl) (by kernel_rfl) (by kernel_rfl) (by decide) (fun _ _ _ h => h) (by rfl) (fun w => ?zy) trivial (fun _ => hT) ?_
        case zy => go_simp
        (try simp only [Act.put, List.getElem_toArray, List.getElem_cons_zero, List.getElem_cons_succ, List.setIfInBounds_toArray, List.set_cons_zero, List.set_cons_succ])
        refine wpAnyZ.take (i := 4) (v := h2.vc) (U := fun w' => w'.cell? ⟨r, 3, none⟩ = some h2.vc) rfl (by kernel_rfl) (by kernel_rfl) (by kernel_rfl) (by decide) (fun _ _ _ h => h) (.inr ⟨fun _ h => h, by kernel_rfl⟩) (.inl (by kernel_rfl)) (.inl ⟨by rfl, fun w hw => ?zy⟩) hT trivial (fun _ => hT) ?_
        case zy => (dsimp only at hw; go_simp)
        (try simp only [Act.put, List.getElem_toArray, List.getElem_cons_zero, List.getElem_cons_succ, List.setIfInBounds_toArray, List.set_cons_zero, List.set_cons_succ])
        refine wpAnyZ.takeN (i := 5) (v := .int .i64 (k : Int)) rfl (by kernel_rfl) (by kernel_rfl) (by kernel_rfl) (by decide) (fun _ _ _ h => h) (by rfl) (fun w => ?zy) trivial (fun _ => hT) ?_
        case zy => go_simp
        (try simp only [Act.put, List.getElem_toArray, List.getElem_cons_zero, List.getElem_cons_succ, List.setIfInBounds_toArray, List.set_cons_zero, List.set_cons_succ])
        refine wpAnyZ.takeN (i := 6) (v := .slice A 512 c) rfl (by kernel_rfl) (by kernel_rfl) (by kernel_rfl) (by decide) (fun _ _ _ h => h) (by rfl) (fun w => ?zy) trivial (fun _ => hT) ?_
        case zy => go_simp
        (try simp only [Act.put, List.getElem_toArray, List.getElem_cons_zero, List.getElem_cons_succ, List.setIfInBounds_toArray, List.set_cons_zero, List.set_cons_succ])
        refine wpAnyZ.oneK (i := 7) (E := False) (by kernel_rfl) rfl (by rfl) (fun K hK => ?_)
        go_simp
        refine HCP.out.mono ?_
        rintro e w4 ⟨u, rfl, hO4, hB4⟩
        obtain ⟨Au, cu, rfl, _⟩ := hO4.rd (by omega)
        obtain ⟨h3, hL3, hC3, hvl3, hvc3, hS3, hly⟩ := h2.copied (HS2.out.drewN 1) hB4 hO4
        have HS3 := Lib.hid hS3
        have HLY := Lib.hid hly
        have HL3 := Lib.hid (And.intro hL3 (And.intro hC3 (And.intro hvl3 hvc3)))
        have hcell3 := h3.cells hS3
        have hT : w4.cell? ⟨r, 3, none⟩ = some h2.vc := by rw [← HL3.out.2.2.2]; exact hcell3.2.2.2.1
        clear hO4 hB4 hS3 hly hL3 hC3 hvl3 hvc3 hcell3
        go_wp2_with fail
        refine hK.out _ _ ⟨⟨trivial, fun _ => hT⟩, ?_⟩
        clear hK
        (try simp only [Act.put, List.getElem_toArray, List.getElem_cons_zero, List.getElem_cons_succ, List.setIfInBounds_toArray, List.set_cons_zero, List.set_cons_succ])
        refine wpAnyZ.takeN (i := 8) (v := .agg #[.int .i64 (k : Int), .int .i64 (0), .slice Au 512 cu]) rfl (by kernel_rfl) (by kernel_rfl) (by kernel_rfl) (by decide) (fun _ _ _ h => h) (by rfl) (fun w => ?zy) trivial (fun _ => hT) ?_
        case zy => go_simp
        (try simp only [Act.put, List.getElem_toArray, List.getElem_cons_zero, List.getElem_cons_succ, List.setIfInBounds_toArray, List.set_cons_zero, List.set_cons_succ])
        refine wpAnyZ.oneK (i := 9) (E := False) (by kernel_rfl) rfl (by rfl) (fun K hK => ?_)
        go_simp
        have HS5 := Lib.hid (HS3.out.alloc (.cells #[.int .i64 (k : Int), .int .i64 (0), .slice Au 512 cu] 102))
        have hT5 : (w4.alloc (.cells #[.int .i64 (k : Int), .int .i64 (0), .slice Au 512 cu] 102)).cell? ⟨r, 3, none⟩ = some h2.vc := by rw [← HL3.out.2.2.2]; exact (h3.cells HS5.out).2.2.2.1
        refine hK.out _ _ ⟨⟨trivial, fun _ => hT5⟩, ?_⟩
        clear hK
        (try simp only [Act.put, List.getElem_toArray, List.getElem_cons_zero, List.getElem_cons_succ, List.setIfInBounds_toArray, List.set_cons_zero, List.set_cons_succ])
        have HS5b := Lib.hid (show St w0 (w4.alloc (.cells #[.int .i64 (k : Int), .int .i64 (0), .slice Au 512 cu] 102)) b g vp Dp (((r, rfO D2'.n h3.base h3.vl h3.vc D2'.armed h3.left D2'.down D2'.rd D2'.wr D2'.fl) :: h3.Ql) ++ (h3.Qc ++ (h3.K ++ T))) from by
          have h9 := HS5.out
          unfold RfOk.rows at h9
          simp only [List.cons_append, List.append_assoc, List.nil_append] at h9 ⊢
          exact h9)
        have HQ3 := Lib.hid (show QV 102 3 h2.vc h3.C.length (lyvs h3.C) h3.Qc from by rw [← HL3.out.2.2.2]; exact h3.qc)
        have hcn : h3.C.length ≤ 100000000 := by rw [HL3.out.2.1, HLC.out.2]; exact hCn
        refine wpAnyZ.oneK (i := 10) (E := False) (by kernel_rfl) rfl (by rfl) (fun K hK => ?_)
        refine step_appQ Try.underlying92 HILY.out.1 HILY.out.2.1 HILY.out.2.2.1 HILY.out.2.2.2 rfl (by omega) (P := ((r, rfO D2'.n h3.base h3.vl h3.vc D2'.armed h3.left D2'.down D2'.rd D2'.wr D2'.fl) :: h3.Ql)) (Q := h3.Qc) (T := (h3.K ++ T)) HS5b.out HQ3.out [.int .i64 (k : Int), .int .i64 (0), .slice Au 512 cu] rfl (by intro u hu; simp at hu; rcases hu with rfl | rfl | rfl <;> rfl) (by omega) (by simp only [maxLen]; omega) w4.heap.size (heap_alloc_new w4 _) _ _ rfl rfl rfl rfl ?_
        intro v1 w6 Q1 hq1 hS6
        obtain ⟨A1, c1, rfl⟩ := hq1.slice
        have hh6 : w6.heap[r]? = some (rfO D2'.n h3.base h3.vl h3.vc D2'.armed h3.left D2'.down D2'.rd D2'.wr D2'.fl) := hS6.mem (by simp)
        have hcell6 : w6.cell? ⟨r, 3, none⟩ = some h3.vc := cell_of_row w6 r 3 _ _ _ hh6
        have hfree6 := frozen_of_row w6 r 3 _ _ hh6
        have HPU := Lib.hid (h3.pushC (⟨k, 0, L⟩, .slice Au 512 cu) (HLY.out k 0 hkn (by omega)) rfl hlen hq1 hS6)
        refine hK.out _ _ ⟨⟨trivial, (fun h => (have h9 : (true : Bool) = false := h; by cases h9))⟩, ?_⟩
        clear hK hT hT5 hq1 hS6 hh6 hcn
        (try simp only [Act.put, List.getElem_toArray, List.getElem_cons_zero, List.getElem_cons_succ, List.setIfInBounds_toArray, List.set_cons_zero, List.set_cons_succ])
        refine wpAnyZ.takeN (i := 11) (v := .pointer (some ⟨r, 0, none⟩)) rfl (by kernel_rfl) (by kernel_rfl) (by kernel_rfl) (by decide) (fun _ _ _ h => h) (by rfl) (fun w => ?zy) trivial (fun h => (have h9 : (true : Bool) = false := h; by cases h9)) ?_
        case zy => go_simp
        (try simp only [Act.put, List.getElem_toArray, List.getElem_cons_zero, List.getElem_cons_succ, List.setIfInBounds_toArray, List.set_cons_zero, List.set_cons_succ])
        refine wpAnyZ.takeN (i := 12) (v := .pointer (some ⟨r, 3, none⟩)) rfl (by kernel_rfl) (by kernel_rfl) (by kernel_rfl) (by decide) (fun _ _ _ h => h) (by rfl) (fun w => ?zy) trivial (fun h => (have h9 : (true : Bool) = false := h; by cases h9)) ?_
        case zy => go_simp
        (try simp only [Act.put, List.getElem_toArray, List.getElem_cons_zero, List.getElem_cons_succ, List.setIfInBounds_toArray, List.set_cons_zero, List.set_cons_succ])
        refine wpAnyZ.oneK (i := 13) (E := False) (by kernel_rfl) rfl (by rfl) (fun K hK => ?_)
        go_simp
        refine hK.out _ _ ⟨⟨trivial, (fun h => (have h9 : (true : Bool) = false := h; by cases h9))⟩, ?_⟩
        clear hK hcell6 hfree6
        refine wpAnyZ.done (by kernel_rfl) ?_ _

        go_wp2
        go_ret
        obtain ⟨h9, hL9, hC9, hS9⟩ := HPU.out
        exact ⟨rfl, h9, by rw [hL9, HL3.out.1, HLC.out.1], by rw [hC9, HL3.out.2.1, HLC.out.2]; simp, hS9⟩
    · have HW := Lib.hid (show wrD D num L = (61, D) by unfold wrD; rw [if_neg (by simpa using h1), if_pos (by omega)])
      have e1 : ((m : Int) != 512) = true := by simp; omega
      rw [HW.out]
      clear hlen h2
      go_enter Try.func54, Try.ntmps54
      go_wp2_with fail
      refine HH.out.mono ?_
      rintro e w1 ⟨rfl, rfl⟩
      go_wp2
      go_ret
      exact ⟨rfl, h, rfl, by omega, HS.out⟩
  · rw [decide_eq_false h1] at HH
    have HW := Lib.hid (show wrD D num L = (60, D) by unfold wrD; rw [if_pos h1])
    rw [HW.out]
    clear hlen h1
    go_enter Try.func54, Try.ntmps54
    go_wp2_with fail
    refine HH.out.mono ?_
    rintro e w1 ⟨rfl, rfl⟩
    go_wp2
    go_ret
    exact ⟨rfl, h, rfl, by omega, HS.out⟩
end
end Go.Proofs.Ytggoaelbglhehaa
/- The reference's device: Edit. -/
set_option linter.unusedVariables false
set_option linter.unusedSimpArgs false
set_option maxRecDepth 100000
namespace Go.Proofs.Ytggoaelbglhehaa
open Go.RowKit
section
variable {w0 w : World} {b g : Nat} {vp : Value} {Dp D : DS} {r : Nat} {T : List (Nat × Obj)}
set_option maxHeartbeats 2000000 in
theorem rf_Edit (num at_ : Int) (A : Option Addr) (m c : Nat) (L : List UInt8) (h : RfOk r D) (hS : St w0 w b g vp Dp (h.rows ++ T)) (hr : ∀ W : World, Below w0.heap.size w0 W → (∀ p ∈ T, W.heap[p.1]? = some p.2) → Rd W A m c L) (hat : -9223372036854775808 ≤ at_ ∧ at_ < 9223372036854775808) (hLn : h.L.length ≤ 100000000) :
    Calls Try.prog 30 #[.pointer (some ⟨r, 0, none⟩), .int .i64 num, .int .i64 at_, .slice A m c] w fun e w' => e = .returned (.int .i64 (edD D num at_ L).1) ∧ ∃ h' : RfOk r (edD D num at_ L).2, h'.L.length ≤ h.L.length + 1 ∧ h'.C.length = h.C.length ∧ St w0 w' b g vp Dp (h'.rows ++ T) := by
  obtain ⟨ily, hily, hzz⟩ := Option.map_eq_some_iff.1 info_ly
  simp only [Prod.mk.injEq] at hzz
  obtain ⟨sz0, sz1, sz2⟩ := hzz
  have HILY := Lib.hid (And.intro hily (And.intro sz0 (And.intro sz1 sz2)))
  clear hily sz0 sz1 sz2
  have HH := Lib.hid (rf_there num h hS)
  have HS := Lib.hid hS
  have hR0 := hr w hS.bl (fun p hp => hS.kp.all p (List.mem_append_right _ hp))
  have hlen := hR0.len
  have hmx := hR0.max
  have HR := Lib.hid hr
  by_cases h1 : 0 ≤ num ∧ num < (D.n : Int)
  · rw [decide_eq_true h1] at HH
    by_cases h2 : at_ < 0 ∨ 512 < at_ ∨ 512 - at_ < (m : Int)
    · have HW := Lib.hid (show edD D num at_ L = (1, D) by unfold edD; rw [if_neg (by simpa using h1), if_pos (by rw [hlen]; exact h2)])
      rw [HW.out]
      rcases (by omega : at_ < 0 ∨ (0 ≤ at_ ∧ 512 < at_) ∨ (0 ≤ at_ ∧ at_ ≤ 512 ∧ 512 - at_ < (m : Int))) with h3 | ⟨h3, h4⟩ | ⟨h3, h4, h5⟩
      · clear hlen h2 hS hr hR0 hmx
        go_enter Try.func30, Try.ntmps30
        go_wp2_with fail
        refine HH.out.mono ?_
        rintro e w1 ⟨rfl, rfl⟩
        go_wp2
        go_ret
        exact ⟨rfl, h, by omega, rfl, HS.out⟩
      · have h6 : ¬ at_ < 0 := by omega
        clear hlen h2 hS hr hR0 hmx
        go_enter Try.func30, Try.ntmps30
        go_wp2_with fail
        refine HH.out.mono ?_
        rintro e w1 ⟨rfl, rfl⟩
        go_wp2
        go_ret
        exact ⟨rfl, h, by omega, rfl, HS.out⟩
      · have h6 : ¬ at_ < 0 ∧ ¬ 512 < at_ := by omega
        have hw1 : IntKind.i64.wrap (512 - at_) = 512 - at_ := IntWalk.i64_in _ (by omega)
        clear hlen h2 hS hr hR0 hmx
        go_enter Try.func30, Try.ntmps30
        go_wp2_with fail
        refine HH.out.mono ?_
        rintro e w1 ⟨rfl, rfl⟩
        go_wp2
        go_ret
        exact ⟨rfl, h, by omega, rfl, HS.out⟩
    · obtain ⟨q, rfl⟩ : ∃ q : Nat, at_ = q := ⟨at_.toNat, by omega⟩
      obtain ⟨k, rfl⟩ : ∃ k : Nat, num = k := ⟨num.toNat, by omega⟩
      have HW := Lib.hid (show edD D k q L = (0, { D with M := splice D.M (k * 512 + q) L }) by unfold edD; rw [if_neg (by simpa using h1), if_neg (by rw [hlen]; exact h2), Int.toNat_natCast, Int.toNat_natCast])
      rw [HW.out]
      have h6 : ¬ (q : Int) < 0 ∧ ¬ 512 < (q : Int) ∧ ¬ (m : Int) > 512 - (q : Int) ∧ (q : Int) ≤ 512 ∧ (m : Int) ≤ 512 - (q : Int) := by omega
      have hw1 : IntKind.i64.wrap (512 - (q : Int)) = 512 - (q : Int) := IntWalk.i64_in _ (by omega)
      have hm5 : m ≤ 512 := by omega
      have hqm : q + L.length ≤ 512 := by omega
      obtain ⟨D2', hD2'⟩ : ∃ D2', D2' = D := ⟨_, rfl⟩
      subst hD2'
      have hkn : k < D2'.n := by omega
      have h2' := h
      obtain ⟨h2, hh2⟩ : ∃ h2, h2 = h := ⟨_, rfl⟩
      have HLC := Lib.hid (show h2.L = h.L ∧ h2.C = h.C by rw [hh2]; exact ⟨rfl, rfl⟩)
      have HS2 := Lib.hid (show St w0 w b g vp Dp (h2.rows ++ T) by rw [hh2]; exact hS)
      have hT : w.drew.cell? ⟨r, 2, none⟩ = some h2.vl := (h2.cells (HS2.out.drewN 1)).2.2.1
      have HCP := Lib.hid (rf_copied w.drew A m c L (HR.out _ (HS2.out.drewN 1).bl (fun p hp => (HS2.out.drewN 1).kp.all p (List.mem_append_right _ hp))) (by omega))
      clear hS hr hR0 h2' hh2
      go_enter Try.func30, Try.ntmps30
      go_wp2_with fail
      refine HH.out.mono ?_
      rintro e w1 ⟨rfl, rfl⟩
      go_wp2_with fail
      refine wp_region_z (fun w' => True) (fun w' => w'.cell? ⟨r, 2, none⟩ = some h2.vl) 11 (by kernel_rfl) ?_
      refine wpAnyZ.takeN (i := 0) (v := .pointer (some ⟨r, 0, none⟩)) rfl (by kernel_rfl) (by kernel_rfl) (by kernel_rfl) (by decide) (fun _ _ _ h => h) (by rfl) (fun w => ?zy) trivial (fun _ => hT) ?_
      case zy => go_simp
      (try simp only [Act.put, List.getElem_toArray, List.getElem_cons_zero, List.getElem_cons_succ, List.setIfInBounds_toArray, List.set_cons_zero, List.set_cons_succ])
      refine wpAnyZ.takeN (i := 1) (v := .pointer (some ⟨r, 0, none⟩)) rfl (by kernel_rfl) (by kernel_rfl) (by kernel_rfl) (by decide) (fun _ _ _ h => h) (by rfl) (fun w => ?zy) trivial (fun _ => hT) ?_
      case zy => go_simp
      (try simp only [Act.put, List.getElem_toArray, List.getElem_cons_zero, List.getElem_cons_succ, List.setIfInBounds_toArray, List.set_cons_zero, List.set_cons_succ])
      refine wpAnyZ.takeN (i := 2) (v := .pointer (some ⟨r, 0, none⟩)) rfl (by kernel_rfl) (by kernel_rfl) (by kernel_rfl) (by decide) (fun _ _ _ h => h) (by rfl) (fun w => ?zy) trivial (fun _ => hT) ?_
      case zy => go_simp
      (try simp only [Act.put, List.getElem_toArray, List.getElem_cons_zero, List.getElem_cons_succ, List.setIfInBounds_toArray, List.set_cons_zero, List.set_cons_succ])
      refine wpAnyZ.takeN (i := 3) (v := .pointer (some ⟨r, 2, none⟩)) rfl (by kernel_rfl) (by kernel_rfl) (by kernel_rfl) (by decide) (fun _ _ _ h => h) (by rfl) (fun w => ?zy) trivial (fun _ => hT) ?_
      case zy => go_simp
      (try simp only [Act.put, List.getElem_toArray, List.getElem_cons_zero, List.getElem_cons_succ, List.setIfInBounds_toArray, List.set_cons_zero, List.set_cons_succ])
      refine wpAnyZ.take (i := 4) (v := h2.vl) (U := fun w' => w'.cell? ⟨r, 2, none⟩ = some h2.vl) rfl (by kernel_rfl) (by kernel_rfl) (by kernel_rfl) (by decide) (fun _ _ _ h => h) (.inr ⟨fun _ h => h, by kernel_rfl⟩) (.inl (by kernel_rfl)) (.inl ⟨by rfl, fun w hw => ?zy⟩) hT trivial (fun _ => hT) ?_
      case zy => (dsimp only at hw; go_simp)
      (try simp only [Act.put, List.getElem_toArray, List.getElem_cons_zero, List.getElem_cons_succ, List.setIfInBounds_toArray, List.set_cons_zero, List.set_cons_succ])
      refine wpAnyZ.takeN (i := 5) (v := .int .i64 (k : Int)) rfl (by kernel_rfl) (by kernel_rfl) (by kernel_rfl) (by decide) (fun _ _ _ h => h) (by rfl) (fun w => ?zy) trivial (fun _ => hT) ?_
      case zy => go_simp
      (try simp only [Act.put, List.getElem_toArray, List.getElem_cons_zero, List.getElem_cons_succ, List.setIfInBounds_toArray, List.set_cons_zero, List.set_cons_succ])
      refine wpAnyZ.takeN (i := 6) (v := .int .i64 (q : Int)) rfl (by kernel_rfl) (by kernel_rfl) (by kernel_rfl) (by decide) (fun _ _ _ h => h) (by rfl) (fun w => ?zy) trivial (fun _ => hT) ?_
      case zy => go_simp
      (try simp only [Act.put, List.getElem_toArray, List.getElem_cons_zero, List.getElem_cons_succ, List.setIfInBounds_toArray, List.set_cons_zero, List.set_cons_succ])
      refine wpAnyZ.takeN (i := 7) (v := .slice A m c) rfl (by kernel_rfl) (by kernel_rfl) (by kernel_rfl) (by decide) (fun _ _ _ h => h) (by rfl) (fun w => ?zy) trivial (fun _ => hT) ?_
      case zy => go_simp
      (try simp only [Act.put, List.getElem_toArray, List.getElem_cons_zero, List.getElem_cons_succ, List.setIfInBounds_toArray, List.set_cons_zero, List.set_cons_succ])
      refine wpAnyZ.oneK (i := 8) (E := False) (by kernel_rfl) rfl (by rfl) (fun K hK => ?_)
      go_simp
      refine HCP.out.mono ?_
      rintro e w4 ⟨u, rfl, hO4, hB4⟩
      obtain ⟨Au, cu, rfl, _⟩ := hO4.rd (by omega)
      obtain ⟨h3, hL3, hC3, hvl3, hvc3, hS3, hly⟩ := h2.copied (HS2.out.drewN 1) hB4 hO4
      have HS3 := Lib.hid hS3
      have HLY := Lib.hid hly
      have HL3 := Lib.hid (And.intro hL3 (And.intro hC3 (And.intro hvl3 hvc3)))
      have hcell3 := h3.cells hS3
      have hT : w4.cell? ⟨r, 2, none⟩ = some h2.vl := by rw [← HL3.out.2.2.1]; exact hcell3.2.2.1
      clear hO4 hB4 hS3 hly hL3 hC3 hvl3 hvc3 hcell3
      go_wp2_with fail
      refine hK.out _ _ ⟨⟨trivial, fun _ => hT⟩, ?_⟩
      clear hK
      (try simp only [Act.put, List.getElem_toArray, List.getElem_cons_zero, List.getElem_cons_succ, List.setIfInBounds_toArray, List.set_cons_zero, List.set_cons_succ])
      refine wpAnyZ.takeN (i := 9) (v := .agg #[.int .i64 (k : Int), .int .i64 (q), .slice Au m cu]) rfl (by kernel_rfl) (by kernel_rfl) (by kernel_rfl) (by decide) (fun _ _ _ h => h) (by rfl) (fun w => ?zy) trivial (fun _ => hT) ?_
      case zy => go_simp
      (try simp only [Act.put, List.getElem_toArray, List.getElem_cons_zero, List.getElem_cons_succ, List.setIfInBounds_toArray, List.set_cons_zero, List.set_cons_succ])
      refine wpAnyZ.oneK (i := 10) (E := False) (by kernel_rfl) rfl (by rfl) (fun K hK => ?_)
      go_simp
      have HS5 := Lib.hid (HS3.out.alloc (.cells #[.int .i64 (k : Int), .int .i64 (q), .slice Au m cu] 102))
      have hT5 : (w4.alloc (.cells #[.int .i64 (k : Int), .int .i64 (q), .slice Au m cu] 102)).cell? ⟨r, 2, none⟩ = some h2.vl := by rw [← HL3.out.2.2.1]; exact (h3.cells HS5.out).2.2.1
      refine hK.out _ _ ⟨⟨trivial, fun _ => hT5⟩, ?_⟩
      clear hK
      (try simp only [Act.put, List.getElem_toArray, List.getElem_cons_zero, List.getElem_cons_succ, List.setIfInBounds_toArray, List.set_cons_zero, List.set_cons_succ])
      have HS5b := Lib.hid (show St w0 (w4.alloc (.cells #[.int .i64 (k : Int), .int .i64 (q), .slice Au m cu] 102)) b g vp Dp ([(r, rfO D2'.n h3.base h3.vl h3.vc D2'.armed h3.left D2'.down D2'.rd D2'.wr D2'.fl)] ++ (h3.Ql ++ (h3.Qc ++ (h3.K ++ T)))) from by
        have h9 := HS5.out
        unfold RfOk.rows at h9
        simp only [List.cons_append, List.append_assoc, List.nil_append] at h9 ⊢
        exact h9)
      have HQ3 := Lib.hid (show QV 102 3 h2.vl h3.L.length (lyvs h3.L) h3.Ql from by rw [← HL3.out.2.2.1]; exact h3.ql)
      have hcn : h3.L.length ≤ 100000000 := by rw [HL3.out.1, HLC.out.1]; exact hLn
      refine wpAnyZ.oneK (i := 11) (E := False) (by kernel_rfl) rfl (by rfl) (fun K hK => ?_)
      refine step_appQ Try.underlying92 HILY.out.1 HILY.out.2.1 HILY.out.2.2.1 HILY.out.2.2.2 rfl (by omega) (P := [(r, rfO D2'.n h3.base h3.vl h3.vc D2'.armed h3.left D2'.down D2'.rd D2'.wr D2'.fl)]) (Q := h3.Ql) (T := (h3.Qc ++ (h3.K ++ T))) HS5b.out HQ3.out [.int .i64 (k : Int), .int .i64 (q), .slice Au m cu] rfl (by intro u hu; simp at hu; rcases hu with rfl | rfl | rfl <;> rfl) (by omega) (by simp only [maxLen]; omega) w4.heap.size (heap_alloc_new w4 _) _ _ rfl rfl rfl rfl ?_
      intro v1 w6 Q1 hq1 hS6
      obtain ⟨A1, c1, rfl⟩ := hq1.slice
      have hh6 : w6.heap[r]? = some (rfO D2'.n h3.base h3.vl h3.vc D2'.armed h3.left D2'.down D2'.rd D2'.wr D2'.fl) := hS6.mem (by simp)
      have hcell6 : w6.cell? ⟨r, 2, none⟩ = some h3.vl := cell_of_row w6 r 2 _ _ _ hh6
      have hfree6 := frozen_of_row w6 r 2 _ _ hh6
      have HPU := Lib.hid (h3.pushL (⟨k, q, L⟩, .slice Au m cu) (HLY.out k q hkn hqm) hq1 hS6)
      refine hK.out _ _ ⟨⟨trivial, (fun h => (have h9 : (true : Bool) = false := h; by cases h9))⟩, ?_⟩
      clear hK hT hT5 hq1 hS6 hh6 hcn
      (try simp only [Act.put, List.getElem_toArray, List.getElem_cons_zero, List.getElem_cons_succ, List.setIfInBounds_toArray, List.set_cons_zero, List.set_cons_succ])
      refine wpAnyZ.takeN (i := 12) (v := .pointer (some ⟨r, 0, none⟩)) rfl (by kernel_rfl) (by kernel_rfl) (by kernel_rfl) (by decide) (fun _ _ _ h => h) (by rfl) (fun w => ?zy) trivial (fun h => (have h9 : (true : Bool) = false := h; by cases h9)) ?_
      case zy => go_simp
      (try simp only [Act.put, List.getElem_toArray, List.getElem_cons_zero, List.getElem_cons_succ, List.setIfInBounds_toArray, List.set_cons_zero, List.set_cons_succ])
      refine wpAnyZ.takeN (i := 13) (v := .pointer (some ⟨r, 2, none⟩)) rfl (by kernel_rfl) (by kernel_rfl) (by kernel_rfl) (by decide) (fun _ _ _ h => h) (by rfl) (fun w => ?zy) trivial (fun h => (have h9 : (true : Bool) = false := h; by cases h9)) ?_
      case zy => go_simp
      (try simp only [Act.put, List.getElem_toArray, List.getElem_cons_zero, List.getElem_cons_succ, List.setIfInBounds_toArray, List.set_cons_zero, List.set_cons_succ])
      refine wpAnyZ.oneK (i := 14) (E := False) (by kernel_rfl) rfl (by rfl) (fun K hK => ?_)
      go_simp
      refine hK.out _ _ ⟨⟨trivial, (fun h => (have h9 : (true : Bool) = false := h; by cases h9))⟩, ?_⟩
      clear hK hcell6 hfree6
      refine wpAnyZ.done (by kernel_rfl) ?_ _

      go_wp2
      go_ret
      obtain ⟨h9, hL9, hC9, hS9⟩ := HPU.out
      exact ⟨rfl, h9, by rw [hL9, HL3.out.1, HLC.out.1]; simp, by rw [hC9, HL3.out.2.1, HLC.out.2], hS9⟩
  · rw [decide_eq_false h1] at HH
    have HW := Lib.hid (show edD D num at_ L = (60, D) by unfold edD; rw [if_pos h1])
    rw [HW.out]
    clear hlen h1 hS hr hR0
    go_enter Try.func30, Try.ntmps30
    go_wp2_with fail
    refine HH.out.mono ?_
    rintro e w1 ⟨rfl, rfl⟩
    go_wp2
    go_ret
    exact ⟨rfl, h, by omega, rfl, HS.out⟩
end
end Go.Proofs.Ytggoaelbglhehaa
/- The reference's device: Flush. -/
set_option linter.unusedVariables false
set_option linter.unusedSimpArgs false
set_option maxRecDepth 100000
namespace Go.Proofs.Ytggoaelbglhehaa
open Go.RowKit
section
variable {w0 w : World} {b g : Nat} {vp : Value} {Dp D : DS} {r : Nat} {T : List (Nat × Obj)}
theorem ly_cellsW {w : World} {vl : Value} {L : List (Ly × Value)} {Ql : List (Nat × Obj)} (hq : QV 102 3 vl L.length (lyvs L) Ql) (hX : ∀ p ∈ Ql, w.heap[p.1]? = some p.2) (i : Nat) (hi : i < L.length) :
    ∃ kl c, vl = .slice (some ⟨kl, 0, none⟩) L.length c ∧ w.cell? ⟨kl, i * 3, none⟩ = some (.int .i64 (L.getD i default).1.blk) ∧ w.cell? ⟨kl, i * 3 + 1, none⟩ = some (.int .i64 (L.getD i default).1.at_) ∧ w.cell? ⟨kl, i * 3 + 2, none⟩ = some (L.getD i default).2 := by
  have ho := hq.owns hX
  rcases hq with ⟨_, h0, _⟩ | ⟨kl, c, o, rfl, _, _⟩
  · omega
  · obtain ⟨g0, g1, g2⟩ := lyvs_get L i hi
    have h0 := World.ownsRow.cells ho (g := kl) rfl (i * 3) _ g0
    have h1 := World.ownsRow.cells ho (g := kl) rfl (i * 3 + 1) _ g1
    have h2 := World.ownsRow.cells ho (g := kl) rfl (i * 3 + 2) _ g2
    rw [Addr.add_mid, Nat.zero_add] at h0 h1 h2
    exact ⟨kl, c, rfl, h0, h1, h2⟩
/-- the cache is let go -/
theorem RfOk.dropC (h : RfOk r D) (hS : St w0 w b g vp Dp (h.rows ++ T)) : ∃ h' : RfOk r { D with C := [] }, h'.L = h.L ∧ h'.C = [] ∧ St w0 (w.setCell ⟨r, 3, none⟩ (.slice none 0 0)) b g vp Dp (h'.rows ++ T) := by
  have hh := h.heap hS
  have h2 := hS.upd 0 (k := r) (o := rfO D.n h.base h.vl h.vc D.armed h.left D.down D.rd D.wr D.fl) rfl ((Only.refl [r] w).setCell (by simp) (.slice none 0 0)) (heap_setCell_same w r 3 _ _ _ hh)
  refine ⟨⟨h.L, [], h.vl, .slice none 0 0, h.base, h.M0, h.left, h.Ql, [], h.K, h.ql, QV.nil _ _, h.bs, h.lo, by simp, h.hM, rfl, h.hl, h.sm⟩, rfl, rfl, ?_⟩
  refine h2.sub ?_
  show ((r, rfO D.n h.base h.vl (.slice none 0 0) D.armed h.left D.down D.rd D.wr D.fl) :: (h.Ql ++ ([] ++ h.K)) ++ T).Sublist ((r, rfO D.n h.base h.vl (.slice none 0 0) D.armed h.left D.down D.rd D.wr D.fl) :: (h.Ql ++ (h.Qc ++ h.K)) ++ T)
  refine List.Sublist.append ?_ (List.Sublist.refl _)
  refine List.Sublist.cons_cons _ (List.Sublist.append (List.Sublist.refl _) ?_)
  exact List.sublist_append_right _ _
theorem layP_full (M : List UInt8) (x : Ly) (h0 : x.at_ = 0) (h5 : x.B.length = 512) : layP M (lyPd x) 512 = splice M (x.blk * 512 + x.at_) x.B := by
  unfold layP lyPd
  rw [h0, List.take_of_length_le (by simp; omega)]; rfl
set_option maxHeartbeats 2000000 in
theorem rf_Flush (h : RfOk r D) (hS : St w0 w b g vp Dp (h.rows ++ T)) (hl : D.left < 9223372036854775808) (hCn : h.C.length ≤ 100000000) (hLn : h.L.length ≤ 100000000) (hfl : D.fl < 9223372036854775807) :
    Calls Try.prog 55 #[.pointer (some ⟨r, 0, none⟩)] w fun e w' => e = .returned (.int .i64 (flD D).1) ∧ ∃ h' : RfOk r (flD D).2, h'.L.length + h'.C.length ≤ h.L.length + h.C.length ∧ St w0 w' b g vp Dp (h'.rows ++ T) := by
  obtain ⟨ily, hily, hzz⟩ := Option.map_eq_some_iff.1 info_ly
  simp only [Prod.mk.injEq] at hzz
  obtain ⟨sz0, sz1, sz2⟩ := hzz
  have HILY := Lib.hid (And.intro hily (And.intro sz0 (And.intro sz1 sz2)))
  clear hily sz0 sz1 sz2
  have HA := Lib.hid (rf_act h hS hl)
  have hk := actD_keeps D
  clear hS
  cases hact : (actD D).1 with
  | false =>
    have HW := Lib.hid (show flD D = (6, (actD D).2) by unfold flD; rw [if_neg (by simp [hact])])
    rw [hact] at HA
    rw [HW.out]
    clear hact hk
    go_enter Try.func55, Try.ntmps55
    go_wp2_with fail
    refine HA.out.mono ?_
    rintro e w2 ⟨rfl, h', hLC, hS2⟩
    have HE := Lib.hid (And.intro hLC hS2)
    clear hLC hS2
    go_wp2
    go_ret
    exact ⟨rfl, h', by rw [HE.out.1.1, HE.out.1.2]; omega, HE.out.2⟩
  | true =>
    obtain ⟨D2, hD2⟩ : ∃ D2, D2 = (actD D).2 := ⟨_, rfl⟩
    obtain ⟨D3, hD3⟩ : ∃ D3, D3 = ({ D2 with fl := D2.fl + 1 } : DS) := ⟨_, rfl⟩
    have HD3 := Lib.hid hD3
    have HW := Lib.hid (show flD D = (0, { D3 with C := [], M := layA (fun _ => 512) 0 D3.C D3.M }) by unfold flD; rw [if_pos hact, hD3, hD2])
    rw [hact, ← hD2] at HA
    rw [HW.out]
    have hww : (0 : Int) ≤ (D2.fl : Int) ∧ (D2.fl : Int) < 9223372036854775807 := by have := hk.2.2.2.2.2; rw [hD2]; omega
    clear hact hD2 hk hD3
    go_enter Try.func55, Try.ntmps55
    go_wp2_with fail
    refine HA.out.mono ?_
    rintro e w2 ⟨rfl, h1', hLC1, hS1⟩
    obtain ⟨-, -, -, -, -, -, -, -, -, c9⟩ := h1'.cells hS1
    have f9 := h1'.free hS1 9
    obtain ⟨h2, hLC2, hS2⟩ := h1'.set hS1 9 (.int .i64 ((D2.fl : Int) + 1)) D3 h1'.left (by rw [HD3.out]) (by rw [HD3.out]) (by rw [HD3.out]) (by rw [HD3.out]; exact h1'.hl) (by rw [HD3.out]; simp)
    obtain ⟨W, hW⟩ : ∃ W, W = w2.setCell ⟨r, 9, none⟩ (.int .i64 ((D2.fl : Int) + 1)) := ⟨_, rfl⟩
    rw [← hW] at hS2
    have HS2 := Lib.hid hS2
    have HLC := Lib.hid (show h2.L = h.L ∧ h2.C = h.C from ⟨hLC2.1.trans hLC1.1, hLC2.2.trans hLC1.2⟩)
    have hn : h2.C.length ≤ 100000000 := by rw [HLC.out.2]; exact hCn
    clear hS1 hS2 hLC1 hLC2
    go_wp2_with fail
    rw [← hW]
    clear hW c9 f9
    obtain ⟨n, hnn⟩ : ∃ n, n = h2.C.length := ⟨_, rfl⟩
    have HNN := Lib.hid hnn
    clear hnn
    go_loopw [4] (fun x wx => ∃ i : Nat, ∃ Di, ∃ hi : RfOk r Di, Di = { D3 with M := layA (fun _ => 512) 0 (D3.C.take i) D3.M } ∧ i ≤ h2.C.length ∧ x = .int .i64 i ∧ hi.C = h2.C ∧ hi.L.length = h2.L.length + i ∧ St w0 wx b g vp Dp (hi.rows ++ T)) (fun x _ => h2.C.length - (intOf x).toNat)
    case atStart => exact ⟨0, D3, h2, rfl, by omega, rfl, rfl, rfl, HS2.out⟩
    case round =>
      obtain ⟨i, Di, hi, hDi, hin, rfl, hiC, hiL, hSi⟩ := hrel
      have HSi := Lib.hid hSi
      have HIL := Lib.hid hiL
      have hcc := hi.cells hSi
      have hnl : hi.C.length = h2.C.length := by rw [hiC]
      have hLb : hi.L.length ≤ 200000000 := by rw [hiL, HLC.out.1]; omega
      have HDi := Lib.hid hDi
      have HIC := Lib.hid hiC
      have hQc : ∀ q ∈ hi.Qc, wr.heap[q.1]? = some q.2 := fun q hq => hSi.kp.all q (by simp [RfOk.rows, hq])
      have c2 := hcc.2.2.1
      have c3 := hcc.2.2.2.1
      by_cases hin2 : i < h2.C.length
      · have HRQ0 := Lib.hid (fun (W : World) (hW : ∀ q ∈ hi.Qc, W.heap[q.1]? = some q.2) => ly_cellsW hi.qc hW i (by rw [hnl]; exact hin2))
        obtain ⟨kc, cc, hvc, g0, g1, g2⟩ := HRQ0.out wr hQc
        obtain ⟨p, hp⟩ : ∃ p, p = hi.C.getD i default := ⟨_, rfl⟩
        have HPM := Lib.hid (show p ∈ hi.C by rw [hp]; exact getD_mem hi.C i default (by rw [hnl]; exact hin2))
        rw [← hp] at g0 g1 g2 HRQ0
        have hco := hi.co p HPM.out
        have HST := Lib.hid (show splice Di.M (p.1.blk * 512 + p.1.at_) p.1.B = layA (fun _ => 512) 0 (D3.C.take (i + 1)) D3.M from by
          obtain ⟨Ci, hCi⟩ : ∃ Ci, Ci = hi.C := ⟨_, rfl⟩
          have hC3 : D3.C = Ci.map fun p => lyPd p.1 := by rw [hCi, ← hi.hC, hDi]
          have hlC : Ci.length = h2.C.length := by rw [hCi, hnl]
          rw [← hCi] at hp
          clear hCi
          have hl3 : i < D3.C.length := by rw [hC3, List.length_map, hlC]; exact hin2
          have hg3 : D3.C.getD i default = lyPd p.1 := by
            rw [hC3, hp, List.getD_eq_getElem?_getD, List.getD_eq_getElem?_getD, List.getElem?_map, List.getElem?_eq_getElem (by rw [hlC]; exact hin2)]; rfl
          have hDM : Di.M = layA (fun _ => 512) 0 (D3.C.take i) D3.M := by rw [hDi]
          rw [hDM, takeP_snoc D3.C i hl3, layA_snoc, hg3]
          exact (layP_full _ p.1 hco.2.1 hco.2.2).symm)
        obtain ⟨⟨blk, at_, BB⟩, sv⟩ := p
        have hsv : ∃ Ab cb, sv = .slice Ab BB.length cb := by
          rcases hco.1.row with ⟨h1, h2⟩ | ⟨k9, o9, c9, h1, _⟩
          · have h1' : sv = .slice none 0 0 := h1
            have h2' : BB = [] := h2
            rw [h1', h2']; exact ⟨none, 0, rfl⟩
          · exact ⟨_, c9, h1⟩
        obtain ⟨Ab, cb, rfl⟩ := hsv
        rw [hnl] at hvc HRQ0
        rw [← HNN.out] at hvc HRQ0
        rw [hvc] at c3
        have HRQ := Lib.hid (show ∀ (W : World), (∀ q ∈ hi.Qc, W.heap[q.1]? = some q.2) → W.cell? ⟨r, 3, none⟩ = some hi.vc → W.cell? ⟨r, 3, none⟩ = some (.slice (some ⟨kc, 0, none⟩) n cc) ∧ W.cell? ⟨kc, i * 3, none⟩ = some (.int .i64 (blk : Int)) ∧ W.cell? ⟨kc, i * 3 + 1, none⟩ = some (.int .i64 (at_ : Int)) ∧ W.cell? ⟨kc, i * 3 + 2, none⟩ = some (.slice Ab BB.length cb) from fun W hW h3 => by
          obtain ⟨kc2, cc2, hvc2, u0, u1, u2⟩ := HRQ0.out W hW
          rw [hvc] at hvc2
          injection hvc2 with e1 e2 e3
          injection e1 with e1
          injection e1 with e1
          subst e1
          exact ⟨by rw [h3, hvc], u0, u1, u2⟩)
        have HRC := Lib.hid (fun (W : World) (h9 : St w0 W b g vp Dp (hi.rows ++ T)) => HRQ.out W (fun q hq => h9.kp.all q (by simp [RfOk.rows, hq])) (hi.cells h9).2.2.2.1)
        have hRR := HRC.out _ (HSi.out.drewN 1)
        have hT : wr.drew.cell? ⟨r, 2, none⟩ = some hi.vl := (hi.cells (HSi.out.drewN 1)).2.2.1
        have hii : (0 : Int) ≤ (i : Int) ∧ (i : Int) < (n : Int) ∧ (n : Int) ≤ 100000000 := by have := HNN.out; omega
        have HIN := Lib.hid hin2
        dsimp only at g0 g1
        clear hSi hcc hQc hp hco hnl hiL hDi hiC
        clear hin2 hin
        go_wp2_with fail
        clear c2 c3 g0 g1 g2
        refine wp_region_z (fun w' : World => w'.cell? ⟨r, 3, none⟩ = some (.slice (some ⟨kc, 0, none⟩) n cc) ∧ w'.cell? ⟨kc, i * 3, none⟩ = some (.int .i64 (blk : Int)) ∧ w'.cell? ⟨kc, i * 3 + 1, none⟩ = some (.int .i64 (at_ : Int)) ∧ w'.cell? ⟨kc, i * 3 + 2, none⟩ = some (.slice Ab BB.length cb)) (fun w' => w'.cell? ⟨r, 2, none⟩ = some hi.vl) 13 (by kernel_rfl) ?_
        refine wpAnyZ.takeN (i := 0) (v := .pointer (some ⟨r, 0, none⟩)) rfl (by kernel_rfl) (by kernel_rfl) (by kernel_rfl) (by decide) (fun _ _ _ h => h) (by rfl) (fun w => ?zy) hRR (fun _ => hT) ?_
        case zy => go_simp
        (try simp only [Act.put, List.getElem_toArray, List.getElem_cons_zero, List.getElem_cons_succ, List.setIfInBounds_toArray, List.set_cons_zero, List.set_cons_succ])
        refine wpAnyZ.takeN (i := 1) (v := .pointer (some ⟨r, 0, none⟩)) rfl (by kernel_rfl) (by kernel_rfl) (by kernel_rfl) (by decide) (fun _ _ _ h => h) (by rfl) (fun w => ?zy) hRR (fun _ => hT) ?_
        case zy => go_simp
        (try simp only [Act.put, List.getElem_toArray, List.getElem_cons_zero, List.getElem_cons_succ, List.setIfInBounds_toArray, List.set_cons_zero, List.set_cons_succ])
        refine wpAnyZ.takeN (i := 2) (v := .pointer (some ⟨r, 0, none⟩)) rfl (by kernel_rfl) (by kernel_rfl) (by kernel_rfl) (by decide) (fun _ _ _ h => h) (by rfl) (fun w => ?zy) hRR (fun _ => hT) ?_
        case zy => go_simp
        (try simp only [Act.put, List.getElem_toArray, List.getElem_cons_zero, List.getElem_cons_succ, List.setIfInBounds_toArray, List.set_cons_zero, List.set_cons_succ])
        refine wpAnyZ.takeN (i := 3) (v := .pointer (some ⟨r, 2, none⟩)) rfl (by kernel_rfl) (by kernel_rfl) (by kernel_rfl) (by decide) (fun _ _ _ h => h) (by rfl) (fun w => ?zy) hRR (fun _ => hT) ?_
        case zy => go_simp
        (try simp only [Act.put, List.getElem_toArray, List.getElem_cons_zero, List.getElem_cons_succ, List.setIfInBounds_toArray, List.set_cons_zero, List.set_cons_succ])
        refine wpAnyZ.take (i := 4) (v := hi.vl) (U := fun w' => w'.cell? ⟨r, 2, none⟩ = some hi.vl) rfl (by kernel_rfl) (by kernel_rfl) (by kernel_rfl) (by decide) (fun _ _ _ h => h) (.inr ⟨fun _ h => h, by kernel_rfl⟩) (.inl (by kernel_rfl)) (.inl ⟨by rfl, fun w hw => ?zy⟩) hT hRR (fun _ => hT) ?_
        case zy => (dsimp only at hw; go_simp)
        (try simp only [Act.put, List.getElem_toArray, List.getElem_cons_zero, List.getElem_cons_succ, List.setIfInBounds_toArray, List.set_cons_zero, List.set_cons_succ])
        refine wpAnyZ.takeN (i := 5) (v := .pointer (some ⟨r, 0, none⟩)) rfl (by kernel_rfl) (by kernel_rfl) (by kernel_rfl) (by decide) (fun _ _ _ h => h) (by rfl) (fun w => ?zy) hRR (fun _ => hT) ?_
        case zy => go_simp
        (try simp only [Act.put, List.getElem_toArray, List.getElem_cons_zero, List.getElem_cons_succ, List.setIfInBounds_toArray, List.set_cons_zero, List.set_cons_succ])
        refine wpAnyZ.takeN (i := 6) (v := .pointer (some ⟨r, 0, none⟩)) rfl (by kernel_rfl) (by kernel_rfl) (by kernel_rfl) (by decide) (fun _ _ _ h => h) (by rfl) (fun w => ?zy) hRR (fun _ => hT) ?_
        case zy => go_simp
        (try simp only [Act.put, List.getElem_toArray, List.getElem_cons_zero, List.getElem_cons_succ, List.setIfInBounds_toArray, List.set_cons_zero, List.set_cons_succ])
        refine wpAnyZ.takeN (i := 7) (v := .pointer (some ⟨r, 3, none⟩)) rfl (by kernel_rfl) (by kernel_rfl) (by kernel_rfl) (by decide) (fun _ _ _ h => h) (by rfl) (fun w => ?zy) hRR (fun _ => hT) ?_
        case zy => go_simp
        (try simp only [Act.put, List.getElem_toArray, List.getElem_cons_zero, List.getElem_cons_succ, List.setIfInBounds_toArray, List.set_cons_zero, List.set_cons_succ])
        refine wpAnyZ.take (i := 8) (v := .slice (some ⟨kc, 0, none⟩) n cc) (U := (fun w' : World => w'.cell? ⟨r, 3, none⟩ = some (.slice (some ⟨kc, 0, none⟩) n cc) ∧ w'.cell? ⟨kc, i * 3, none⟩ = some (.int .i64 (blk : Int)) ∧ w'.cell? ⟨kc, i * 3 + 1, none⟩ = some (.int .i64 (at_ : Int)) ∧ w'.cell? ⟨kc, i * 3 + 2, none⟩ = some (.slice Ab BB.length cb))) rfl (by kernel_rfl) (by kernel_rfl) (by kernel_rfl) (by decide) (fun _ _ _ h => h) (.inl fun _ h => h) (.inr fun _ h => h) (.inl ⟨by rfl, fun w hw => ?zy⟩) hRR hRR (fun _ => hT) ?_
        case zy => (dsimp only at hw; obtain ⟨u0, u1, u2, u3⟩ := hw; go_simp)
        (try simp only [Act.put, List.getElem_toArray, List.getElem_cons_zero, List.getElem_cons_succ, List.setIfInBounds_toArray, List.set_cons_zero, List.set_cons_succ])
        refine wpAnyZ.takeN (i := 9) (v := .int .i64 (i : Int)) rfl (by kernel_rfl) (by kernel_rfl) (by kernel_rfl) (by decide) (fun _ _ _ h => h) (by rfl) (fun w => ?zy) hRR (fun _ => hT) ?_
        case zy => go_simp
        (try simp only [Act.put, List.getElem_toArray, List.getElem_cons_zero, List.getElem_cons_succ, List.setIfInBounds_toArray, List.set_cons_zero, List.set_cons_succ])
        refine wpAnyZ.takeN (i := 10) (v := .pointer (some ⟨kc, i * 3, none⟩)) rfl (by kernel_rfl) (by kernel_rfl) (by kernel_rfl) (by decide) (fun _ _ _ h => h) (by rfl) (fun w => ?zy) hRR (fun _ => hT) ?_
        case zy => go_simp
        (try simp only [Act.put, List.getElem_toArray, List.getElem_cons_zero, List.getElem_cons_succ, List.setIfInBounds_toArray, List.set_cons_zero, List.set_cons_succ])
        refine wpAnyZ.take (i := 11) (v := .agg #[.int .i64 (blk : Int), .int .i64 (at_ : Int), .slice Ab BB.length cb]) (U := (fun w' : World => w'.cell? ⟨r, 3, none⟩ = some (.slice (some ⟨kc, 0, none⟩) n cc) ∧ w'.cell? ⟨kc, i * 3, none⟩ = some (.int .i64 (blk : Int)) ∧ w'.cell? ⟨kc, i * 3 + 1, none⟩ = some (.int .i64 (at_ : Int)) ∧ w'.cell? ⟨kc, i * 3 + 2, none⟩ = some (.slice Ab BB.length cb))) rfl (by kernel_rfl) (by kernel_rfl) (by kernel_rfl) (by decide) (fun _ _ _ h => h) (.inl fun _ h => h) (.inr fun _ h => h) (.inl ⟨by rfl, fun w hw => ?zy⟩) hRR hRR (fun _ => hT) ?_
        case zy => (dsimp only at hw; obtain ⟨u0, u1, u2, u3⟩ := hw; go_simp)
        (try simp only [Act.put, List.getElem_toArray, List.getElem_cons_zero, List.getElem_cons_succ, List.setIfInBounds_toArray, List.set_cons_zero, List.set_cons_succ])
        refine wpAnyZ.oneK (i := 12) (E := False) (by kernel_rfl) rfl (by rfl) (fun K hK => ?_)
        go_simp
        have HS5 := Lib.hid ((HSi.out.drewN 1).alloc (.cells #[.int .i64 (blk : Int), .int .i64 (at_ : Int), .slice Ab BB.length cb] 102))
        have hT5 : (wr.drew.alloc (.cells #[.int .i64 (blk : Int), .int .i64 (at_ : Int), .slice Ab BB.length cb] 102)).cell? ⟨r, 2, none⟩ = some hi.vl := (hi.cells HS5.out).2.2.1
        have hR5 := HRC.out _ HS5.out
        refine hK.out _ _ ⟨⟨hR5, fun _ => hT5⟩, ?_⟩
        clear hK
        (try simp only [Act.put, List.getElem_toArray, List.getElem_cons_zero, List.getElem_cons_succ, List.setIfInBounds_toArray, List.set_cons_zero, List.set_cons_succ])
        have HS5b := Lib.hid (show St w0 (wr.drew.alloc (.cells #[.int .i64 (blk : Int), .int .i64 (at_ : Int), .slice Ab BB.length cb] 102)) b g vp Dp ([(r, rfO Di.n hi.base hi.vl hi.vc Di.armed hi.left Di.down Di.rd Di.wr Di.fl)] ++ (hi.Ql ++ (hi.Qc ++ (hi.K ++ T)))) from by
          have h9 := HS5.out
          unfold RfOk.rows at h9
          simp only [List.cons_append, List.append_assoc, List.nil_append] at h9 ⊢
          exact h9)
        refine wpAnyZ.oneK (i := 13) (E := False) (by kernel_rfl) rfl (by rfl) (fun K hK => ?_)
        refine step_appQ Try.underlying92 HILY.out.1 HILY.out.2.1 HILY.out.2.2.1 HILY.out.2.2.2 rfl (by omega) (P := [(r, rfO Di.n hi.base hi.vl hi.vc Di.armed hi.left Di.down Di.rd Di.wr Di.fl)]) (Q := hi.Ql) (T := hi.Qc ++ (hi.K ++ T)) HS5b.out hi.ql [.int .i64 (blk : Int), .int .i64 (at_ : Int), .slice Ab BB.length cb] rfl (by intro u hu; simp at hu; rcases hu with rfl | rfl | rfl <;> rfl) (by omega) (by simp only [maxLen]; omega) wr.heap.size (heap_alloc_new wr.drew _) _ _ rfl rfl rfl rfl ?_
        intro v1 w6 Q1 hq1 hS6
        obtain ⟨A1, c1, rfl⟩ := hq1.slice
        have hh6 : w6.heap[r]? = some (rfO Di.n hi.base hi.vl hi.vc Di.armed hi.left Di.down Di.rd Di.wr Di.fl) := hS6.mem (by simp)
        have hcell6 : w6.cell? ⟨r, 2, none⟩ = some hi.vl := cell_of_row w6 r 2 _ _ _ hh6
        have hfree6 := frozen_of_row w6 r 2 _ _ hh6
        have HPU := Lib.hid (hi.pushL ((⟨blk, at_, BB⟩ : Ly), Value.slice Ab BB.length cb) (hi.co _ HPM.out).1 hq1 hS6)
        have hR6 := HRQ.out w6 (fun q hq => hS6.kp.all q (by simp [hq])) (cell_of_row w6 r 3 _ _ _ hh6)
        have hS7 := hS6.upd 0 (k := r) rfl ((Only.refl [r] w6).setCell (by simp) (.slice A1 (hi.L.length + 1) c1)) (heap_setCell_same w6 r 2 _ _ (.slice A1 (hi.L.length + 1) c1) hh6)
        have hR7 := HRQ.out _ (fun q hq => hS7.kp.all q (by simp [hq])) (cell_of_row _ r 3 _ _ _ (heap_setCell_same w6 r 2 _ _ (.slice A1 (hi.L.length + 1) c1) hh6))
        refine hK.out _ _ ⟨⟨hR6, (fun h => (have h9 : (true : Bool) = false := h; by cases h9))⟩, ?_⟩
        clear hK hT hT5 hR5 hRR hq1 hS6 hh6 hS7
        (try simp only [Act.put, List.getElem_toArray, List.getElem_cons_zero, List.getElem_cons_succ, List.setIfInBounds_toArray, List.set_cons_zero, List.set_cons_succ])
        refine wpAnyZ.takeN (i := 14) (v := .pointer (some ⟨r, 0, none⟩)) rfl (by kernel_rfl) (by kernel_rfl) (by kernel_rfl) (by decide) (fun _ _ _ h => h) (by rfl) (fun w => ?zy) hR6 (fun h => (have h9 : (true : Bool) = false := h; by cases h9)) ?_
        case zy => go_simp
        (try simp only [Act.put, List.getElem_toArray, List.getElem_cons_zero, List.getElem_cons_succ, List.setIfInBounds_toArray, List.set_cons_zero, List.set_cons_succ])
        refine wpAnyZ.takeN (i := 15) (v := .pointer (some ⟨r, 2, none⟩)) rfl (by kernel_rfl) (by kernel_rfl) (by kernel_rfl) (by decide) (fun _ _ _ h => h) (by rfl) (fun w => ?zy) hR6 (fun h => (have h9 : (true : Bool) = false := h; by cases h9)) ?_
        case zy => go_simp
        (try simp only [Act.put, List.getElem_toArray, List.getElem_cons_zero, List.getElem_cons_succ, List.setIfInBounds_toArray, List.set_cons_zero, List.set_cons_succ])
        refine wpAnyZ.oneK (i := 16) (E := False) (by kernel_rfl) rfl (by rfl) (fun K hK => ?_)
        go_simp
        refine hK.out _ _ ⟨⟨hR7, (fun h => (have h9 : (true : Bool) = false := h; by cases h9))⟩, ?_⟩
        clear hK hcell6 hfree6 hR6 hR7
        refine wpAnyZ.done (by kernel_rfl) ?_ _

        go_wp2
        go_roundw
        case rel =>
          obtain ⟨hn9, hnL, hnC, hnS⟩ := HPU.out
          exact ⟨i + 1, _, hn9, by (have e9 := HST.out); rw [show (⟨⟨blk, at_, BB⟩, Value.slice Ab BB.length cb⟩ : Ly × Value).1 = ⟨blk, at_, BB⟩ from rfl]; simp only at e9 ⊢; rw [e9, HDi.out], by have := HIN.out; omega, by go_num, by rw [hnC, HIC.out], by rw [hnL, List.length_append, HIL.out]; simp; omega, hnS⟩
        case measure => have := HIN.out; simp [intOf]; omega
      · obtain rfl : i = h2.C.length := by omega
        obtain ⟨Ac, cc, hvc⟩ := hi.qc.slice
        rw [hnl] at hvc
        rw [hvc] at c3
        have f3 := hi.free hSi 3
        have HDR := Lib.hid (hi.dropC hSi)
        have HTK := Lib.hid (show ({ Di with C := [] } : DS) = { D3 with C := [], M := layA (fun _ => 512) 0 D3.C D3.M } by
          have hl3 : D3.C.length = h2.C.length := by rw [h2.hC, List.length_map]
          have hT3 : D3.C.take h2.C.length = D3.C := by rw [← hl3, List.take_length]
          rw [hT3] at hDi
          rw [hDi])
        rw [HTK.out] at HDR
        clear hSi hcc hQc hDi hiC hin2
        go_wp2
        go_ret
        obtain ⟨h9, hL9, hC9, hS9⟩ := HDR.out
        exact ⟨rfl, h9, by rw [hL9, HIL.out, HLC.out.1, HLC.out.2, hC9]; exact Nat.le_refl _, hS9⟩
end
end Go.Proofs.Ytggoaelbglhehaa
/- The reference's device: Pending, Of. -/
set_option linter.unusedVariables false
set_option linter.unusedSimpArgs false
set_option maxRecDepth 100000
namespace Go.Proofs.Ytggoaelbglhehaa
open Go.RowKit
section
variable {w0 w : World} {b g : Nat} {vp : Value} {Dp D : DS} {r : Nat} {T : List (Nat × Obj)}
end
def ofRf (n r k : Nat) (o : Obj) (c : Nat) (L : List UInt8) (h : 64 ≤ n ∧ n ≤ 4096) (hL : L.length = n * 512) (hr : RowB o (n * 512) c L) : RfOk r ⟨n, L, [], 0, false, false, 0, 0, 0⟩ :=
  ⟨[], [], .slice none 0 0, .slice none 0 0, .slice (some ⟨k, 0, none⟩) (n * 512) c, L, 0, [], [], [(k, o)], QV.nil _ _, QV.nil _ _, ⟨hL, .inr ⟨k, o, c, rfl, by simp, hr⟩⟩, by simp, by simp, rfl, rfl, (fun h => by cases h), h⟩
end Go.Proofs.Ytggoaelbglhehaa
/- The reference's device: Medium. -/
set_option linter.unusedVariables false
set_option linter.unusedSimpArgs false
set_option maxRecDepth 100000
namespace Go.Proofs.Ytggoaelbglhehaa
open Go.RowKit
section
variable {w0 w : World} {b g : Nat} {vp : Value} {Dp D : DS} {r : Nat} {T : List (Nat × Obj)}
set_option maxHeartbeats 2000000 in
theorem rf_Medium (h : RfOk r D) (hS : St w0 w b g vp Dp (h.rows ++ T)) (hLn : h.L.length ≤ 100000000000) :
    Calls Try.prog 35 #[.pointer (some ⟨r, 0, none⟩)] w fun e w' => ∃ j c o, e = .returned (.slice (some ⟨j, 0, none⟩) (D.n * 512) c) ∧ RowB o (D.n * 512) c D.M ∧ St w0 w' b g vp Dp ((j, o) :: (h.rows ++ T)) := by
  have hsm := h.sm
  obtain ⟨N, hN⟩ : ∃ N, N = D.n * 512 := ⟨_, rfl⟩
  have hNb : (0 : Int) ≤ (N : Int) ∧ (N : Int) ≤ 2097152 ∧ (N : Int) = (D.n : Int) * 512 ∧ 0 < N := by omega
  have hmk : ∀ W, (Instr.makeSlice 26 (.int .i64 (N : Int)) (.int .i64 (N : Int))).run Try.prog W = .ok (.slice (some ⟨W.heap.size, 0, none⟩) N N) (W.alloc (.cells (zc N) 5)) := mk_u8 N N (Nat.le_refl _) (by omega)
  have hB0 : Below w.heap.size w (w.alloc (.cells (zc N) 5)) := (Below.refl _ w).alloc (Nat.le_refl _) _
  have hO0 : Own (w.alloc (.cells (zc N) 5)) w.heap.size (.slice (some ⟨w.heap.size, 0, none⟩) N N) N (List.replicate N 0) := Own.row (Nat.le_refl _) (by simp) (by omega) (by rw [← zc_bv]; exact heap_alloc_new w _)
  obtain ⟨j0, c0, o0, he, hj0, ho0, hr0⟩ := hO0.row_of hNb.2.2.2
  injection he with e1 e2 e3
  injection e1 with e1
  injection e1 with e1
  subst e1
  subst e3
  have HT0 := Lib.hid (hS.new hB0 (Nat.le_refl _) ho0)
  have HR0 := Lib.hid hr0
  obtain ⟨q, hq⟩ : ∃ q, q = w.heap.size := ⟨_, rfl⟩
  rw [← hq] at HT0
  have HQ := Lib.hid hq
  have cN := (h.cells hS).1
  have HCL := Lib.hid (fun (W : World) (R9 : List (Nat × Obj)) (h9 : St w0 W b g vp Dp R9) (hs : (h.rows ++ T).Sublist R9) => h.cells (T := T) (h9.sub hs))
  obtain ⟨PL, hPL⟩ : ∃ PL : Nat → List UInt8, PL = fun i => plays ((h.L.take i).map Prod.fst) h.M0 := ⟨_, rfl⟩
  have HPL := Lib.hid (show D.M = PL h.L.length ∧ PL 0 = h.M0 from by rw [hPL]; refine ⟨?_, rfl⟩; show D.M = plays ((h.L.take h.L.length).map Prod.fst) h.M0; rw [List.take_length]; exact h.hM)
  have HPS := Lib.hid (show ∀ i, i < h.L.length → PL (i + 1) = splice (PL i) ((h.L.getD i default).1.blk * 512 + (h.L.getD i default).1.at_) (h.L.getD i default).1.B from fun i hi => by rw [hPL]; show plays ((h.L.take (i + 1)).map Prod.fst) h.M0 = splice (plays ((h.L.take i).map Prod.fst) h.M0) _ _; rw [map_take_snoc _ h.L i default hi, plays_snoc])
  clear hPL
  have HM0 := Lib.hid h.bs.1
  have HW0 := Lib.hid (show IntKind.i64.wrap ((D.n : Int) * 512) = (N : Int) by rw [IntWalk.i64_in _ (by omega)]; omega)
  have hww := HW0.out
  rw [← hN]
  have HN := Lib.hid hN
  have hNc : (0 : Int) ≤ (N : Int) ∧ (N : Int) ≤ 2097152 ∧ 0 < N := by omega
  clear hN hNb
  have c1 := (HCL.out _ _ HT0.out (List.sublist_cons_self _ _)).2.1
  clear hS hB0 hO0 ho0 hr0 hj0
  go_enter Try.func35, Try.ntmps35
  go_wp2_with fail
  rw [← hq]
  clear hmk hq c1 cN hww
  have HBX := Lib.hid h.bs.2
  go_loopw [4] (fun x wx => ∃ i : Nat, ∃ o', i ≤ N ∧ x = .int .i64 i ∧ (i = 0 ∨ h.base ≠ .slice none 0 0) ∧ RowB o' N N (h.M0.take i ++ (List.replicate N 0).drop i) ∧ St w0 wx b g vp Dp ((q, o') :: (h.rows ++ T))) (fun x _ => N - (intOf x).toNat)
  case atStart => exact ⟨0, o0, by omega, rfl, .inl rfl, HR0.out, by rw [HQ.out] at HT0 ⊢; exact HT0.out⟩
  case round =>
    obtain ⟨i, o', hi, rfl, hb0, hr, hT⟩ := hrel
    have HR := Lib.hid hr
    have HT := Lib.hid hT
    obtain ⟨-, c1, c2, -⟩ := HCL.out _ _ hT (List.sublist_cons_self _ _)
    have hM0l : h.M0.length = N := by rw [HM0.out, ← HN.out]
    rcases HBX.out with ⟨hbn, hMz⟩ | ⟨kb, ob, cb, hbn, hmb, hrb⟩
    · rw [hbn] at c1
      obtain rfl : i = 0 := by
        rcases hb0 with h1 | h1
        · exact h1
        · exact absurd hbn h1
      have HRm := Lib.hid (show RowB o' N N h.M0 from by rw [hMz, ← HN.out]; simpa using hr)
      have HTm := HT
      clear hr hT hbn hMz hb0 c2
      go_wp2_with fail
      go_loopw [5, 6] (fun x _ wx => ∃ i : Nat, ∃ o', i ≤ h.L.length ∧ x = .int .i64 i ∧ RowB o' N N (PL i) ∧ St w0 wx b g vp Dp ((q, o') :: (h.rows ++ T))) (fun x _ _ => h.L.length - (intOf x).toNat)
      case atStart => exact ⟨0, _, by omega, rfl, by rw [HPL.out.2]; exact HRm.out, HTm.out⟩
      case round =>
        obtain ⟨i, o', hi, rfl, hr, hT⟩ := hrel
        have HR1 := Lib.hid hr
        have HT1 := Lib.hid hT
        have c2 := (HCL.out _ _ hT (List.sublist_cons_self _ _)).2.2.1
        clear hr hT
        by_cases hin : i < h.L.length
        · obtain ⟨kl, c9, hv, g0, g1, g2⟩ := ly_cells HT1.out h.ql (by intro p hp; simp [RfOk.rows, hp]) i hin
          rw [hv] at c2
          obtain ⟨p, hp⟩ : ∃ p, p = h.L.getD i default := ⟨_, rfl⟩
          rw [← hp] at g0 g1 g2
          have HP := Lib.hid (h.lo p (by rw [hp]; exact getD_mem h.L i default hin))
          have HST := Lib.hid (show PL (i + 1) = splice (PL i) (p.1.blk * 512 + p.1.at_) p.1.B by rw [HPS.out i hin, ← hp])
          have HG := Lib.hid (fun (W : World) (R9 : List (Nat × Obj)) (h9 : St w0 W b g vp Dp R9) (hs : (h.rows ++ T).Sublist R9) => And.intro (HCL.out W R9 h9 hs).2.2.1 (ly_cells h9 h.ql (by intro p hp; exact hs.subset (by simp [RfOk.rows, hp])) i hin))
          rw [← hp] at HG
          have hii : (0 : Int) ≤ (i : Int) ∧ (i : Int) < (h.L.length : Int) ∧ (h.L.length : Int) ≤ 100000000000 := by omega
          obtain ⟨⟨blk, at_, BB⟩, sv⟩ := p
          have hpf : at_ + BB.length ≤ 512 := HP.out.fit
          have hpb : blk < D.n := HP.out.blk
          dsimp only at g0 g1 g2
          have hsv : ∃ Ab cb2, sv = .slice Ab BB.length cb2 := by
            rcases HP.out.row with ⟨h1, h2⟩ | ⟨k9, o9, c9, h1, _⟩
            · have h1' : sv = .slice none 0 0 := h1
              have h2' : BB = [] := h2
              rw [h1', h2']; exact ⟨none, 0, rfl⟩
            · exact ⟨_, c9, h1⟩
          obtain ⟨Ab, cb2, rfl⟩ := hsv
          obtain ⟨cc, hcc⟩ : ∃ cc, cc = PL i := ⟨_, rfl⟩
          rw [← hcc] at HR1
          have HST2 := Lib.hid (show PL (i + 1) = splice cc (blk * 512 + at_) BB by rw [HST.out, ← hcc])
          have HCC := Lib.hid HR1.out.len
          have hoff : blk * 512 + at_ + BB.length ≤ N := by have := blk_end hpb; have := HN.out; omega
          have HI := Lib.hid hin
          clear hp hcc hin hi
          go_wp2_with fail
          clear g0 g1 g2 c2
          go_loopw [6] (fun x wx => ∃ j : Nat, ∃ o', j ≤ BB.length ∧ x = .int .i64 j ∧ RowB o' N N (splice cc (blk * 512 + at_) (BB.take j)) ∧ St w0 wx b g vp Dp ((q, o') :: (h.rows ++ T))) (fun x _ => BB.length - (intOf x).toNat)
          case atStart => exact ⟨0, o', by omega, rfl, by rw [List.take_zero, splice_nil]; exact HR1.out, HT1.out⟩
          case round =>
            obtain ⟨j, o2, hj, rfl, hr2, hT2⟩ := hrel
            have HR2 := Lib.hid hr2
            have HT2 := Lib.hid hT2
            clear hr2 hT2
            obtain ⟨g5, kl2, c22, hv2, g0, g1, g2⟩ := HG.out wr _ HT2.out (List.sublist_cons_self _ _)
            rw [hv] at hv2 g5
            injection hv2 with e1 e2 e3
            injection e1 with e1
            injection e1 with e1
            subst e1 e3
            (try dsimp only at g0 g1 g2)
            by_cases hjn : j < BB.length
            · rcases HP.out.row with ⟨h1, h2⟩ | ⟨kx, ox, cx, h1, hm, hrx⟩
              · have h2' : BB = [] := h2
                rw [h2'] at hjn
                exact absurd hjn (Nat.not_lt_zero j)
              · have h1' : Value.slice Ab BB.length cb2 = .slice (some ⟨kx, 0, none⟩) BB.length cx := h1
                injection h1' with e1 e2 e3
                subst e1 e3
                have hrx2 : RowB ox BB.length cb2 BB := hrx
                have hmX : ∀ o : Obj, (kx, ox) ∈ (q, o) :: (h.rows ++ T) := fun o => by simp [RfOk.rows, hm]
                have g3 := hrx2.cell (HT2.out.mem (hmX _)) j hjn
                obtain ⟨y, hy⟩ : ∃ y, y = BB.getD j 0 := ⟨_, rfl⟩
                rw [← hy] at g3
                have hcell := HT2.out.cell 0 rfl HR2.out (blk * 512 + at_ + j) (by omega)
                have hfree := HR2.out.free (HT2.out.get 0 rfl) (blk * 512 + at_ + j)
                generalize (splice cc (blk * 512 + at_) (BB.take j)).getD (blk * 512 + at_ + j) 0 = y0 at hcell
                have hTd := HT2.out.drewN 1
                obtain ⟨o3, ho3, hr3⟩ := HR2.out.store (hTd.get 0 rfl) (blk * 512 + at_ + j) y
                rw [hy, splice_step cc BB (blk * 512 + at_) j 0 (by rw [HCC.out]; omega) hjn] at hr3
                have hTs := hTd.store 0 (blk * 512 + at_ + j) _ rfl ho3
                have HN3 := Lib.hid (And.intro hr3 hTs)
                obtain ⟨t5, kl3, c3, hv3, t0, t1, t2⟩ := HG.out _ _ hTs (List.sublist_cons_self _ _)
                rw [hv] at hv3 t5
                injection hv3 with e1 e2 e3
                injection e1 with e1
                injection e1 with e1
                subst e1 e3
                have t3 := hrx2.cell (hTs.mem (hmX _)) j hjn
                rw [← hy] at t3
                have hw1 : IntKind.i64.wrap ((blk : Int) * 512) = (blk : Int) * 512 := IntWalk.i64_in _ (by omega)
                have hw2 : IntKind.i64.wrap ((blk : Int) * 512 + (at_ : Int)) = (blk : Int) * 512 + (at_ : Int) := IntWalk.i64_in _ (by omega)
                have hw3 : IntKind.i64.wrap ((blk : Int) * 512 + (at_ : Int) + (j : Int)) = (blk : Int) * 512 + (at_ : Int) + (j : Int) := IntWalk.i64_in _ (by omega)
                have hw4 : (0 : Int) ≤ (blk : Int) * 512 + (at_ : Int) + (j : Int) ∧ (blk : Int) * 512 + (at_ : Int) + (j : Int) < (N : Int) ∧ (0 : Int) ≤ (j : Int) ∧ (j : Int) < (BB.length : Int) := by omega
                have hw5 : ((blk : Int) * 512 + (at_ : Int) + (j : Int)).toNat = blk * 512 + at_ + j := by omega
                have HJ := Lib.hid hjn
                (try dsimp only at t0 t1 t2)
                clear ho3 hr3 hTs hTd hy hrx hrx2 h1 hm hmX hjn hj
                go_wp2_with fail
                go_region_held3 (fun w' => w'.cell? ⟨r, 2, none⟩ = some (.slice (some ⟨kl, 0, none⟩) h.L.length c9) ∧ w'.cell? ⟨kl, i * 3, none⟩ = some (.int .i64 (blk : Int)) ∧ w'.cell? ⟨kl, i * 3 + 1, none⟩ = some (.int .i64 (at_ : Int)) ∧ w'.cell? ⟨kl, i * 3 + 2, none⟩ = some (.slice (some ⟨kx, 0, none⟩) BB.length cb2) ∧ w'.cell? ⟨kx, j, none⟩ = some (.int .u8 (y.toNat : Int)))
                  (first | exact ⟨t5, t0, t1, t2, t3⟩ | exact ⟨g5, g0, g1, g2, g3⟩) (fail)
                rename_i hHeld
                clear hHeld g0 g1 g2 g3 g5 t0 t1 t2 t3 t5 hw1 hw2 hw3 hw5
                go_wp2
                go_roundw
                case rel => exact ⟨j + 1, o3, HJ.out, by go_num, HN3.out.1, HN3.out.2⟩
                case measure => have := HJ.out; simp [intOf]; omega
            · obtain rfl : j = BB.length := by omega
              rw [List.take_length] at HR2
              clear hjn hj
              go_wp2
              go_roundw
              case rel => first | exact ⟨i + 1, o2, HI.out, by go_num, by rw [HST2.out]; exact HR2.out, HT2.out⟩ | exact ⟨i + 1, HI.out, by go_num, o2, by rw [HST2.out]; exact HR2.out, HT2.out⟩
              case measure => have := HI.out; simp [intOf]; omega
        · obtain rfl : i = h.L.length := by omega
          rw [← HPL.out.1] at HR1
          obtain ⟨Al, cl, hvl⟩ := h.ql.slice
          rw [hvl] at c2
          go_wp2
          go_ret
          exact ⟨q, N, o', rfl, HR1.out, HT1.out⟩
    · rw [hbn, ← HN.out] at c1
      rw [← HN.out] at hrb
      by_cases hin : i < N
      · have g1 := hT.kp.all (kb, ob) (by simp [RfOk.rows, hmb])
        have g2 := hrb.cell g1 i hin
        obtain ⟨y, hy⟩ : ∃ y, y = h.M0.getD i 0 := ⟨_, rfl⟩
        rw [← hy] at g2
        have hcell := hT.cell 0 rfl hr i hin
        have hfree := hr.free (hT.get 0 rfl) i
        generalize (h.M0.take i ++ (List.replicate N 0).drop i).getD i 0 = y0 at hcell
        obtain ⟨o2, ho2, hr2⟩ := hr.store (hT.get 0 rfl) i y
        rw [hy, lay_stepR _ _ i (by rw [hM0l]; exact hin) (by simp; omega)] at hr2
        have HN2 := Lib.hid (And.intro hr2 (hT.store 0 i _ rfl ho2))
        have HB := Lib.hid (show h.base ≠ .slice none 0 0 from fun e => by rw [hbn] at e; injection e with e; cases e)
        have hii : (0 : Int) ≤ (i : Int) ∧ (i : Int) < (N : Int) := by omega
        have HI := Lib.hid hin
        clear hr hT g1 ho2 hr2 hy c2 hb0 hin hi
        go_wp2
        go_roundw
        case rel => exact ⟨i + 1, o2, HI.out, by go_num, .inr HB.out, HN2.out.1, HN2.out.2⟩
        case measure => have := HI.out; simp [intOf]; omega
      · obtain rfl : N = i := by omega
        have HRm := Lib.hid (show RowB o' N N h.M0 from by
          have h9 := hr
          rwa [List.take_of_length_le (by rw [hM0l]; exact Nat.le_refl _), List.drop_eq_nil_of_le (by simp), List.append_nil] at h9)
        have HTm := HT
        clear hr hT hbn hmb hrb hb0 c2 hin hi
        go_wp2_with fail
        go_loopw [5, 6] (fun x _ wx => ∃ i : Nat, ∃ o', i ≤ h.L.length ∧ x = .int .i64 i ∧ RowB o' N N (PL i) ∧ St w0 wx b g vp Dp ((q, o') :: (h.rows ++ T))) (fun x _ _ => h.L.length - (intOf x).toNat)
        case atStart => exact ⟨0, _, by omega, rfl, by rw [HPL.out.2]; exact HRm.out, HTm.out⟩
        case round =>
          obtain ⟨i, o', hi, rfl, hr, hT⟩ := hrel
          have HR1 := Lib.hid hr
          have HT1 := Lib.hid hT
          have c2 := (HCL.out _ _ hT (List.sublist_cons_self _ _)).2.2.1
          clear hr hT
          by_cases hin : i < h.L.length
          · obtain ⟨kl, c9, hv, g0, g1, g2⟩ := ly_cells HT1.out h.ql (by intro p hp; simp [RfOk.rows, hp]) i hin
            rw [hv] at c2
            obtain ⟨p, hp⟩ : ∃ p, p = h.L.getD i default := ⟨_, rfl⟩
            rw [← hp] at g0 g1 g2
            have HP := Lib.hid (h.lo p (by rw [hp]; exact getD_mem h.L i default hin))
            have HST := Lib.hid (show PL (i + 1) = splice (PL i) (p.1.blk * 512 + p.1.at_) p.1.B by rw [HPS.out i hin, ← hp])
            have HG := Lib.hid (fun (W : World) (R9 : List (Nat × Obj)) (h9 : St w0 W b g vp Dp R9) (hs : (h.rows ++ T).Sublist R9) => And.intro (HCL.out W R9 h9 hs).2.2.1 (ly_cells h9 h.ql (by intro p hp; exact hs.subset (by simp [RfOk.rows, hp])) i hin))
            rw [← hp] at HG
            have hii : (0 : Int) ≤ (i : Int) ∧ (i : Int) < (h.L.length : Int) ∧ (h.L.length : Int) ≤ 100000000000 := by omega
            obtain ⟨⟨blk, at_, BB⟩, sv⟩ := p
            have hpf : at_ + BB.length ≤ 512 := HP.out.fit
            have hpb : blk < D.n := HP.out.blk
            dsimp only at g0 g1 g2
            have hsv : ∃ Ab cb2, sv = .slice Ab BB.length cb2 := by
              rcases HP.out.row with ⟨h1, h2⟩ | ⟨k9, o9, c9, h1, _⟩
              · have h1' : sv = .slice none 0 0 := h1
                have h2' : BB = [] := h2
                rw [h1', h2']; exact ⟨none, 0, rfl⟩
              · exact ⟨_, c9, h1⟩
            obtain ⟨Ab, cb2, rfl⟩ := hsv
            obtain ⟨cc, hcc⟩ : ∃ cc, cc = PL i := ⟨_, rfl⟩
            rw [← hcc] at HR1
            have HST2 := Lib.hid (show PL (i + 1) = splice cc (blk * 512 + at_) BB by rw [HST.out, ← hcc])
            have HCC := Lib.hid HR1.out.len
            have hoff : blk * 512 + at_ + BB.length ≤ N := by have := blk_end hpb; have := HN.out; omega
            have HI := Lib.hid hin
            clear hp hcc hin hi
            go_wp2_with fail
            clear g0 g1 g2 c2
            go_loopw [6] (fun x wx => ∃ j : Nat, ∃ o', j ≤ BB.length ∧ x = .int .i64 j ∧ RowB o' N N (splice cc (blk * 512 + at_) (BB.take j)) ∧ St w0 wx b g vp Dp ((q, o') :: (h.rows ++ T))) (fun x _ => BB.length - (intOf x).toNat)
            case atStart => exact ⟨0, o', by omega, rfl, by rw [List.take_zero, splice_nil]; exact HR1.out, HT1.out⟩
            case round =>
              obtain ⟨j, o2, hj, rfl, hr2, hT2⟩ := hrel
              have HR2 := Lib.hid hr2
              have HT2 := Lib.hid hT2
              clear hr2 hT2
              obtain ⟨g5, kl2, c22, hv2, g0, g1, g2⟩ := HG.out wr _ HT2.out (List.sublist_cons_self _ _)
              rw [hv] at hv2 g5
              injection hv2 with e1 e2 e3
              injection e1 with e1
              injection e1 with e1
              subst e1 e3
              (try dsimp only at g0 g1 g2)
              by_cases hjn : j < BB.length
              · rcases HP.out.row with ⟨h1, h2⟩ | ⟨kx, ox, cx, h1, hm, hrx⟩
                · have h2' : BB = [] := h2
                  rw [h2'] at hjn
                  exact absurd hjn (Nat.not_lt_zero j)
                · have h1' : Value.slice Ab BB.length cb2 = .slice (some ⟨kx, 0, none⟩) BB.length cx := h1
                  injection h1' with e1 e2 e3
                  subst e1 e3
                  have hrx2 : RowB ox BB.length cb2 BB := hrx
                  have hmX : ∀ o : Obj, (kx, ox) ∈ (q, o) :: (h.rows ++ T) := fun o => by simp [RfOk.rows, hm]
                  have g3 := hrx2.cell (HT2.out.mem (hmX _)) j hjn
                  obtain ⟨y, hy⟩ : ∃ y, y = BB.getD j 0 := ⟨_, rfl⟩
                  rw [← hy] at g3
                  have hcell := HT2.out.cell 0 rfl HR2.out (blk * 512 + at_ + j) (by omega)
                  have hfree := HR2.out.free (HT2.out.get 0 rfl) (blk * 512 + at_ + j)
                  generalize (splice cc (blk * 512 + at_) (BB.take j)).getD (blk * 512 + at_ + j) 0 = y0 at hcell
                  have hTd := HT2.out.drewN 1
                  obtain ⟨o3, ho3, hr3⟩ := HR2.out.store (hTd.get 0 rfl) (blk * 512 + at_ + j) y
                  rw [hy, splice_step cc BB (blk * 512 + at_) j 0 (by rw [HCC.out]; omega) hjn] at hr3
                  have hTs := hTd.store 0 (blk * 512 + at_ + j) _ rfl ho3
                  have HN3 := Lib.hid (And.intro hr3 hTs)
                  obtain ⟨t5, kl3, c3, hv3, t0, t1, t2⟩ := HG.out _ _ hTs (List.sublist_cons_self _ _)
                  rw [hv] at hv3 t5
                  injection hv3 with e1 e2 e3
                  injection e1 with e1
                  injection e1 with e1
                  subst e1 e3
                  have t3 := hrx2.cell (hTs.mem (hmX _)) j hjn
                  rw [← hy] at t3
                  have hw1 : IntKind.i64.wrap ((blk : Int) * 512) = (blk : Int) * 512 := IntWalk.i64_in _ (by omega)
                  have hw2 : IntKind.i64.wrap ((blk : Int) * 512 + (at_ : Int)) = (blk : Int) * 512 + (at_ : Int) := IntWalk.i64_in _ (by omega)
                  have hw3 : IntKind.i64.wrap ((blk : Int) * 512 + (at_ : Int) + (j : Int)) = (blk : Int) * 512 + (at_ : Int) + (j : Int) := IntWalk.i64_in _ (by omega)
                  have hw4 : (0 : Int) ≤ (blk : Int) * 512 + (at_ : Int) + (j : Int) ∧ (blk : Int) * 512 + (at_ : Int) + (j : Int) < (N : Int) ∧ (0 : Int) ≤ (j : Int) ∧ (j : Int) < (BB.length : Int) := by omega
                  have hw5 : ((blk : Int) * 512 + (at_ : Int) + (j : Int)).toNat = blk * 512 + at_ + j := by omega
                  have HJ := Lib.hid hjn
                  (try dsimp only at t0 t1 t2)
                  clear ho3 hr3 hTs hTd hy hrx hrx2 h1 hm hmX hjn hj
                  go_wp2_with fail
                  go_region_held3 (fun w' => w'.cell? ⟨r, 2, none⟩ = some (.slice (some ⟨kl, 0, none⟩) h.L.length c9) ∧ w'.cell? ⟨kl, i * 3, none⟩ = some (.int .i64 (blk : Int)) ∧ w'.cell? ⟨kl, i * 3 + 1, none⟩ = some (.int .i64 (at_ : Int)) ∧ w'.cell? ⟨kl, i * 3 + 2, none⟩ = some (.slice (some ⟨kx, 0, none⟩) BB.length cb2) ∧ w'.cell? ⟨kx, j, none⟩ = some (.int .u8 (y.toNat : Int)))
                    (first | exact ⟨t5, t0, t1, t2, t3⟩ | exact ⟨g5, g0, g1, g2, g3⟩) (fail)
                  rename_i hHeld
                  clear hHeld g0 g1 g2 g3 g5 t0 t1 t2 t3 t5 hw1 hw2 hw3 hw5
                  go_wp2
                  go_roundw
                  case rel => exact ⟨j + 1, o3, HJ.out, by go_num, HN3.out.1, HN3.out.2⟩
                  case measure => have := HJ.out; simp [intOf]; omega
              · obtain rfl : j = BB.length := by omega
                rw [List.take_length] at HR2
                clear hjn hj
                go_wp2
                go_roundw
                case rel => first | exact ⟨i + 1, o2, HI.out, by go_num, by rw [HST2.out]; exact HR2.out, HT2.out⟩ | exact ⟨i + 1, HI.out, by go_num, o2, by rw [HST2.out]; exact HR2.out, HT2.out⟩
                case measure => have := HI.out; simp [intOf]; omega
          · obtain rfl : i = h.L.length := by omega
            rw [← HPL.out.1] at HR1
            obtain ⟨Al, cl, hvl⟩ := h.ql.slice
            rw [hvl] at c2
            go_wp2
            go_ret
            exact ⟨q, N, o', rfl, HR1.out, HT1.out⟩
end
end Go.Proofs.Ytggoaelbglhehaa
/- The reference's device: Of. -/
set_option linter.unusedVariables false
set_option linter.unusedSimpArgs false
set_option maxRecDepth 100000
namespace Go.Proofs.Ytggoaelbglhehaa
open Go.RowKit
end Go.Proofs.Ytggoaelbglhehaa
/- The reference's device: Crash, its plain part. -/
set_option linter.unusedVariables false
set_option linter.unusedSimpArgs false
set_option maxRecDepth 100000
namespace Go.Proofs.Ytggoaelbglhehaa
open Go.RowKit
theorem layA_append (f : Nat → Nat) : ∀ (i : Nat) (l m : List Pd) (M : List UInt8), layA f i (l ++ m) M = layA f (i + l.length) m (layA f i l M)
  | i, [], m, M => rfl
  | i, x :: r, m, M => by
    rw [List.cons_append, layA, layA_append f (i + 1) r m, layA, List.length_cons, show i + 1 + r.length = i + (r.length + 1) by omega]
theorem layA_zero {N : Nat} (f : Nat → Nat) : ∀ (i : Nat) (l : List Pd) (M : List UInt8), (∀ j, i ≤ j → f j = 0) → PdOk N l → M.length = N * 512 → layA f i l M = M
  | i, [], M, _, _, _ => rfl
  | i, x :: r, M, hf, hc, hM => by
    have hx := hc x (by simp)
    have h0 : layP M x (f i) = M := by
      rw [hf i (Nat.le_refl _)]
      exact layP_none M x (by have := blk_end hx.1; omega)
    rw [layA, h0]
    exact layA_zero f (i + 1) r M (fun j hj => hf j (by omega)) (fun y hy => hc y (by simp [hy])) hM
theorem crN_beyond (F : List Ft) (j : Nat) (h : F.length ≤ j) : crN F j = 0 := by unfold crN; rw [if_neg (by omega)]
/-- the loop ends where the cache or the fates end: the rest is dropped -/
theorem cr_end {N : Nat} (F : List Ft) (C : List Pd) (M : List UInt8) (i : Nat) (hi : i = C.length ∨ F.length ≤ i) (hiC : i ≤ C.length) (hc : PdOk N C) (hM : M.length = N * 512) : layA (crN F) 0 (C.take i) M = layA (crN F) 0 C M := by
  rcases hi with rfl | h
  · rw [List.take_length]
  · have h1 : C = C.take i ++ C.drop i := (List.take_append_drop i C).symm
    have hl : (C.take i).length = i := by rw [List.length_take]; omega
    have h2 : layA (crN F) 0 C M = layA (crN F) (0 + (C.take i).length) (C.drop i) (layA (crN F) 0 (C.take i) M) := by
      rw [← layA_append, List.take_append_drop]
    rw [h2, hl, Nat.zero_add]
    exact (layA_zero (N := N) (crN F) i _ _ (fun j hj => crN_beyond F j (by omega)) (fun x hx => hc x (List.mem_of_mem_drop hx)) (layA_len 0 _ _ (fun x hx => hc x (List.mem_of_mem_take hx)) hM)).symm
theorem crT_end (F : List Ft) (n : Nat) : ∀ d, F.length ≤ n → crT F (n + d) = crT F n
  | 0, _ => rfl
  | d + 1, h => by
    have ih := crT_end F n d h
    have h0 : crS F (n + d) = false := by unfold crS; rw [if_neg (by omega)]
    rw [← Nat.add_assoc, crT, ih, h0]; rfl
theorem crT_min (F : List Ft) (m i : Nat) (hi : i = m ∨ F.length ≤ i) (him : i ≤ m) : crT F m = crT F i := by
  rcases hi with rfl | h
  · rfl
  · have := crT_end F i (m - i) h
    rwa [show i + (m - i) = m by omega] at this
end Go.Proofs.Ytggoaelbglhehaa
