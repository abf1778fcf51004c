/- A block that is read: entry. -/
import Derived.Test.YtlandlgjhnnaiaaPg16
import Derived.Test.YtlandlgjhnnaiaaOrdZ
set_option linter.unusedVariables false
set_option linter.unusedSimpArgs false
set_option maxRecDepth 100000
namespace Go.Proofs.Ytlandlgjhnnaiaa
open Go.RowKit SumMath
theorem results_cr2 {P : Program} {fn : Func} {p u : Tmp} {ty : TypeId} (h : fn.results = #[.cell p ty, .tmp u]) (tmps : Array Value) (w : World) (g : Nat) (t : TypeId) (cs : Array Value) (fr : Nat × Nat) (d : TypeDesc)
    (hp : tmps.getD p undef = .pointer (some ⟨g, 0, none⟩)) (hg : w.heap[g]? = some (.cells cs t fr))
    (hu : P.underlying ty = some d) (hd : (match d with | .struct _ | .array _ _ => true | _ => false) = true) (hi : (P.info? ty).map (·.size) = some cs.size) :
    (results fn tmps).run P w = .ok (.tuple #[.agg cs, tmps.getD u undef]) w := by
  have hp' : tmps[p]?.getD undef = .pointer (some ⟨g, 0, none⟩) := by simpa using hp
  simp [results, h, hp', asAddr, run_loadVar_row w g t ty cs fr d hg hu hd hi]
theorem sz_en : (Try.prog.info? 46).map (·.size) = some 2 := by kernel_rfl
theorem num_lt (L : List UInt8) (a k : Nat) : (num L a k).1 < 256 ^ k := by
  unfold num
  exact Nat.lt_of_lt_of_le (leN_lt _) (Nat.pow_le_pow_right (by decide) (nxt_len L a k))
theorem num_at (L : List UInt8) (a k : Nat) (ha : a ≤ 513) : (num L a k).2 ≤ 513 := nxt_at L a k ha
theorem num1_lt (L : List UInt8) (a : Nat) : (num L a 1).1 < 256 := by have := num_lt L a 1; rwa [Nat.pow_one] at this
theorem pEnt_def (M : List UInt8) (a : Nat) (k v : Nat × Nat) (s : List UInt8 × Nat) (hk : k = num M a 1) (hv : v = num M k.2 1) (hs : s = nxt M v.2 k.1) :
    pEnt M a = if v.1 = 255 then ((⟨strS s.1, noS⟩ : En), (((num M s.2 4).1 : Nat) : Int), (num M s.2 4).2) else ((⟨strS s.1, strS (nxt M s.2 v.1).1⟩ : En), (0 : Int), (nxt M s.2 v.1).2) := by
  subst hk
  subst hv
  subst hs
  unfold pEnt
  rfl
def enC (x : En) : Array Value := #[.string x.key, .string x.val]
theorem row2 {W : World} {q : Nat} {x y : En} {t : TypeId} (h : W.heap[q]? = some (.cells (enC x) t (0, 0))) : ((W.setCell ⟨q, 0, none⟩ (.string y.key)).setCell ⟨q, 1, none⟩ (.string y.val)).heap[q]? = some (.cells (enC y) t (0, 0)) := by
  rw [heap_setCell_same _ q 1 _ _ _ (heap_setCell_same W q 0 _ _ _ h)]
  simp only [enC, List.setIfInBounds_toArray, List.set_cons_zero, List.set_cons_succ]
set_option maxHeartbeats 2000000 in
theorem pg_entry (g a : Nat) (M : List UInt8) (w : World) (h : BkAt w g M a) (ha : a ≤ 513) :
    Calls Try.prog 49 #[.pointer (some ⟨g, 0, none⟩)] w fun e w' => e = .returned (.tuple #[.agg (enC (pEnt M a).1), .int .i64 (pEnt M a).2.1]) ∧ BkAt w' g M (pEnt M a).2.2 ∧ Only [g] w w' := by
  obtain ⟨k, hk⟩ : ∃ k, k = num M a 1 := ⟨_, rfl⟩
  obtain ⟨v, hv⟩ : ∃ v, v = num M k.2 1 := ⟨_, rfl⟩
  obtain ⟨s, hs⟩ : ∃ s, s = nxt M v.2 k.1 := ⟨_, rfl⟩
  have HPE := Lib.hid (pEnt_def M a k v s hk hv hs)
  have k1 : k.1 < 256 := by rw [hk]; exact num1_lt M a
  have k2 : k.2 ≤ 513 := by rw [hk]; exact num_at M a 1 ha
  have v1 : v.1 < 256 := by rw [hv]; exact num1_lt M k.2
  have v2 : v.2 ≤ 513 := by rw [hv]; exact num_at M k.2 1 k2
  have s2 : s.2 ≤ 513 := by rw [hs]; exact nxt_at M v.2 k.1 v2
  have HK := Lib.hid hk
  have HV := Lib.hid hv
  have HS := Lib.hid hs
  clear hk hv hs
  obtain ⟨r, hr⟩ : ∃ r, r = w.heap.size := ⟨_, rfl⟩
  obtain ⟨W, hW⟩ : ∃ W, W = w.alloc (.cells #[.string ⟨#[]⟩, .string ⟨#[]⟩] 46) := ⟨_, rfl⟩
  have HRG := Lib.hid (show r ≠ g by have := h.lt; omega)
  have HRW := Lib.hid (show W.heap[r]? = some (.cells (enC ⟨noS, noS⟩) 46 (0, 0)) by rw [hW, hr]; exact heap_alloc_new w _)
  have HO0 := Lib.hid (show Only [g] w W by rw [hW]; exact (Only.refl _ _).alloc _)
  have H0 := Lib.hid (show BkAt W g M a by rw [hW]; exact h.ext ((Below.refl _ _).alloc (Nat.le_refl _) _))
  have HRN := Lib.hid (show w.heap.size ≤ r by omega)
  have HC1 := Lib.hid (pg_number g a 1 M W H0.out ha (by decide))
  rw [← HK.out] at HC1
  go_enter Try.func49, Try.ntmps49
  go_wp2_with fail
  rw [← hW, ← hr]
  clear hW hr h
  refine HC1.out.mono ?_
  rintro e w1 ⟨rfl, hB, hO⟩
  have HC2 := Lib.hid (pg_number g k.2 1 M w1 hB k2 (by decide))
  rw [← HV.out] at HC2
  have HO1 := Lib.hid hO
  clear hB hO HC1
  go_wp2_with fail
  refine HC2.out.mono ?_
  rintro e w2 ⟨rfl, hB, hO⟩
  have HC3 := Lib.hid (pg_next g v.2 k.1 M w2 hB v2 (by omega))
  rw [← HS.out] at HC3
  have HO2 := Lib.hid (HO1.out.trans hO)
  clear hB hO HC2
  go_wp2_with fail
  refine HC3.out.mono ?_
  rintro e w3 ⟨rfl, hB, hO⟩
  have HB3 := Lib.hid hB
  have HO3 := Lib.hid (HO2.out.trans hO)
  clear hB hO HC3
  obtain ⟨key, hkey⟩ : ∃ key, key = strS s.1 := ⟨_, rfl⟩
  rw [← hkey] at HPE
  rw [← hkey]
  clear hkey
  obtain ⟨q, hq⟩ : ∃ q, q = w3.heap.size := ⟨_, rfl⟩
  obtain ⟨W4, hW4⟩ : ∃ W4, W4 = w3.alloc (.cells #[.string key, .string ⟨#[]⟩] 46) := ⟨_, rfl⟩
  have HQG := Lib.hid (show q ≠ g by have := HB3.out.lt; omega)
  have HRL := Lib.hid (show r < w3.heap.size by have := lt_of_block HRW.out; have := HO3.out.size; omega)
  have HQR := Lib.hid (show q ≠ r by have := HRL.out; omega)
  have HQ3 := Lib.hid (show w3.heap.size = q from hq.symm)
  have HQW := Lib.hid (show W4.heap[q]? = some (.cells (enC ⟨key, noS⟩) 46 (0, 0)) by rw [hW4, hq]; exact heap_alloc_new w3 _)
  have HO4 := Lib.hid (show Only [g] W W4 by rw [hW4]; exact HO3.out.alloc _)
  have HB4 := Lib.hid (show BkAt W4 g M s.2 by rw [hW4]; exact HB3.out.ext ((Below.refl _ _).alloc (Nat.le_refl _) _))
  have HR4 := Lib.hid (show W4.heap[r]? = some (.cells (enC ⟨noS, noS⟩) 46 (0, 0)) from (HO4.out.blk r (lt_of_block HRW.out) (by simp; exact HRG.out)).trans HRW.out)
  -- what stands behind a call that changes g alone
  have HF := Lib.hid (show ∀ V : World, Only [g] W4 V → V.heap[q]? = some (.cells (enC ⟨key, noS⟩) 46 (0, 0)) ∧ V.heap[r]? = some (.cells (enC ⟨noS, noS⟩) 46 (0, 0)) from fun V ho =>
    ⟨(ho.blk q (lt_of_block HQW.out) (by simp; exact HQG.out)).trans HQW.out, (ho.blk r (lt_of_block HR4.out) (by simp; exact HRG.out)).trans HR4.out⟩)
  by_cases hv : v.1 = 255
  · have hv9 : ((v.1 : Int) == 255) = true := by simp; omega
    have HP2 := Lib.hid (show pEnt M a = ((⟨key, noS⟩ : En), (((num M s.2 4).1 : Nat) : Int), (num M s.2 4).2) by rw [HPE.out, if_pos hv])
    obtain ⟨nm, hnm⟩ : ∃ nm, nm = num M s.2 4 := ⟨_, rfl⟩
    have HC5 := Lib.hid (pg_number g s.2 4 M W4.drew ⟨HB4.out.row, HB4.out.len⟩ s2 (by decide))
    rw [← hnm] at HC5 HP2
    clear hv hnm
    have hc0 : W4.cell? ⟨q, 0, none⟩ = some (.string key) := cell_of_row _ q 0 _ _ _ HQW.out
    have hc1 : W4.cell? ⟨q, 1, none⟩ = some (.string noS) := cell_of_row _ q 1 _ _ _ HQW.out
    have hf0 : W4.frozen? ⟨r, 0, none⟩ = false := frozen_of_row _ r 0 _ _ HR4.out
    have hf1 : W4.frozen? ⟨r, 1, none⟩ = false := frozen_of_row _ r 1 _ _ HR4.out
    go_upto_region 4 with fail
    rw [← hW4, ← hq]
    clear hW4 hq
    have hT : W4.drew.cell? ⟨q, 0, none⟩ = some (.string key) ∧ W4.drew.cell? ⟨q, 1, none⟩ = some (.string noS) := ⟨hc0, hc1⟩
    clear hc0 hc1 hf0 hf1
    refine wp_region_z (fun w' => True) (fun w' => w'.cell? ⟨q, 0, none⟩ = some (.string key) ∧ w'.cell? ⟨q, 1, none⟩ = some (.string noS)) 3 (by kernel_rfl) ?_
    refine wpAnyZ.take (i := 0) (v := .agg #[.string key, .string noS]) (U := fun w' => w'.cell? ⟨q, 0, none⟩ = some (.string key) ∧ w'.cell? ⟨q, 1, none⟩ = some (.string noS)) rfl (by kernel_rfl) (by kernel_rfl) (by kernel_rfl) (by decide) (fun _ _ _ h => h) (.inr ⟨fun _ h => h, by kernel_rfl⟩) (.inl (by kernel_rfl)) (.inl ⟨by rfl, fun w hw => ?zy⟩) hT trivial (fun _ => hT) ?_
    case zy => (obtain ⟨hw0, hw1⟩ := hw; go_simp)
    (try simp only [Act.put, List.getElem_toArray, List.getElem_cons_zero, List.getElem_cons_succ, List.setIfInBounds_toArray, List.set_cons_zero, List.set_cons_succ])
    refine wpAnyZ.takeN (i := 1) (v := .pointer (some ⟨g, 0, none⟩)) rfl (by kernel_rfl) (by kernel_rfl) (by kernel_rfl) (by decide) (fun _ _ _ h => h) (by rfl) (fun w => ?zy) trivial (fun _ => hT) ?_
    case zy => (go_simp)
    (try simp only [Act.put, List.getElem_toArray, List.getElem_cons_zero, List.getElem_cons_succ, List.setIfInBounds_toArray, List.set_cons_zero, List.set_cons_succ])
    refine wpAnyZ.oneK (i := 2) (E := False) (by kernel_rfl) rfl (by rfl) (fun K hK => ?_)
    go_simp
    refine HC5.out.mono ?_
    rintro e w5 ⟨rfl, hB5, hO5⟩
    have HB5 := Lib.hid hB5
    have HO5 := Lib.hid (show Only [g] W4 w5 from ((Only.refl [g] W4).drew).trans hO5)
    have HF5 := Lib.hid (HF.out w5 HO5.out)
    clear hB5 hO5 hT
    have hT : w5.cell? ⟨q, 0, none⟩ = some (.string key) ∧ w5.cell? ⟨q, 1, none⟩ = some (.string noS) := ⟨cell_of_row w5 q 0 _ _ _ HF5.out.1, cell_of_row w5 q 1 _ _ _ HF5.out.1⟩
    go_wp2_with fail
    refine hK.out _ _ ⟨⟨trivial, fun _ => hT⟩, ?_⟩
    clear hK
    (try simp only [Act.put, List.getElem_toArray, List.getElem_cons_zero, List.getElem_cons_succ, List.setIfInBounds_toArray, List.set_cons_zero, List.set_cons_succ])
    refine wpAnyZ.oneK (i := 3) (E := False) (by kernel_rfl) rfl (by rfl) (fun K hK => ?_)
    have c0 : w5.cell? ⟨r, 0, none⟩ = some (.string noS) := cell_of_row w5 r 0 _ _ _ HF5.out.2
    have c1 : w5.cell? ⟨r, 1, none⟩ = some (.string noS) := cell_of_row w5 r 1 _ _ _ HF5.out.2
    have f0 : w5.frozen? ⟨r, 0, none⟩ = false := frozen_of_row w5 r 0 _ _ HF5.out.2
    have f1 : w5.frozen? ⟨r, 1, none⟩ = false := frozen_of_row w5 r 1 _ _ HF5.out.2
    go_simp
    refine hK.out _ _ ⟨⟨trivial, (fun h => (have h9 : (true : Bool) = false := h; by cases h9))⟩, ?_⟩
    clear hK c0 c1 f0 f1 hT
    refine wpAnyZ.takeN (i := 4) (v := .int .i64 (nm.1 : Int)) rfl (by kernel_rfl) (by kernel_rfl) (by kernel_rfl) (by decide) (fun _ _ _ h => h) (by rfl) (fun w => ?zy) trivial (fun h => (have h9 : (true : Bool) = false := h; by cases h9)) ?_
    case zy => (go_simp)
    (try simp only [Act.put, List.getElem_toArray, List.getElem_cons_zero, List.getElem_cons_succ, List.setIfInBounds_toArray, List.set_cons_zero, List.set_cons_succ])
    refine wpAnyZ.done (by kernel_rfl) ?_ _
    have HO6 := Lib.hid (show Only [g] w ((w5.setCell ⟨r, 0, none⟩ (.string key)).setCell ⟨r, 1, none⟩ (.string noS)) from ((HO0.out.trans (HO4.out.trans HO5.out)).setNew HRN.out _).setNew HRN.out _)
    have HB6 := Lib.hid (show BkAt ((w5.setCell ⟨r, 0, none⟩ (.string key)).setCell ⟨r, 1, none⟩ (.string noS)) g M nm.2 from HB5.out.keep (S := [r]) (((Only.refl [r] w5).setCell (by simp) _).setCell (by simp) _) (by simp; exact HRG.out.symm))
    have HR6 := Lib.hid (row2 (x := ⟨noS, noS⟩) (y := ⟨key, noS⟩) HF5.out.2)
    go_wp2
    exact bodyPost_ret (results_cr2 rfl _ _ r 46 (enC ⟨key, noS⟩) (0, 0) _ rfl HR6.out Try.underlying46 rfl sz_en) rfl ⟨by rw [HP2.out]; rfl, by rw [HP2.out]; exact HB6.out, HO6.out⟩
  · have hv9 : ((v.1 : Int) == 255) = false := by simp; omega
    have HP2 := Lib.hid (show pEnt M a = ((⟨key, strS (nxt M s.2 v.1).1⟩ : En), (0 : Int), (nxt M s.2 v.1).2) by rw [HPE.out, if_neg hv])
    obtain ⟨nm, hnm⟩ : ∃ nm, nm = nxt M s.2 v.1 := ⟨_, rfl⟩
    have HC5 := Lib.hid (pg_next g s.2 v.1 M W4 HB4.out s2 (by omega))
    rw [← hnm] at HC5 HP2
    obtain ⟨val, hval⟩ : ∃ val, val = strS nm.1 := ⟨_, rfl⟩
    rw [← hval] at HC5 HP2
    clear hv hnm hval
    go_wp2_with fail
    rw [← hW4, ← hq]
    clear hW4 hq
    refine HC5.out.mono ?_
    rintro e w9 ⟨rfl, hB9, hO9⟩
    have HF9 := Lib.hid (HF.out w9 hO9)
    have HO9 := Lib.hid (HO4.out.trans hO9)
    have HB9 := Lib.hid hB9
    clear hB9 hO9
    have c0 : w9.cell? ⟨q, 0, none⟩ = some (.string key) := cell_of_row w9 q 0 _ _ _ HF9.out.1
    have c1 : w9.cell? ⟨q, 1, none⟩ = some (.string noS) := cell_of_row w9 q 1 _ _ _ HF9.out.1
    have f1 : w9.frozen? ⟨q, 1, none⟩ = false := frozen_of_row w9 q 1 _ _ HF9.out.1
    go_upto_region 6 with fail
    obtain ⟨w5, hw5⟩ : ∃ w5, w5 = w9.setCell ⟨q, 1, none⟩ (.string val) := ⟨_, rfl⟩
    have hqr : w5.heap[q]? = some (.cells (enC ⟨key, val⟩) 46 (0, 0)) := by
      rw [hw5, heap_setCell_same _ q 1 _ _ _ HF9.out.1]
      simp only [enC, List.setIfInBounds_toArray, List.set_cons_zero, List.set_cons_succ]
    have HF5 := Lib.hid (show w5.heap[q]? = some (.cells (enC ⟨key, val⟩) 46 (0, 0)) ∧ w5.heap[r]? = some (.cells (enC ⟨noS, noS⟩) 46 (0, 0)) from ⟨hqr, by rw [hw5, heap_setCell_other _ _ _ _ (by simp; exact HQR.out.symm)]; exact HF9.out.2⟩)
    have HQN := Lib.hid (show W.heap.size ≤ q by have := HO3.out.size; have := HRL.out; have := HQ3.out; omega)
    have HO5 := Lib.hid (show Only [g] W w5 by rw [hw5]; exact HO9.out.setNew HQN.out _)
    have HB5 := Lib.hid (show BkAt w5 g M nm.2 by rw [hw5]; exact HB9.out.keep (S := [q]) ((Only.refl [q] w9).setCell (by simp) _) (by simp; exact HQG.out.symm))
    rw [← hw5]
    clear hw5 c0 c1 f1 hqr
    have d0 : w5.cell? ⟨q, 0, none⟩ = some (.string key) := cell_of_row w5 q 0 _ _ _ HF5.out.1
    have d1 : w5.cell? ⟨q, 1, none⟩ = some (.string val) := cell_of_row w5 q 1 _ _ _ HF5.out.1
    have c0 : w5.cell? ⟨r, 0, none⟩ = some (.string noS) := cell_of_row w5 r 0 _ _ _ HF5.out.2
    have c1 : w5.cell? ⟨r, 1, none⟩ = some (.string noS) := cell_of_row w5 r 1 _ _ _ HF5.out.2
    have f0 : w5.frozen? ⟨r, 0, none⟩ = false := frozen_of_row w5 r 0 _ _ HF5.out.2
    have f1 : w5.frozen? ⟨r, 1, none⟩ = false := frozen_of_row w5 r 1 _ _ HF5.out.2
    have HO6 := Lib.hid (show Only [g] w ((w5.setCell ⟨r, 0, none⟩ (.string key)).setCell ⟨r, 1, none⟩ (.string val)) from ((HO0.out.trans HO5.out).setNew HRN.out _).setNew HRN.out _)
    have HB6 := Lib.hid (show BkAt ((w5.setCell ⟨r, 0, none⟩ (.string key)).setCell ⟨r, 1, none⟩ (.string val)) g M nm.2 from HB5.out.keep (S := [r]) (((Only.refl [r] w5).setCell (by simp) _).setCell (by simp) _) (by simp; exact HRG.out.symm))
    have HR6 := Lib.hid (row2 (x := ⟨noS, noS⟩) (y := ⟨key, val⟩) HF5.out.2)
    go_wp2
    exact bodyPost_ret (results_cr2 rfl _ _ r 46 (enC ⟨key, val⟩) (0, 0) _ rfl HR6.out Try.underlying46 rfl sz_en) rfl ⟨by rw [HP2.out]; rfl, by rw [HP2.out]; exact HB6.out, HO6.out⟩
end Go.Proofs.Ytlandlgjhnnaiaa
