/- The device's Write. -/
import Derived.Test.YtjbffahmjhbpjaaDv4
import Derived.Test.YtjbffahmjhbpjaaOrdZ
set_option linter.unusedVariables false
set_option linter.unusedSimpArgs false
set_option maxRecDepth 100000
namespace Go.Proofs.Ytjbffahmjhbpjaa
open Go.RowKit
section
variable {ops : Array Oper} {o : Oper} {a : Act} {Q : Exit → Act → World → Prop}
theorem step_appP {W : World} {K : Act → World → Prop} {E : Prop} (n : Nat) {v : Value} {q : Nat} {C : List Pd} (y : Pd) (HO : OwnP W 0 n v q C) (h1 : y.num < n) (h2 : y.data.length = 512)
    (g0 : Nat) (hrow : W.heap[g0]? = some (.cells (pc y).toArray 80 (0, 0))) (hl : (q + 1) * 520 ≤ 140737488355328) (s x : Operand) (hgd : o.guard = none)
    (ho : o.op = .call { callee := .builtin .append, args := #[s, x], argTypes := #[74, 74] }) (hs : a.eval s = v) (hx : a.eval x = .slice (some ⟨g0, 0, none⟩) 1 1)
    (h : ∀ v1 w1, OwnP w1 0 n v1 (q + 1) (C ++ [y]) → W.grownBy w1 v.ownBlock → (v1.ownBlock = v.ownBlock ∨ v1.ownBlock = some W.heap.size) → K (a.put o.dst v1) w1) :
    if Region.wanted o (yielded ops a.tmps) = true then Oper.wp Try.prog o a W K Q else E := by
  have hw : Region.wanted o (yielded ops a.tmps) = true := by simp [Region.wanted, hgd]
  rw [if_pos hw]
  obtain ⟨i0, hi, hzz⟩ := Option.map_eq_some_iff.1 info_pd
  simp only [Prod.mk.injEq] at hzz
  obtain ⟨hz0, hz1, hz2⟩ := hzz
  obtain ⟨v1, w1, hr, h3, h4, _, h5⟩ := run_append_own_at (P := Try.prog) W 0 74 o.type 80 i0 _ 513 520 Try.underlying74 hi hz0 hz1 hz2 (by simp [Value.cells]) (by omega) v q (pcs C) HO.2 ⟨g0, 0, none⟩ 1 1 (pc y)
    (by rw [pc_length h2]) (fun j u hu => by
      rw [Addr.add_mid, cell_of_row _ _ _ _ _ _ hrow]
      simpa using hu) (fun u hu => pcs_one [y] u (by simpa [pcs] using hu)) (by simp only [maxLen]; omega) hl (Nat.zero_le _)
  unfold Oper.wp execOp
  simp only [ho, resolve, invoke, builtin, Sem.run_bind, Sem.run_pure, Result.andThen_ok, List.map_toArray, List.map_cons, List.map_nil, hs, hx, hr]
  refine h v1 w1 ⟨HO.1.snoc h1 h2, ?_⟩ h4 h5
  rw [pcs_append]
  rw [show pcs [y] = pc y by simp [pcs]]
  exact h3
theorem step_build {w : World} {K : Act → World → Prop} {E : Prop} (t : TypeId) (x0 x1 : Operand) (y0 y1 v : Value) (hgd : o.guard = none) (ho : o.op = .build t #[(0, x0), (1, x1)]) (h0 : a.eval x0 = y0) (h1 : a.eval x1 = y1)
    (hrun : (Instr.build t #[(0, y0), (1, y1)]).run Try.prog w = .ok v w) (h : K (a.put o.dst v) w) :
    if Region.wanted o (yielded ops a.tmps) = true then Oper.wp Try.prog o a w K Q else E := by
  have hw : Region.wanted o (yielded ops a.tmps) = true := by simp [Region.wanted, hgd]
  rw [if_pos hw]
  unfold Oper.wp execOp
  simp only [ho, List.map_toArray, List.map_cons, List.map_nil, h0, h1, Sem.run_bind, hrun, Result.andThen_ok]
  exact h
theorem exec_build {w : World} (t : TypeId) (x0 x1 : Operand) (y0 y1 v : Value) (ho : o.op = .build t #[(0, x0), (1, x1)]) (h0 : a.eval x0 = y0) (h1 : a.eval x1 = y1)
    (hrun : (Instr.build t #[(0, y0), (1, y1)]).run Try.prog w = .ok v w) : (execOp a.eval o).run Try.prog w = .ok (.value v) w := by
  unfold execOp
  simp only [ho, List.map_toArray, List.map_cons, List.map_nil, h0, h1, Sem.run_bind, hrun, Result.andThen_ok, Sem.run_pure]
theorem step_bslice {w : World} {K : Act → World → Prop} {E : Prop} (t : TypeId) (n : Nat) (x0 : Operand) (y0 v : Value) (w' : World) (hgd : o.guard = none) (ho : o.op = .buildSlice t n #[(0, x0)]) (h0 : a.eval x0 = y0)
    (hrun : (Instr.buildSlice t n #[(0, y0)]).run Try.prog w = .ok v w') (h : K (a.put o.dst v) w') :
    if Region.wanted o (yielded ops a.tmps) = true then Oper.wp Try.prog o a w K Q else E := by
  have hw : Region.wanted o (yielded ops a.tmps) = true := by simp [Region.wanted, hgd]
  rw [if_pos hw]
  unfold Oper.wp execOp
  simp only [ho, List.map_toArray, List.map_cons, List.map_nil, h0, Sem.run_bind, hrun, Result.andThen_ok]
  exact h
end
theorem zero_pd (W : World) : (zeroValue 80).run Try.prog W = .ok (.agg (#[.int .i64 0] ++ Array.replicate 512 (.int .u8 0))) W := by
  obtain ⟨i0, hi, hzz⟩ := Option.map_eq_some_iff.1 info_pd
  simp only [Prod.mk.injEq] at hzz
  obtain ⟨hz0, hz1, hz2⟩ := hzz
  simp [zeroValue, typeInfo, hi, hz0]
theorem fold_all (l : List Value) (cs : Array Value) (h : cs.size = l.length) : List.foldl (fun cs x => cs.setIfInBounds x.snd x.fst) cs l.zipIdx = l.toArray := by
  obtain ⟨g1, g2⟩ := Go.Great.foldl_set 0 l 0 cs
  simp only [Nat.zero_add] at g1 g2
  apply Array.ext_getElem?
  intro k
  rw [g2 k]
  by_cases hk : k < l.length
  · rw [if_pos ⟨Nat.zero_le _, hk, by omega⟩]; simp
  · rw [if_neg (by omega), Array.getElem?_eq_none (by omega), Array.getElem?_eq_none (by simp; omega)]
theorem OwnP.slice {w : World} {base n q : Nat} {v : Value} {C : List Pd} (h : OwnP w base n v q C) : ∃ A c, v = .slice A q c := by
  rcases h.2.2 with ⟨rfl, h0⟩ | ⟨g, cap, cur, rfl, _⟩
  · subst h0; exact ⟨none, 0, rfl⟩
  · exact ⟨_, cap, rfl⟩
theorem fold_pd (Z : Array Value) (hZ : Z.size = 513) (m : Nat) (D : List UInt8) (h : D.length = 512) : List.foldl (fun cs x => cs.setIfInBounds (1 + x.snd) x.fst) (Z.setIfInBounds 0 (.int .i64 (m : Int))) (bv D).zipIdx = (pc ⟨m, D⟩).toArray := by
  have hb := bv_length D
  have hs2 : (Z.setIfInBounds 0 (.int .i64 (m : Int))).size = 513 := by rw [Array.size_setIfInBounds, hZ]
  obtain ⟨g1, g2⟩ := Go.Great.foldl_set 1 (bv D) 0 (Z.setIfInBounds 0 (.int .i64 (m : Int)))
  apply Array.ext_getElem?
  intro k
  refine Eq.trans (g2 k) ?_
  rw [hb, h, hs2]
  rcases Nat.eq_zero_or_pos k with rfl | hk
  · rw [if_neg (by omega), Array.getElem?_setIfInBounds_self_of_lt (by omega)]
    rfl
  · by_cases h5 : k < 513
    · rw [if_pos (by omega)]
      obtain ⟨j, rfl⟩ : ∃ j, k = j + 1 := ⟨k - 1, by omega⟩
      simp [pc]
    · rw [if_neg (by omega), Array.getElem?_eq_none (by rw [hs2]; omega), Array.getElem?_eq_none (by rw [List.size_toArray, pc_length h]; omega)]
theorem sz_blk : (Try.prog.info? 78).map (·.size) = some 512 := by kernel_rfl
theorem sap (W : World) (A : Option Addr) (c : Nat) : (Instr.arrayAt 78 (.slice A 512 c)).run Try.prog W = .ok (.pointer A) W := by
  have h := Try.underlying78
  simp [Instr.arrayAt, run_underlying h]
theorem Rd.keepS {w w' : World} {A : Option Addr} {n c : Nat} {l : List UInt8} {S : List Nat} (h : Rd w A n c l) (hw : Only S w w') (hs : 0 < n → ∀ p, A = some p → p.block ∉ S) : Rd w' A n c l :=
  ⟨h.len, h.cap, h.max, fun hn => by
    obtain ⟨b, o, e, hc⟩ := h.at_ hn
    refine ⟨b, o, e, fun j hj => ?_⟩
    have h1 := hc j hj
    have h2 := World.block_lt_of_cell? w _ h1
    exact (World.cell?_of_block (w := w) (a := ⟨b, o + j, none⟩) (hw.blk b h2 (hs hn ⟨b, o, none⟩ e))).trans h1⟩
theorem IsV.append {w w1 : World} {b g : Nat} {vc v1 : Value} {D : DS} {o : Obj} (h : IsV w b g vc D) (y : Pd) (hO : OwnP w1 0 D.n v1 (D.C.length + 1) (D.C ++ [y])) (hG : ((w.drew).alloc o).grownBy w1 vc.ownBlock)
    (hA : v1.ownBlock = vc.ownBlock ∨ v1.ownBlock = some ((w.drew).alloc o).heap.size) :
    (∀ j, w1.cell? ⟨b, j, none⟩ = w.cell? ⟨b, j, none⟩) ∧ (∀ j, w1.frozen? ⟨b, j, none⟩ = false) ∧ IsV (w1.setCell ⟨b, 1, none⟩ v1) b g v1 { D with C := D.C ++ [y] } ∧ Fr (dvS b g vc) (dvS b g v1) w (w1.setCell ⟨b, 1, none⟩ v1) ∧ Only (dvS b g vc) w w1 := by
  have hbl := lt_of_block h.dev.st
  have hgl := lt_of_block h.dev.med
  have hz : ((w.drew).alloc o).heap.size = w.heap.size + 1 := by simp
  have hold : ∀ k, k < w.heap.size → some k ≠ vc.ownBlock → w1.heap[k]? = w.heap[k]? := fun k hk hn => by
    rw [hG.block k (by omega) hn]
    exact Below.heap_alloc w.drew o k hk
  have hb1 := hold b hbl (fun e => (h.nb b e.symm).1 rfl)
  have hg1 := hold g hgl (fun e => (h.nb g e.symm).2 rfl)
  have hst := hb1.trans h.dev.st
  have hO1 : Only (dvS b g vc) w w1 := ⟨hG.os, hG.tape, hG.output, by have := hG.size; omega, fun k hk hs => hold k hk (fun e => hs (by simp [dvS, ← e]))⟩
  have hnew : ∀ k, v1.ownBlock = some k → vc.ownBlock = some k ∨ w.heap.size < k := fun k hk => by
    rcases hA with hA | hA
    · exact .inl (hA ▸ hk)
    · rw [hA, hz] at hk; injection hk with hk; exact .inr (by omega)
  have hnb : ∀ k, v1.ownBlock = some k → k ≠ b ∧ k ≠ g := fun k hk => by
    rcases hnew k hk with h1 | h1
    · exact h.nb k h1
    · exact ⟨by omega, by omega⟩
  have hS : Only [b] w1 (w1.setCell ⟨b, 1, none⟩ v1) := (Only.refl [b] w1).setCell (by simp) v1
  refine ⟨fun j => World.cell?_of_block (w := w) (a := ⟨b, j, none⟩) hb1, fun j => frozen_of_row w1 b j _ _ hst, ⟨⟨?_, ?_, h.dev.len, h.dev.ne, h.dev.small⟩, ?_, hnb⟩, ⟨hO1.trans (hS.mono (by simp [dvS])), ?_⟩, hO1⟩
  · rw [heap_setCell_same w1 b 1 _ _ v1 hst]; rfl
  · exact (hS.blk g (lt_of_block (hg1.trans h.dev.med)) (by simp; exact fun e => h.dev.ne e.symm)).trans (hg1.trans h.dev.med)
  · rw [show ({ D with C := D.C ++ [y] } : DS).C.length = D.C.length + 1 by simp]
    exact hO.keep hS (fun k hk => by simp; exact (hnb k hk).1)
  · intro k hk
    simp only [dvS, List.mem_cons, Option.mem_toList] at hk ⊢
    rcases hk with rfl | rfl | hk
    · simp
    · simp
    · rcases hnew k hk with h1 | h1
      · exact .inl (.inr (.inr h1))
      · exact .inr (by omega)
def wrD (D : DS) (num : Int) (L : List UInt8) : Int × DS :=
  if ¬ (0 ≤ num ∧ num < D.n) then (60, D) else if L.length ≠ 512 then (61, D) else
    if (actD D).1 = true then (0, { (actD D).2 with C := (actD D).2.C ++ [⟨num.toNat, L⟩], wr := (actD D).2.wr + 1 }) else (6, (actD D).2)
theorem dv_Write (w : World) (b g : Nat) (vc : Value) (D : DS) (num : Int) (A : Option Addr) (m c : Nat) (L : List UInt8) (h : IsV w b g vc D) (hr : Rd w A m c L)
    (hx : 0 < m → ∀ p, A = some p → p.block ∉ dvS b g vc) (hl : D.left < 9223372036854775808) (hq : D.C.length ≤ 100000000000) (hwr : D.wr < 9223372036854775807) :
    Calls Try.prog 16 #[.pointer (some ⟨b, 0, none⟩), .int .i64 num, .slice A m c] w fun e w' => e = .returned (.int .i64 (wrD D num L).1) ∧ ∃ vc', IsV w' b g vc' (wrD D num L).2 ∧ Fr (dvS b g vc) (dvS b g vc') w w' := by
  have HH := Lib.hid (dv_has w b g vc D num h)
  have HA := Lib.hid (dv_act w b g vc D hl h)
  have HV := Lib.hid h
  have HR := Lib.hid hr
  have HX := Lib.hid hx
  have hlen := hr.len
  have hmx := hr.max
  clear h hr hx
  by_cases h1 : 0 ≤ num ∧ num < (D.n : Int)
  · rw [decide_eq_true h1] at HH
    by_cases h2 : m = 512
    · subst h2
      obtain ⟨k, rfl⟩ : ∃ k : Nat, num = k := ⟨num.toNat, by omega⟩
      cases hact : (actD D).1 with
      | false =>
        have HW := Lib.hid (show wrD D k L = (6, (actD D).2) by unfold wrD; rw [if_neg (by simpa using h1), if_neg (by omega), if_neg (by simp [hact])])
        rw [hact] at HA
        rw [HW.out]
        clear hlen hact
        go_enter Try.func16, Try.ntmps16
        go_wp2_with fail
        refine HH.out.mono ?_
        rintro e w1 ⟨rfl, rfl⟩
        go_wp2_with fail
        refine HA.out.mono ?_
        rintro e w2 ⟨rfl, hV, hF⟩
        have HV2 := Lib.hid hV
        have HF2 := Lib.hid hF
        clear hV hF
        go_wp2
        go_ret
        exact ⟨rfl, vc, HV2.out, HF2.out⟩
      | true =>
        have HW := Lib.hid (show wrD D k L = (0, { (actD D).2 with C := (actD D).2.C ++ [⟨k, L⟩], wr := (actD D).2.wr + 1 }) by unfold wrD; rw [if_neg (by simpa using h1), if_neg (by omega), if_pos hact, Int.toNat_natCast])
        have HE := Lib.hid (show (actD D).2.C = D.C ∧ (actD D).2.wr = D.wr ∧ (actD D).2.n = D.n by
          unfold actD; split
          · exact ⟨rfl, rfl, rfl⟩
          · split
            · exact ⟨rfl, rfl, rfl⟩
            · split <;> exact ⟨rfl, rfl, rfl⟩)
        rw [hact] at HA
        rw [HW.out]
        obtain ⟨D2, hD2⟩ : ∃ D2, D2 = (actD D).2 := ⟨_, rfl⟩
        rw [← hD2] at HA HE ⊢
        clear hact hD2
        go_enter Try.func16, Try.ntmps16
        go_wp2_with fail
        refine HH.out.mono ?_
        rintro e w1 ⟨rfl, rfl⟩
        go_wp2_with fail
        refine HA.out.mono ?_
        rintro e w2 ⟨rfl, hV, hF⟩
        have HV2 := Lib.hid hV
        have HF2 := Lib.hid hF
        have c1 : w2.cell? ⟨b, 1, none⟩ = some vc := hV.dev.cell 1
        have hkn : k < D2.n := by have := HE.out.2.2; omega
        obtain ⟨bb, oo, rfl, hc⟩ := (HR.out.keepS hF.only HX.out).at_ (by omega)
        have hrg : w2.rangeAt bb oo (bv L) := fun j v hv => by
          have hj : j < 512 := by
            rcases Nat.lt_or_ge j 512 with h | h
            · exact h
            · rw [List.getElem?_eq_none (by rw [bv_length, hlen]; exact h)] at hv; cases hv
          rw [bv_get L j (by omega)] at hv
          rw [← hv]; exact hc j hj
        have hu78 := Try.underlying78
        have hi78 : (Try.prog.info? 78).map (·.size) = some (bv L).length := by rw [bv_length, hlen]; exact sz_blk
        have hbd := build_pd k L hlen
        have hbs := bslice_pd ⟨k, L⟩ hlen
        have hsa := fun W => sap W (some ⟨bb, oo, none⟩) c
        have hbl := hV.lt b (by simp [dvS])
        have c6 : w2.cell? ⟨b, 6, none⟩ = some (.int .i64 (D2.wr : Int)) := hV.dev.cell 6
        have HC2 := Lib.hid (fun o => (show OwnP (w2.drew.alloc o) 0 D2.n vc D2.C.length D2.C from ⟨hV.ca.1, World.ownsRow.alloc (w := w2.drew) hV.ca.2 o⟩))
        have hwb : (0 : Int) ≤ (D2.wr : Int) ∧ (D2.wr : Int) < 9223372036854775807 := by have := HE.out.2.1; omega
        clear hV hF hc
        have c1a : ∀ o, (w2.drew.alloc o).cell? ⟨b, 1, none⟩ = some vc := fun o => by
          have h9 : (w2.drew.alloc o).heap[b]? = w2.heap[b]? := Below.heap_alloc w2 o b hbl
          exact (World.cell?_of_block (w := w2) (a := ⟨b, 1, none⟩) h9).trans c1
        have hrga : ∀ o, (w2.drew.alloc o).rangeAt bb oo (bv L) := fun o j v hv => by
          have h8 := World.block_lt_of_cell? w2 _ (hrg j v hv)
          have h9 : (w2.drew.alloc o).heap[bb]? = w2.heap[bb]? := Below.heap_alloc w2 o bb h8
          exact (World.cell?_of_block (w := w2) (a := ⟨bb, oo + j, none⟩) h9).trans (hrg j v hv)
        have hrd : w2.drew.rangeAt bb oo (bv L) := hrg
        have hcd : w2.drew.cell? ⟨b, 1, none⟩ = some vc := c1
        go_wp2_with fail
        refine wp_region_z (fun w' => w'.rangeAt bb oo (bv L)) (fun w' => w'.cell? ⟨b, 1, none⟩ = some vc) 11 (by kernel_rfl) ?_
        refine wpAnyZ.takeN (i := 0) (v := .pointer (some ⟨b, 0, none⟩)) rfl (by kernel_rfl) (by kernel_rfl) (by kernel_rfl) (by decide) (fun _ _ _ h => h) (by rfl) (fun w => ?zy) hrd (fun _ => hcd) ?_
        case zy => go_simp
        simp only [Act.put, List.getElem_toArray, List.getElem_cons_zero, List.getElem_cons_succ, List.setIfInBounds_toArray, List.set_cons_zero, List.set_cons_succ]
        refine wpAnyZ.takeN (i := 1) (v := .pointer (some ⟨b, 0, none⟩)) rfl (by kernel_rfl) (by kernel_rfl) (by kernel_rfl) (by decide) (fun _ _ _ h => h) (by rfl) (fun w => ?zy) hrd (fun _ => hcd) ?_
        case zy => go_simp
        simp only [Act.put, List.getElem_toArray, List.getElem_cons_zero, List.getElem_cons_succ, List.setIfInBounds_toArray, List.set_cons_zero, List.set_cons_succ]
        refine wpAnyZ.takeN (i := 2) (v := .pointer (some ⟨b, 0, none⟩)) rfl (by kernel_rfl) (by kernel_rfl) (by kernel_rfl) (by decide) (fun _ _ _ h => h) (by rfl) (fun w => ?zy) hrd (fun _ => hcd) ?_
        case zy => go_simp
        simp only [Act.put, List.getElem_toArray, List.getElem_cons_zero, List.getElem_cons_succ, List.setIfInBounds_toArray, List.set_cons_zero, List.set_cons_succ]
        refine wpAnyZ.takeN (i := 3) (v := .pointer (some ⟨b, 1, none⟩)) rfl (by kernel_rfl) (by kernel_rfl) (by kernel_rfl) (by decide) (fun _ _ _ h => h) (by rfl) (fun w => ?zy) hrd (fun _ => hcd) ?_
        case zy => go_simp
        simp only [Act.put, List.getElem_toArray, List.getElem_cons_zero, List.getElem_cons_succ, List.setIfInBounds_toArray, List.set_cons_zero, List.set_cons_succ]
        refine wpAnyZ.take (i := 4) (v := vc) (U := fun w' => w'.cell? ⟨b, 1, none⟩ = some vc) rfl (by kernel_rfl) (by kernel_rfl) (by kernel_rfl) (by decide) (fun _ _ _ h => h) (.inr ⟨fun _ h => h, by kernel_rfl⟩) (.inl (by kernel_rfl)) (.inl ⟨by rfl, fun w hw => ?zy⟩) hcd hrd (fun _ => hcd) ?_
        case zy => (dsimp only at hw; go_simp)
        simp only [Act.put, List.getElem_toArray, List.getElem_cons_zero, List.getElem_cons_succ, List.setIfInBounds_toArray, List.set_cons_zero, List.set_cons_succ]
        refine wpAnyZ.takeN (i := 5) (v := .int .i64 (k : Int)) rfl (by kernel_rfl) (by kernel_rfl) (by kernel_rfl) (by decide) (fun _ _ _ h => h) (by rfl) (fun w => ?zy) hrd (fun _ => hcd) ?_
        case zy => go_simp
        simp only [Act.put, List.getElem_toArray, List.getElem_cons_zero, List.getElem_cons_succ, List.setIfInBounds_toArray, List.set_cons_zero, List.set_cons_succ]
        refine wpAnyZ.takeN (i := 6) (v := .slice (some ⟨bb, oo, none⟩) 512 c) rfl (by kernel_rfl) (by kernel_rfl) (by kernel_rfl) (by decide) (fun _ _ _ h => h) (by rfl) (fun w => ?zy) hrd (fun _ => hcd) ?_
        case zy => go_simp
        simp only [Act.put, List.getElem_toArray, List.getElem_cons_zero, List.getElem_cons_succ, List.setIfInBounds_toArray, List.set_cons_zero, List.set_cons_succ]
        refine wpAnyZ.takeN (i := 7) (v := .pointer (some ⟨bb, oo, none⟩)) rfl (by kernel_rfl) (by kernel_rfl) (by kernel_rfl) (by decide) (fun _ _ _ h => h) (by rfl) (fun w => ?zy) hrd (fun _ => hcd) ?_
        case zy => go_simp
        simp only [Act.put, List.getElem_toArray, List.getElem_cons_zero, List.getElem_cons_succ, List.setIfInBounds_toArray, List.set_cons_zero, List.set_cons_succ]
        refine wpAnyZ.take (i := 8) (v := .agg (bv L).toArray) (U := fun w' => w'.rangeAt bb oo (bv L)) rfl (by kernel_rfl) (by kernel_rfl) (by kernel_rfl) (by decide) (fun _ _ _ h => h) (.inl fun _ h => h) (.inr fun _ h => h) (yieldsIf_load_mid (by rfl) _ _ rfl bb oo rfl (bv L) _ (fun _ h => h) hu78 rfl hi78) hrd hrd (fun _ => hcd) ?_
        simp only [Act.put, List.getElem_toArray, List.getElem_cons_zero, List.getElem_cons_succ, List.setIfInBounds_toArray, List.set_cons_zero, List.set_cons_succ]
        refine wpAnyZ.takeN (i := 9) (v := .agg (pc ⟨k, L⟩).toArray) rfl (by kernel_rfl) (by kernel_rfl) (by kernel_rfl) (by decide) (fun _ _ _ h => h) (by rfl) (fun w => ?zy) hrd (fun _ => hcd) ?_
        case zy => exact exec_build 80 (.tmp 25) (.tmp 28) _ _ _ rfl rfl rfl (hbd w)
        simp only [Act.put, List.getElem_toArray, List.getElem_cons_zero, List.getElem_cons_succ, List.setIfInBounds_toArray, List.set_cons_zero, List.set_cons_succ]
        refine wpAnyZ.one (i := 10) (E := False) (by kernel_rfl) rfl (by rfl) ?_
        refine step_bslice 74 1 (.tmp 29) (.agg (pc ⟨k, L⟩).toArray) _ _ rfl rfl rfl (hbs _) ?_
        refine ⟨⟨hrga _, fun _ => c1a _⟩, ?_⟩
        simp only [Act.put, List.getElem_toArray, List.getElem_cons_zero, List.getElem_cons_succ, List.setIfInBounds_toArray, List.set_cons_zero, List.set_cons_succ]
        refine wpAnyZ.one (i := 11) (E := False) (by kernel_rfl) rfl (by rfl) ?_
        refine step_appP (W := w2.drew.alloc (.cells (pc ⟨k, L⟩).toArray 80)) D2.n ⟨k, L⟩ (q := D2.C.length) (C := D2.C) (v := vc) (HC2.out _) hkn hlen w2.heap.size (heap_alloc_new w2.drew _) (by have := HE.out.1; rw [this]; omega) _ _ rfl rfl rfl rfl ?_
        intro v1 x1 hO1 hG1 hA1
        obtain ⟨A1, q1, rfl⟩ := hO1.slice
        have HP := Lib.hid (HV2.out.append ⟨k, L⟩ hO1 hG1 hA1)
        have k1 := (HP.out.1 1).trans c1
        have k6 := (HP.out.1 6).trans c6
        have f1 := HP.out.2.1 1
        have f6 := HP.out.2.1 6
        have kr : x1.rangeAt bb oo (bv L) := fun j v hv => (World.cell?_of_block (w := w2) (a := ⟨bb, oo + j, none⟩) (HP.out.2.2.2.2.blk bb (World.block_lt_of_cell? w2 _ (hrg j v hv)) (HX.out (by omega) ⟨bb, oo, none⟩ rfl))).trans (hrg j v hv)
        have kr2 : (x1.setCell ⟨b, 1, none⟩ (.slice A1 (D2.C.length + 1) q1)).rangeAt bb oo (bv L) := fun j v hv => (World.cell?_of_block (w := x1) (a := ⟨bb, oo + j, none⟩) (heap_setCell_other x1 _ bb _ (fun e => HX.out (by omega) ⟨bb, oo, none⟩ rfl (by rw [e]; simp [dvS])))).trans (kr j v hv)
        clear hO1 hG1 hA1
        refine ⟨⟨kr, fun h => ?zf⟩, ?_⟩
        case zf => (have h9 : (true : Bool) = false := h; cases h9)
        simp only [Act.put, List.getElem_toArray, List.getElem_cons_zero, List.getElem_cons_succ, List.setIfInBounds_toArray, List.set_cons_zero, List.set_cons_succ]
        refine wpAnyZ.takeN (i := 12) (v := .pointer (some ⟨b, 0, none⟩)) rfl (by kernel_rfl) (by kernel_rfl) (by kernel_rfl) (by decide) (fun _ _ _ h => h) (by rfl) (fun w => ?zy) kr (fun h => ?zf) ?_
        case zy => go_simp
        case zf => (have h9 : (true : Bool) = false := h; cases h9)
        simp only [Act.put, List.getElem_toArray, List.getElem_cons_zero, List.getElem_cons_succ, List.setIfInBounds_toArray, List.set_cons_zero, List.set_cons_succ]
        refine wpAnyZ.takeN (i := 13) (v := .pointer (some ⟨b, 1, none⟩)) rfl (by kernel_rfl) (by kernel_rfl) (by kernel_rfl) (by decide) (fun _ _ _ h => h) (by rfl) (fun w => ?zy) kr (fun h => ?zf) ?_
        case zy => go_simp
        case zf => (have h9 : (true : Bool) = false := h; cases h9)
        simp only [Act.put, List.getElem_toArray, List.getElem_cons_zero, List.getElem_cons_succ, List.setIfInBounds_toArray, List.set_cons_zero, List.set_cons_succ]
        refine wpAnyZ.one (i := 14) (E := False) (by kernel_rfl) rfl (by rfl) ?_
        rw [if_pos (by rfl)]
        clear hbd hbs hsa hrga c1a hu78 hi78 hcd
        go_simp
        refine wpAnyZ.done (by kernel_rfl) ?_ _
        go_wp2
        go_ret
        have HS := HP.out.2.2.1.store 6 (.int .i64 ((D2.wr : Int) + 1)) { n := D2.n, M := D2.M, C := D2.C ++ [⟨k, L⟩], left := D2.left, armed := D2.armed, down := D2.down, rd := D2.rd, wr := D2.wr + 1, fl := D2.fl } rfl rfl rfl (by simp)
        exact ⟨rfl, _, HS.1, HF2.out.trans (HP.out.2.2.2.1.trans HS.2)⟩
    · have HW := Lib.hid (show wrD D num L = (61, D) by unfold wrD; rw [if_neg (by simpa using h1), if_pos (by omega)])
      have e1 : ((m : Int) == 512) = false := by simp; omega
      rw [HW.out]
      clear hlen h2
      go_enter Try.func16, Try.ntmps16
      go_wp2_with fail
      refine HH.out.mono ?_
      rintro e w1 ⟨rfl, rfl⟩
      go_wp2
      go_ret
      exact ⟨rfl, vc, HV.out, Fr.refl _ _⟩
  · rw [decide_eq_false h1] at HH
    have HW := Lib.hid (show wrD D num L = (60, D) by unfold wrD; rw [if_pos h1])
    rw [HW.out]
    clear hlen h1
    go_enter Try.func16, Try.ntmps16
    go_wp2_with fail
    refine HH.out.mono ?_
    rintro e w1 ⟨rfl, rfl⟩
    go_wp2
    go_ret
    exact ⟨rfl, vc, HV.out, Fr.refl _ _⟩
end Go.Proofs.Ytjbffahmjhbpjaa
