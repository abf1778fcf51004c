/- The device's Write. -/
import Derived.Test.YtggoaelbglhehaaMgA4
import Derived.OwnWalk
import Derived.Test.YtggoaelbglhehaaProg
import Derived.WalkKit
import Derived.KernelRfl
import Derived.RowKit
import Derived.Lib.Hide
/- The device's Write. -/
set_option linter.unusedVariables false
set_option linter.unusedSimpArgs false
set_option maxRecDepth 100000
namespace Go.Proofs.Ytggoaelbglhehaa
open Go.RowKit
section
variable {ops : Array Oper} {o : Oper} {a : Act} {Q : Exit → Act → World → Prop}
theorem step_appP {W : World} {K : Act → World → Prop} {E : Prop} (n : Nat) {v : Value} {q : Nat} {C : List Pd} (y : Pd) (HO : OwnP W 0 n v q C) (h1 : y.num < n) (h2 : y.data.length = 512)
    (g0 : Nat) (hrow : W.heap[g0]? = some (.cells (pc y).toArray 105 (0, 0))) (hl : (q + 1) * 520 ≤ 140737488355328) (s x : Operand) (hgd : o.guard = none)
    (ho : o.op = .call { callee := .builtin .append, args := #[s, x], argTypes := #[84, 84] }) (hs : a.eval s = v) (hx : a.eval x = .slice (some ⟨g0, 0, none⟩) 1 1)
    (h : ∀ v1 w1, OwnP w1 0 n v1 (q + 1) (C ++ [y]) → W.grownBy w1 v.ownBlock → (v1.ownBlock = v.ownBlock ∨ v1.ownBlock = some W.heap.size) → K (a.put o.dst v1) w1) :
    if Region.wanted o (yielded ops a.tmps) = true then Oper.wp Try.prog o a W K Q else E := by
  have hw : Region.wanted o (yielded ops a.tmps) = true := by simp [Region.wanted, hgd]
  rw [if_pos hw]
  obtain ⟨i0, hi, hzz⟩ := Option.map_eq_some_iff.1 info_pd
  simp only [Prod.mk.injEq] at hzz
  obtain ⟨hz0, hz1, hz2⟩ := hzz
  obtain ⟨v1, w1, hr, h3, h4, _, h5⟩ := run_append_own_at (P := Try.prog) W 0 84 o.type 105 i0 _ 513 520 Try.underlying84 hi hz0 hz1 hz2 (by simp [Value.cells]) (by omega) v q (pcs C) HO.2 ⟨g0, 0, none⟩ 1 1 (pc y)
    (by rw [pc_length h2]) (fun j u hu => by
      rw [Addr.add_mid, cell_of_row _ _ _ _ _ _ hrow]
      simpa using hu) (fun u hu => pcs_one [y] u (by simpa [pcs] using hu)) (by simp only [maxLen]; omega) hl (Nat.zero_le _)
  unfold Oper.wp execOp
  simp only [ho, resolve, invoke, builtin, Sem.run_bind, Sem.run_pure, Result.andThen_ok, List.map_toArray, List.map_cons, List.map_nil, hs, hx, hr]
  refine h v1 w1 ⟨HO.1.snoc h1 h2, ?_⟩ h4 h5
  rw [pcs_append]
  rw [show pcs [y] = pc y by simp [pcs]]
  exact h3
theorem step_build {w : World} {K : Act → World → Prop} {E : Prop} (t : TypeId) (x0 x1 : Operand) (y0 y1 v : Value) (hgd : o.guard = none) (ho : o.op = .build t #[(0, x0), (1, x1)]) (h0 : a.eval x0 = y0) (h1 : a.eval x1 = y1)
    (hrun : (Instr.build t #[(0, y0), (1, y1)]).run Try.prog w = .ok v w) (h : K (a.put o.dst v) w) :
    if Region.wanted o (yielded ops a.tmps) = true then Oper.wp Try.prog o a w K Q else E := by
  have hw : Region.wanted o (yielded ops a.tmps) = true := by simp [Region.wanted, hgd]
  rw [if_pos hw]
  unfold Oper.wp execOp
  simp only [ho, List.map_toArray, List.map_cons, List.map_nil, h0, h1, Sem.run_bind, hrun, Result.andThen_ok]
  exact h
theorem exec_build {w : World} (t : TypeId) (x0 x1 : Operand) (y0 y1 v : Value) (ho : o.op = .build t #[(0, x0), (1, x1)]) (h0 : a.eval x0 = y0) (h1 : a.eval x1 = y1)
    (hrun : (Instr.build t #[(0, y0), (1, y1)]).run Try.prog w = .ok v w) : (execOp a.eval o).run Try.prog w = .ok (.value v) w := by
  unfold execOp
  simp only [ho, List.map_toArray, List.map_cons, List.map_nil, h0, h1, Sem.run_bind, hrun, Result.andThen_ok, Sem.run_pure]
theorem step_bslice {w : World} {K : Act → World → Prop} {E : Prop} (t : TypeId) (n : Nat) (x0 : Operand) (y0 v : Value) (w' : World) (hgd : o.guard = none) (ho : o.op = .buildSlice t n #[(0, x0)]) (h0 : a.eval x0 = y0)
    (hrun : (Instr.buildSlice t n #[(0, y0)]).run Try.prog w = .ok v w') (h : K (a.put o.dst v) w') :
    if Region.wanted o (yielded ops a.tmps) = true then Oper.wp Try.prog o a w K Q else E := by
  have hw : Region.wanted o (yielded ops a.tmps) = true := by simp [Region.wanted, hgd]
  rw [if_pos hw]
  unfold Oper.wp execOp
  simp only [ho, List.map_toArray, List.map_cons, List.map_nil, h0, Sem.run_bind, hrun, Result.andThen_ok]
  exact h
end
theorem zero_pd (W : World) : (zeroValue 105).run Try.prog W = .ok (.agg (#[.int .i64 0] ++ Array.replicate 512 (.int .u8 0))) W := by
  obtain ⟨i0, hi, hzz⟩ := Option.map_eq_some_iff.1 info_pd
  simp only [Prod.mk.injEq] at hzz
  obtain ⟨hz0, hz1, hz2⟩ := hzz
  simp [zeroValue, typeInfo, hi, hz0]
theorem fold_all (l : List Value) (cs : Array Value) (h : cs.size = l.length) : List.foldl (fun cs x => cs.setIfInBounds x.snd x.fst) cs l.zipIdx = l.toArray := by
  obtain ⟨g1, g2⟩ := Go.Great.foldl_set 0 l 0 cs
  simp only [Nat.zero_add] at g1 g2
  apply Array.ext_getElem?
  intro k
  rw [g2 k]
  by_cases hk : k < l.length
  · rw [if_pos ⟨Nat.zero_le _, hk, by omega⟩]; simp
  · rw [if_neg (by omega), Array.getElem?_eq_none (by omega), Array.getElem?_eq_none (by simp; omega)]
theorem OwnP.slice {w : World} {base n q : Nat} {v : Value} {C : List Pd} (h : OwnP w base n v q C) : ∃ A c, v = .slice A q c := by
  rcases h.2.2 with ⟨rfl, h0⟩ | ⟨g, cap, cur, rfl, _⟩
  · subst h0; exact ⟨none, 0, rfl⟩
  · exact ⟨_, cap, rfl⟩
theorem fold_pd (Z : Array Value) (hZ : Z.size = 513) (m : Nat) (D : List UInt8) (h : D.length = 512) : List.foldl (fun cs x => cs.setIfInBounds (1 + x.snd) x.fst) (Z.setIfInBounds 0 (.int .i64 (m : Int))) (bv D).zipIdx = (pc ⟨m, D⟩).toArray := by
  have hb := bv_length D
  have hs2 : (Z.setIfInBounds 0 (.int .i64 (m : Int))).size = 513 := by rw [Array.size_setIfInBounds, hZ]
  obtain ⟨g1, g2⟩ := Go.Great.foldl_set 1 (bv D) 0 (Z.setIfInBounds 0 (.int .i64 (m : Int)))
  apply Array.ext_getElem?
  intro k
  refine Eq.trans (g2 k) ?_
  rw [hb, h, hs2]
  rcases Nat.eq_zero_or_pos k with rfl | hk
  · rw [if_neg (by omega), Array.getElem?_setIfInBounds_self_of_lt (by omega)]
    rfl
  · by_cases h5 : k < 513
    · rw [if_pos (by omega)]
      obtain ⟨j, rfl⟩ : ∃ j, k = j + 1 := ⟨k - 1, by omega⟩
      simp [pc]
    · rw [if_neg (by omega), Array.getElem?_eq_none (by rw [hs2]; omega), Array.getElem?_eq_none (by rw [List.size_toArray, pc_length h]; omega)]
theorem sz_blk : (Try.prog.info? 89).map (·.size) = some 512 := by kernel_rfl
theorem sap (W : World) (A : Option Addr) (c : Nat) : (Instr.arrayAt 89 (.slice A 512 c)).run Try.prog W = .ok (.pointer A) W := by
  have h := Try.underlying89
  simp [Instr.arrayAt, run_underlying h]
theorem Rd.keepS {w w' : World} {A : Option Addr} {n c : Nat} {l : List UInt8} {S : List Nat} (h : Rd w A n c l) (hw : Only S w w') (hs : 0 < n → ∀ p, A = some p → p.block ∉ S) : Rd w' A n c l :=
  ⟨h.len, h.cap, h.max, fun hn => by
    obtain ⟨b, o, e, hc⟩ := h.at_ hn
    refine ⟨b, o, e, fun j hj => ?_⟩
    have h1 := hc j hj
    have h2 := World.block_lt_of_cell? w _ h1
    exact (World.cell?_of_block (w := w) (a := ⟨b, o + j, none⟩) (hw.blk b h2 (hs hn ⟨b, o, none⟩ e))).trans h1⟩
theorem IsV.append {w w1 : World} {b g : Nat} {vc v1 : Value} {D : DS} {o : Obj} (h : IsV w b g vc D) (y : Pd) (hO : OwnP w1 0 D.n v1 (D.C.length + 1) (D.C ++ [y])) (hG : ((w.drew).alloc o).grownBy w1 vc.ownBlock)
    (hA : v1.ownBlock = vc.ownBlock ∨ v1.ownBlock = some ((w.drew).alloc o).heap.size) :
    (∀ j, w1.cell? ⟨b, j, none⟩ = w.cell? ⟨b, j, none⟩) ∧ (∀ j, w1.frozen? ⟨b, j, none⟩ = false) ∧ IsV (w1.setCell ⟨b, 1, none⟩ v1) b g v1 { D with C := D.C ++ [y] } ∧ Fr (dvS b g vc) (dvS b g v1) w (w1.setCell ⟨b, 1, none⟩ v1) ∧ Only (dvS b g vc) w w1 := by
  have hbl := lt_of_block h.dev.st
  have hgl := lt_of_block h.dev.med
  have hz : ((w.drew).alloc o).heap.size = w.heap.size + 1 := by simp
  have hold : ∀ k, k < w.heap.size → some k ≠ vc.ownBlock → w1.heap[k]? = w.heap[k]? := fun k hk hn => by
    rw [hG.block k (by omega) hn]
    exact Below.heap_alloc w.drew o k hk
  have hb1 := hold b hbl (fun e => (h.nb b e.symm).1 rfl)
  have hg1 := hold g hgl (fun e => (h.nb g e.symm).2 rfl)
  have hst := hb1.trans h.dev.st
  have hO1 : Only (dvS b g vc) w w1 := ⟨hG.os, hG.tape, hG.output, by have := hG.size; omega, fun k hk hs => hold k hk (fun e => hs (by simp [dvS, ← e]))⟩
  have hnew : ∀ k, v1.ownBlock = some k → vc.ownBlock = some k ∨ w.heap.size < k := fun k hk => by
    rcases hA with hA | hA
    · exact .inl (hA ▸ hk)
    · rw [hA, hz] at hk; injection hk with hk; exact .inr (by omega)
  have hnb : ∀ k, v1.ownBlock = some k → k ≠ b ∧ k ≠ g := fun k hk => by
    rcases hnew k hk with h1 | h1
    · exact h.nb k h1
    · exact ⟨by omega, by omega⟩
  have hS : Only [b] w1 (w1.setCell ⟨b, 1, none⟩ v1) := (Only.refl [b] w1).setCell (by simp) v1
  refine ⟨fun j => World.cell?_of_block (w := w) (a := ⟨b, j, none⟩) hb1, fun j => frozen_of_row w1 b j _ _ hst, ⟨⟨?_, ?_, h.dev.len, h.dev.ne, h.dev.small⟩, ?_, hnb⟩, ⟨hO1.trans (hS.mono (by simp [dvS])), ?_⟩, hO1⟩
  · rw [heap_setCell_same w1 b 1 _ _ v1 hst]; rfl
  · exact (hS.blk g (lt_of_block (hg1.trans h.dev.med)) (by simp; exact fun e => h.dev.ne e.symm)).trans (hg1.trans h.dev.med)
  · rw [show ({ D with C := D.C ++ [y] } : DS).C.length = D.C.length + 1 by simp]
    exact hO.keep hS (fun k hk => by simp; exact (hnb k hk).1)
  · intro k hk
    simp only [dvS, List.mem_cons, Option.mem_toList] at hk ⊢
    rcases hk with rfl | rfl | hk
    · simp
    · simp
    · rcases hnew k hk with h1 | h1
      · exact .inl (.inr (.inr h1))
      · exact .inr (by omega)
def wrD (D : DS) (num : Int) (L : List UInt8) : Int × DS :=
  if ¬ (0 ≤ num ∧ num < D.n) then (60, D) else if L.length ≠ 512 then (61, D) else
    if (actD D).1 = true then (0, { (actD D).2 with C := (actD D).2.C ++ [⟨num.toNat, L⟩], wr := (actD D).2.wr + 1 }) else (6, (actD D).2)
theorem dv_Write (w : World) (b g : Nat) (vc : Value) (D : DS) (num : Int) (A : Option Addr) (m c : Nat) (L : List UInt8) (h : IsV w b g vc D) (hr : Rd w A m c L)
    (hx : 0 < m → ∀ p, A = some p → p.block ∉ dvS b g vc) (hl : D.left < 9223372036854775808) (hq : D.C.length ≤ 100000000000) (hwr : D.wr < 9223372036854775807) :
    Calls Try.prog 51 #[.pointer (some ⟨b, 0, none⟩), .int .i64 num, .slice A m c] w fun e w' => e = .returned (.int .i64 (wrD D num L).1) ∧ ∃ vc', IsV w' b g vc' (wrD D num L).2 ∧ Fr (dvS b g vc) (dvS b g vc') w w' := by
  have HH := Lib.hid (dv_has w b g vc D num h)
  have HA := Lib.hid (dv_act w b g vc D hl h)
  have HV := Lib.hid h
  have HR := Lib.hid hr
  have HX := Lib.hid hx
  have hlen := hr.len
  have hmx := hr.max
  clear h hr hx
  by_cases h1 : 0 ≤ num ∧ num < (D.n : Int)
  · rw [decide_eq_true h1] at HH
    by_cases h2 : m = 512
    · subst h2
      obtain ⟨k, rfl⟩ : ∃ k : Nat, num = k := ⟨num.toNat, by omega⟩
      cases hact : (actD D).1 with
      | false =>
        have HW := Lib.hid (show wrD D k L = (6, (actD D).2) by unfold wrD; rw [if_neg (by simpa using h1), if_neg (by omega), if_neg (by simp [hact])])
        rw [hact] at HA
        rw [HW.out]
        clear hlen hact
        go_enter Try.func51, Try.ntmps51
        go_wp2_with fail
        refine HH.out.mono ?_
        rintro e w1 ⟨rfl, rfl⟩
        go_wp2_with fail
        refine HA.out.mono ?_
        rintro e w2 ⟨rfl, hV, hF⟩
        have HV2 := Lib.hid hV
        have HF2 := Lib.hid hF
        clear hV hF
        go_wp2
        go_ret
        exact ⟨rfl, vc, HV2.out, HF2.out⟩
      | true =>
        have HW := Lib.hid (show wrD D k L = (0, { (actD D).2 with C := (actD D).2.C ++ [⟨k, L⟩], wr := (actD D).2.wr + 1 }) by unfold wrD; rw [if_neg (by simpa using h1), if_neg (by omega), if_pos hact, Int.toNat_natCast])
        have HE := Lib.hid (show (actD D).2.C = D.C ∧ (actD D).2.wr = D.wr ∧ (actD D).2.n = D.n by
          unfold actD; split
          · exact ⟨rfl, rfl, rfl⟩
          · split
            · exact ⟨rfl, rfl, rfl⟩
            · split <;> exact ⟨rfl, rfl, rfl⟩)
        rw [hact] at HA
        rw [HW.out]
        obtain ⟨D2, hD2⟩ : ∃ D2, D2 = (actD D).2 := ⟨_, rfl⟩
        rw [← hD2] at HA HE ⊢
        clear hact hD2
        go_enter Try.func51, Try.ntmps51
        go_wp2_with fail
        refine HH.out.mono ?_
        rintro e w1 ⟨rfl, rfl⟩
        go_wp2_with fail
        refine HA.out.mono ?_
        rintro e w2 ⟨rfl, hV, hF⟩
        have HV2 := Lib.hid hV
        have HF2 := Lib.hid hF
        have c1 : w2.cell? ⟨b, 1, none⟩ = some vc := hV.dev.cell 1
        have hkn : k < D2.n := by have := HE.out.2.2; omega
        obtain ⟨bb, oo, rfl, hc⟩ := (HR.out.keepS hF.only HX.out).at_ (by omega)
        have hrg : w2.rangeAt bb oo (bv L) := fun j v hv => by
          have hj : j < 512 := by
            rcases Nat.lt_or_ge j 512 with h | h
            · exact h
            · rw [List.getElem?_eq_none (by rw [bv_length, hlen]; exact h)] at hv; cases hv
          rw [bv_get L j (by omega)] at hv
          rw [← hv]; exact hc j hj
        have hu78 := Try.underlying89
        have hi78 : (Try.prog.info? 89).map (·.size) = some (bv L).length := by rw [bv_length, hlen]; exact sz_blk
        have hbd := build_pd k L hlen
        have hbs := bslice_pd ⟨k, L⟩ hlen
        have hsa := fun W => sap W (some ⟨bb, oo, none⟩) c
        have hbl := hV.lt b (by simp [dvS])
        have c6 : w2.cell? ⟨b, 6, none⟩ = some (.int .i64 (D2.wr : Int)) := hV.dev.cell 6
        have HC2 := Lib.hid (fun o => (show OwnP (w2.drew.alloc o) 0 D2.n vc D2.C.length D2.C from ⟨hV.ca.1, World.ownsRow.alloc (w := w2.drew) hV.ca.2 o⟩))
        have hwb : (0 : Int) ≤ (D2.wr : Int) ∧ (D2.wr : Int) < 9223372036854775807 := by have := HE.out.2.1; omega
        clear hV hF hc
        have c1a : ∀ o, (w2.drew.alloc o).cell? ⟨b, 1, none⟩ = some vc := fun o => by
          have h9 : (w2.drew.alloc o).heap[b]? = w2.heap[b]? := Below.heap_alloc w2 o b hbl
          exact (World.cell?_of_block (w := w2) (a := ⟨b, 1, none⟩) h9).trans c1
        have hrga : ∀ o, (w2.drew.alloc o).rangeAt bb oo (bv L) := fun o j v hv => by
          have h8 := World.block_lt_of_cell? w2 _ (hrg j v hv)
          have h9 : (w2.drew.alloc o).heap[bb]? = w2.heap[bb]? := Below.heap_alloc w2 o bb h8
          exact (World.cell?_of_block (w := w2) (a := ⟨bb, oo + j, none⟩) h9).trans (hrg j v hv)
        have hrd : w2.drew.rangeAt bb oo (bv L) := hrg
        have hcd : w2.drew.cell? ⟨b, 1, none⟩ = some vc := c1
        go_wp2_with fail
        refine wp_region_z (fun w' => w'.rangeAt bb oo (bv L)) (fun w' => w'.cell? ⟨b, 1, none⟩ = some vc) 11 (by kernel_rfl) ?_
        refine wpAnyZ.takeN (i := 0) (v := .pointer (some ⟨b, 0, none⟩)) rfl (by kernel_rfl) (by kernel_rfl) (by kernel_rfl) (by decide) (fun _ _ _ h => h) (by rfl) (fun w => ?zy) hrd (fun _ => hcd) ?_
        case zy => go_simp
        simp only [Act.put, List.getElem_toArray, List.getElem_cons_zero, List.getElem_cons_succ, List.setIfInBounds_toArray, List.set_cons_zero, List.set_cons_succ]
        refine wpAnyZ.takeN (i := 1) (v := .pointer (some ⟨b, 0, none⟩)) rfl (by kernel_rfl) (by kernel_rfl) (by kernel_rfl) (by decide) (fun _ _ _ h => h) (by rfl) (fun w => ?zy) hrd (fun _ => hcd) ?_
        case zy => go_simp
        simp only [Act.put, List.getElem_toArray, List.getElem_cons_zero, List.getElem_cons_succ, List.setIfInBounds_toArray, List.set_cons_zero, List.set_cons_succ]
        refine wpAnyZ.takeN (i := 2) (v := .pointer (some ⟨b, 0, none⟩)) rfl (by kernel_rfl) (by kernel_rfl) (by kernel_rfl) (by decide) (fun _ _ _ h => h) (by rfl) (fun w => ?zy) hrd (fun _ => hcd) ?_
        case zy => go_simp
        simp only [Act.put, List.getElem_toArray, List.getElem_cons_zero, List.getElem_cons_succ, List.setIfInBounds_toArray, List.set_cons_zero, List.set_cons_succ]
        refine wpAnyZ.takeN (i := 3) (v := .pointer (some ⟨b, 1, none⟩)) rfl (by kernel_rfl) (by kernel_rfl) (by kernel_rfl) (by decide) (fun _ _ _ h => h) (by rfl) (fun w => ?zy) hrd (fun _ => hcd) ?_
        case zy => go_simp
        simp only [Act.put, List.getElem_toArray, List.getElem_cons_zero, List.getElem_cons_succ, List.setIfInBounds_toArray, List.set_cons_zero, List.set_cons_succ]
        refine wpAnyZ.take (i := 4) (v := vc) (U := fun w' => w'.cell? ⟨b, 1, none⟩ = some vc) rfl (by kernel_rfl) (by kernel_rfl) (by kernel_rfl) (by decide) (fun _ _ _ h => h) (.inr ⟨fun _ h => h, by kernel_rfl⟩) (.inl (by kernel_rfl)) (.inl ⟨by rfl, fun w hw => ?zy⟩) hcd hrd (fun _ => hcd) ?_
        case zy => (dsimp only at hw; go_simp)
        simp only [Act.put, List.getElem_toArray, List.getElem_cons_zero, List.getElem_cons_succ, List.setIfInBounds_toArray, List.set_cons_zero, List.set_cons_succ]
        refine wpAnyZ.takeN (i := 5) (v := .int .i64 (k : Int)) rfl (by kernel_rfl) (by kernel_rfl) (by kernel_rfl) (by decide) (fun _ _ _ h => h) (by rfl) (fun w => ?zy) hrd (fun _ => hcd) ?_
        case zy => go_simp
        simp only [Act.put, List.getElem_toArray, List.getElem_cons_zero, List.getElem_cons_succ, List.setIfInBounds_toArray, List.set_cons_zero, List.set_cons_succ]
        refine wpAnyZ.takeN (i := 6) (v := .slice (some ⟨bb, oo, none⟩) 512 c) rfl (by kernel_rfl) (by kernel_rfl) (by kernel_rfl) (by decide) (fun _ _ _ h => h) (by rfl) (fun w => ?zy) hrd (fun _ => hcd) ?_
        case zy => go_simp
        simp only [Act.put, List.getElem_toArray, List.getElem_cons_zero, List.getElem_cons_succ, List.setIfInBounds_toArray, List.set_cons_zero, List.set_cons_succ]
        refine wpAnyZ.takeN (i := 7) (v := .pointer (some ⟨bb, oo, none⟩)) rfl (by kernel_rfl) (by kernel_rfl) (by kernel_rfl) (by decide) (fun _ _ _ h => h) (by rfl) (fun w => ?zy) hrd (fun _ => hcd) ?_
        case zy => go_simp
        simp only [Act.put, List.getElem_toArray, List.getElem_cons_zero, List.getElem_cons_succ, List.setIfInBounds_toArray, List.set_cons_zero, List.set_cons_succ]
        refine wpAnyZ.take (i := 8) (v := .agg (bv L).toArray) (U := fun w' => w'.rangeAt bb oo (bv L)) rfl (by kernel_rfl) (by kernel_rfl) (by kernel_rfl) (by decide) (fun _ _ _ h => h) (.inl fun _ h => h) (.inr fun _ h => h) (yieldsIf_load_mid (by rfl) _ _ rfl bb oo rfl (bv L) _ (fun _ h => h) hu78 rfl hi78) hrd hrd (fun _ => hcd) ?_
        simp only [Act.put, List.getElem_toArray, List.getElem_cons_zero, List.getElem_cons_succ, List.setIfInBounds_toArray, List.set_cons_zero, List.set_cons_succ]
        refine wpAnyZ.takeN (i := 9) (v := .agg (pc ⟨k, L⟩).toArray) rfl (by kernel_rfl) (by kernel_rfl) (by kernel_rfl) (by decide) (fun _ _ _ h => h) (by rfl) (fun w => ?zy) hrd (fun _ => hcd) ?_
        case zy => exact exec_build 105 (.tmp 25) (.tmp 28) _ _ _ rfl rfl rfl (hbd w)
        simp only [Act.put, List.getElem_toArray, List.getElem_cons_zero, List.getElem_cons_succ, List.setIfInBounds_toArray, List.set_cons_zero, List.set_cons_succ]
        refine wpAnyZ.one (i := 10) (E := False) (by kernel_rfl) rfl (by rfl) ?_
        refine step_bslice 84 1 (.tmp 29) (.agg (pc ⟨k, L⟩).toArray) _ _ rfl rfl rfl (hbs _) ?_
        refine ⟨⟨hrga _, fun _ => c1a _⟩, ?_⟩
        simp only [Act.put, List.getElem_toArray, List.getElem_cons_zero, List.getElem_cons_succ, List.setIfInBounds_toArray, List.set_cons_zero, List.set_cons_succ]
        refine wpAnyZ.one (i := 11) (E := False) (by kernel_rfl) rfl (by rfl) ?_
        refine step_appP (W := w2.drew.alloc (.cells (pc ⟨k, L⟩).toArray 105)) D2.n ⟨k, L⟩ (q := D2.C.length) (C := D2.C) (v := vc) (HC2.out _) hkn hlen w2.heap.size (heap_alloc_new w2.drew _) (by have := HE.out.1; rw [this]; omega) _ _ rfl rfl rfl rfl ?_
        intro v1 x1 hO1 hG1 hA1
        obtain ⟨A1, q1, rfl⟩ := hO1.slice
        have HP := Lib.hid (HV2.out.append ⟨k, L⟩ hO1 hG1 hA1)
        have k1 := (HP.out.1 1).trans c1
        have k6 := (HP.out.1 6).trans c6
        have f1 := HP.out.2.1 1
        have f6 := HP.out.2.1 6
        have kr : x1.rangeAt bb oo (bv L) := fun j v hv => (World.cell?_of_block (w := w2) (a := ⟨bb, oo + j, none⟩) (HP.out.2.2.2.2.blk bb (World.block_lt_of_cell? w2 _ (hrg j v hv)) (HX.out (by omega) ⟨bb, oo, none⟩ rfl))).trans (hrg j v hv)
        have kr2 : (x1.setCell ⟨b, 1, none⟩ (.slice A1 (D2.C.length + 1) q1)).rangeAt bb oo (bv L) := fun j v hv => (World.cell?_of_block (w := x1) (a := ⟨bb, oo + j, none⟩) (heap_setCell_other x1 _ bb _ (fun e => HX.out (by omega) ⟨bb, oo, none⟩ rfl (by rw [e]; simp [dvS])))).trans (kr j v hv)
        clear hO1 hG1 hA1
        refine ⟨⟨kr, fun h => ?zf⟩, ?_⟩
        case zf => (have h9 : (true : Bool) = false := h; cases h9)
        simp only [Act.put, List.getElem_toArray, List.getElem_cons_zero, List.getElem_cons_succ, List.setIfInBounds_toArray, List.set_cons_zero, List.set_cons_succ]
        refine wpAnyZ.takeN (i := 12) (v := .pointer (some ⟨b, 0, none⟩)) rfl (by kernel_rfl) (by kernel_rfl) (by kernel_rfl) (by decide) (fun _ _ _ h => h) (by rfl) (fun w => ?zy) kr (fun h => ?zf) ?_
        case zy => go_simp
        case zf => (have h9 : (true : Bool) = false := h; cases h9)
        simp only [Act.put, List.getElem_toArray, List.getElem_cons_zero, List.getElem_cons_succ, List.setIfInBounds_toArray, List.set_cons_zero, List.set_cons_succ]
        refine wpAnyZ.takeN (i := 13) (v := .pointer (some ⟨b, 1, none⟩)) rfl (by kernel_rfl) (by kernel_rfl) (by kernel_rfl) (by decide) (fun _ _ _ h => h) (by rfl) (fun w => ?zy) kr (fun h => ?zf) ?_
        case zy => go_simp
        case zf => (have h9 : (true : Bool) = false := h; cases h9)
        simp only [Act.put, List.getElem_toArray, List.getElem_cons_zero, List.getElem_cons_succ, List.setIfInBounds_toArray, List.set_cons_zero, List.set_cons_succ]
        refine wpAnyZ.one (i := 14) (E := False) (by kernel_rfl) rfl (by rfl) ?_
        rw [if_pos (by rfl)]
        clear hbd hbs hsa hrga c1a hu78 hi78 hcd
        go_simp
        refine wpAnyZ.done (by kernel_rfl) ?_ _
        go_wp2
        go_ret
        have HS := HP.out.2.2.1.store 6 (.int .i64 ((D2.wr : Int) + 1)) { n := D2.n, M := D2.M, C := D2.C ++ [⟨k, L⟩], left := D2.left, armed := D2.armed, down := D2.down, rd := D2.rd, wr := D2.wr + 1, fl := D2.fl } rfl rfl rfl (by simp)
        exact ⟨rfl, _, HS.1, HF2.out.trans (HP.out.2.2.2.1.trans HS.2)⟩
    · have HW := Lib.hid (show wrD D num L = (61, D) by unfold wrD; rw [if_neg (by simpa using h1), if_pos (by omega)])
      have e1 : ((m : Int) == 512) = false := by simp; omega
      rw [HW.out]
      clear hlen h2
      go_enter Try.func51, Try.ntmps51
      go_wp2_with fail
      refine HH.out.mono ?_
      rintro e w1 ⟨rfl, rfl⟩
      go_wp2
      go_ret
      exact ⟨rfl, vc, HV.out, Fr.refl _ _⟩
  · rw [decide_eq_false h1] at HH
    have HW := Lib.hid (show wrD D num L = (60, D) by unfold wrD; rw [if_pos h1])
    rw [HW.out]
    clear hlen h1
    go_enter Try.func51, Try.ntmps51
    go_wp2_with fail
    refine HH.out.mono ?_
    rintro e w1 ⟨rfl, rfl⟩
    go_wp2
    go_ret
    exact ⟨rfl, vc, HV.out, Fr.refl _ _⟩
end Go.Proofs.Ytggoaelbglhehaa
/- The device's copied, Raw: a block's bytes as new memory. -/
set_option linter.unusedVariables false
set_option linter.unusedSimpArgs false
set_option maxRecDepth 100000
namespace Go.Proofs.Ytggoaelbglhehaa
open Go.RowKit
theorem mk512 (W : World) : (Instr.makeSlice 26 (.int .i64 512) (.int .i64 512)).run Try.prog W = .ok (.slice (some ⟨W.heap.size, 0, none⟩) 512 512) (W.alloc (.cells (zc 512) 5)) := mk_u8 512 512 (by omega) (by omega) W
theorem Own.row {W : World} {base g n : Nat} {l : List UInt8} (hb : base ≤ g) (hl : l.length = n) (hm : n ≤ 140737490452480) (h : W.heap[g]? = some (.cells (bv l).toArray 5 (0, 0))) : Own W base (.slice (some ⟨g, 0, none⟩) n n) n l :=
  ⟨by rw [bv_length, hl, Nat.mul_one], .inr ⟨g, n, _, rfl, hb, h, Nat.le_refl _, by simp only [maxLen]; omega, by rw [List.size_toArray, bv_length, hl, Nat.mul_one], by rw [Nat.mul_one, List.take_of_length_le (by simp [bv_length, hl])]⟩⟩
/-- new memory that holds L -/
def NewB (w : World) (u : Value) (L : List UInt8) (w' : World) : Prop := ∃ k, u = .slice (some ⟨k, 0, none⟩) 512 512 ∧ Own w' w.heap.size u 512 L ∧ Below w.heap.size w w'
theorem dv_copied (w : World) (g off : Nat) (D : List UInt8) (hl : D.length = 512) (hc : w.rangeAt g off (bv D)) :
    Calls Try.prog 64 #[.pointer (some ⟨g, off, none⟩)] w fun e w' => ∃ u, e = .returned u ∧ NewB w u D w' := by
  have hmk := mk512
  have hbl := bv_length D
  have HL := Lib.hid hl
  have hgl : g < w.heap.size := by
    have h0 := hc 0 _ (bv_get D 0 (by omega))
    exact World.block_lt_of_cell? w _ h0
  have HC := Lib.hid (show ∀ j v, (bv D)[j]? = some v → (w.alloc (.cells (zc 512) 5)).cell? ((⟨g, off, none⟩ : Addr).add j) = some v from fun j v hv => by
    rw [Addr.add_mid]
    exact (World.cell?_of_block (w := w) (a := ⟨g, off + j, none⟩) (Below.heap_alloc w _ g hgl)).trans (hc j v hv))
  have hcp := run_copy_row (P := Try.prog) (w.alloc (.cells (zc 512) 5)) 26 26 3 5 w.heap.size 0 512 512 ⟨g, off, none⟩ 512 512 (zc 512) 5 (bv D) Try.underlying26 sz_u8 (heap_alloc_new w _) (by rw [bv_length, hl]; decide) HC.out (by rw [bv_length, hl]; simp [zc, size_madeCells]) (bv_one _)
  have he : ((zc 512).toList.take 0 ++ bv D ++ (zc 512).toList.drop (0 + (bv D).length)).toArray = (bv D).toArray := by
    rw [bv_length, hl, List.take_zero, List.nil_append, List.drop_eq_nil_of_le (by simp [zc, size_madeCells]), List.append_nil]
  rw [he] at hcp
  have HSR := Lib.hid (setRow_heap (w.alloc (.cells (zc 512) 5)) w.heap.size _ (bv D).toArray 5 (0, 0) (heap_alloc_new w _))
  clear hc hl he
  go_enter Try.func64, Try.ntmps64
  go_wp2
  go_ret
  refine ⟨_, rfl, w.heap.size, rfl, ?_, below_setRow ((Below.refl _ w).alloc (Nat.le_refl _) _) (Nat.le_refl _) _⟩
  exact Own.row (Nat.le_refl _) HL.out (by omega) HSR.out
/-- a block of the medium -/
def blkM (M : List UInt8) (k : Nat) : List UInt8 := (M.drop (k * 512)).take 512
theorem IsV.med {w : World} {b g : Nat} {vc : Value} {D : DS} (h : IsV w b g vc D) (k : Nat) (hk : k < D.n) : w.rangeAt g (k * 512) (bv (blkM D.M k)) ∧ (blkM D.M k).length = 512 := by
  have hl := h.dev.len
  have h5 : (blkM D.M k).length = 512 := by unfold blkM; rw [List.length_take, List.length_drop, hl]; omega
  refine ⟨fun j v hv => ?_, h5⟩
  have hj : j < 512 := by
    rcases Nat.lt_or_ge j 512 with h | h
    · exact h
    · rw [List.getElem?_eq_none (by rw [bv_length, h5]; exact h)] at hv; cases hv
  rw [cell_of_row w g (k * 512 + j) _ _ _ h.dev.med]
  rw [List.getElem?_toArray, bv_get _ _ (by rw [hl]; omega), ← hv, bv_get _ _ (by rw [h5]; exact hj)]
  congr 3
  unfold blkM
  simp [List.getD_eq_getElem?_getD, hj]
def rawD (D : DS) (num : Int) : List UInt8 := blkM D.M num.toNat
end Go.Proofs.Ytggoaelbglhehaa
/- Walks of sum's and the reference's small functions: turned, step, product, times, moved, zeros. For every input. -/
set_option linter.unusedVariables false
set_option linter.unusedSimpArgs false
namespace Go.Proofs.Ytggoaelbglhehaa
open Go.RowKit SumMath
theorem sum_turned (b : BitVec 32) (w : World) :
    Calls Try.prog 72 #[.int .u32 b.toNat] w fun e w' => e = .returned (.int .u32 (T b).toNat) ∧ w = w' := by
  have h1 := b.isLt
  generalize hx : (b.toNat : Int) = x
  have hl : 0 ≤ x ∧ x < 4294967296 := by omega
  have H := Lib.hid hx; clear hx h1
  obtain ⟨h0, h1⟩ := hl
  go_enter Try.func72, Try.ntmps72
  go_wp2
  · go_ret
    exact ⟨ret_u32 (turned_yes H.out.symm ‹_›), rfl⟩
  · go_ret
    exact ⟨ret_u32 (turned_no H.out.symm ‹_›), rfl⟩
theorem ref_step (b : BitVec 32) (w : World) :
    Calls Try.prog 73 #[.int .u32 b.toNat] w fun e w' => e = .returned (.int .u32 (T b).toNat) ∧ w = w' := by
  have h1 := b.isLt
  generalize hx : (b.toNat : Int) = x
  have hl : 0 ≤ x ∧ x < 4294967296 := by omega
  have H := Lib.hid hx; clear hx h1
  obtain ⟨h0, h1⟩ := hl
  go_enter Try.func73, Try.ntmps73
  go_wp2
  · go_ret
    exact ⟨ret_u32 (step_yes H.out.symm ‹_›), rfl⟩
  · go_ret
    exact ⟨ret_u32 (step_no H.out.symm ‹_›), rfl⟩

theorem Tn_succ' (i : Nat) (b : BitVec 32) : T (Tn i b) = Tn (i + 1) b := T_Tn i b
theorem i64_and1 (r : Nat) (h : r < 9223372036854775808) : bits .and .i64 (r : Int) 1 = ((r % 2 : Nat) : Int) := by
  have h2 := bits_mask .i64 63 (by decide) (by intro n h0 h1; rw [IntKind.wrap_i64]; omega) 1 (by decide) (r : Int) (by omega) (by omega)
  simp at h2
  rw [h2]; omega
theorem mv_odd {s r n : Nat} {x a : BitVec 32} (h : Tn (s * r) x = Tn (8 * n) a) (ho : r % 2 = 1) : Tn (s * 2 * (r / 2)) (Tn s x) = Tn (8 * n) a := by
  rw [← Tn_add, ← h]; congr 1
  obtain ⟨q, rfl⟩ : ∃ q, r = 2 * q + 1 := ⟨r / 2, by omega⟩
  rw [show (2 * q + 1) / 2 = q by omega, Nat.mul_add, Nat.mul_assoc, Nat.mul_one]
theorem mv_even {s r n : Nat} {x a : BitVec 32} (h : Tn (s * r) x = Tn (8 * n) a) (ho : r % 2 = 0) : Tn (s * 2 * (r / 2)) x = Tn (8 * n) a := by
  rw [← h]; congr 1
  obtain ⟨q, rfl⟩ : ∃ q, r = 2 * q := ⟨r / 2, by omega⟩
  rw [show (2 * q) / 2 = q by omega, Nat.mul_assoc]
theorem pow_sq (s : Nat) : pr (Tn s e0) (Tn s e0) 32 = Tn (s * 2) e0 := by rw [pr_pow, ← Tn_add, Nat.mul_two]
end Go.Proofs.Ytggoaelbglhehaa
/- The walk of the reference's over. For every slice of bytes. -/
set_option linter.unusedVariables false
set_option linter.unusedSimpArgs false
namespace Go.Proofs.Ytggoaelbglhehaa
open Go.RowKit SumMath
theorem ref_over (x : BitVec 32) (A : Option Addr) (n c : Nat) (l : List UInt8) (w : World) (hr : Rd w A n c l) :
    Calls Try.prog 71 #[.int .u32 x.toNat, .slice A n c] w fun e w' => e = .returned (.int .u32 (ov x l).toNat) ∧ w = w' := by
  have hm := hr.max
  have HL := Lib.hid hr.len
  have HA := Lib.hid hr.at_
  clear hr
  go_enter Try.func71, Try.ntmps71
  go_wp2
  go_loop [0, 5, 6] (fun v i _ => ∃ k : Nat, k ≤ n ∧ v = .int .u32 (ov x (l.take k)).toNat ∧ i = .int .i64 k) (fun _ i _ => n - (intOf i).toNat)
  case atStart => exact ⟨0, by omega, rfl, rfl⟩
  case round =>
    obtain ⟨k, hk, rfl, rfl⟩ := hrel
    by_cases hlt : k < n
    · obtain ⟨b, o, rfl, hc⟩ := HA.out (by omega)
      have hcell := hc k hlt
      clear hc
      have h8 := (l.getD k 0).toNat_lt
      have HX := Lib.hid (xor_byte (ov x (l.take k)) (l.getD k 0))
      have HT := Lib.hid (take_snoc l k 0 (by rw [HL.out]; exact hlt))
      generalize l.getD k 0 = cc at *
      go_wp2
      go_loop [0, 6] (fun v j => ∃ i : Nat, i ≤ 8 ∧ v = .int .u32 (Tn i (ov x (l.take k) ^^^ BitVec.ofNat 32 cc.toNat)).toNat ∧ j = .int .i64 i) (fun _ j => 8 - (intOf j).toNat)
      case atStart => exact ⟨0, by omega, iv (by rw [HX.out]; rfl), rfl⟩
      case round =>
        obtain ⟨i, hi, rfl, rfl⟩ := hrel
        by_cases h8' : i < 8
        · go_wp2_with (go_at_call 73; refine (ref_step _ _).mono ?_; rintro e w' ⟨rfl, rfl⟩)
          refine ⟨⟨i + 1, by omega, iv (by rw [Tn_succ']), by go_num⟩, by simp [intOf]; omega⟩
        · obtain rfl : i = 8 := by omega
          go_wp2
          refine ⟨⟨k + 1, by omega, iv (by rw [HT.out, ov_snoc]; rfl), by go_num⟩, by simp [intOf]; omega⟩
    · go_wp2
      go_ret
      exact ⟨ret_u32 (by rw [List.take_of_length_le (by rw [HL.out]; omega)]), rfl⟩
end Go.Proofs.Ytggoaelbglhehaa
/- The walk of sum's halves: the table of half bytes. -/
set_option linter.unusedVariables false
set_option linter.unusedSimpArgs false
namespace Go.Proofs.Ytggoaelbglhehaa
open Go.RowKit SumMath
/-- the table of half bytes, as far as it is filled -/
def tabV (k : Nat) : Array Value := ((List.range 16).map fun i => Value.int .u32 (if i < k then ((Tn 4 (BitVec.ofNat 32 i)).toNat : Int) else 0)).toArray
theorem tabV_size (k : Nat) : (tabV k).size = 16 := by simp [tabV]
theorem tabV_get (k j : Nat) (hj : j < 16) : (tabV k)[j]? = some (.int .u32 (if j < k then ((Tn 4 (BitVec.ofNat 32 j)).toNat : Int) else 0)) := by
  simp [tabV, hj]
theorem tabV_set (k : Nat) (hk : k < 16) : (tabV k).setIfInBounds k (.int .u32 ((Tn 4 (BitVec.ofNat 32 k)).toNat : Int)) = tabV (k + 1) := by
  apply Array.ext_getElem?
  intro j
  by_cases hj : j < 16
  · rw [Array.getElem?_setIfInBounds, tabV_get _ j hj, tabV_get _ j hj]
    by_cases e : k = j
    · subst e; simp [tabV_size, hk]
    · rw [if_neg e]
      have : (j < k) ↔ (j < k + 1) := by omega
      simp only [this]
  · rw [Array.getElem?_eq_none (by simp [tabV_size]; omega), Array.getElem?_eq_none (by simp [tabV_size]; omega)]
theorem tabV_one (k : Nat) : (tabV k).all (·.oneCell') = true := by
  simp [tabV]
  intro x _
  rfl
theorem tab0_lit : tabV 0 = #[.int .u32 0, .int .u32 0, .int .u32 0, .int .u32 0, .int .u32 0, .int .u32 0, .int .u32 0, .int .u32 0, .int .u32 0, .int .u32 0, .int .u32 0, .int .u32 0, .int .u32 0, .int .u32 0, .int .u32 0, .int .u32 0] := by rfl
structure HRel (w wr : World) (k : Nat) : Prop where
  below : Below w.heap.size w wr
  size : w.heap.size + 1 < wr.heap.size
  tab : wr.heap[w.heap.size + 1]? = some (.cells (tabV k) 112 (0, 0))
  res : wr.heap[w.heap.size]? = some (.cells (tabV 0) 112 (0, 0))
theorem HRel.start (w : World) : HRel w ((w.alloc (.cells (tabV 0) 112)).alloc (.cells (tabV 0) 112)) 0 :=
  ⟨(((Below.refl _ w).alloc (Nat.le_refl _) _).alloc (by simp) _), by simp, heap_alloc2_new _ _ _, heap_alloc2_old _ _ _⟩
theorem HRel.step {w wr : World} {k : Nat} (h : HRel w wr k) (hk : k < 16) (v : Value) (hv : v = .int .u32 ((Tn 4 (BitVec.ofNat 32 k)).toNat : Int)) : HRel w (wr.setCell ⟨w.heap.size + 1, k, none⟩ v) (k + 1) := by
  subst hv
  refine ⟨h.below.setCell (by simp) _, by simpa using h.size, ?_, ?_⟩
  · rw [heap_setCell_same _ _ _ _ _ _ h.tab, tabV_set k hk]
  · rw [heap_setCell_other _ _ _ _ (by simp)]; exact h.res
theorem sum_halves (w : World) :
    Calls Try.prog 70 #[] w fun e w' => e = .returned (.agg (tabV 16)) ∧ Below w.heap.size w w' := by
  go_enter Try.func70, Try.ntmps70
  go_wp2_with fail
  go_loopw [2, 3, 4, 9] (fun _ _ i _ wr => ∃ k : Nat, k ≤ 16 ∧ i = .int .i64 k ∧ HRel w wr k) (fun _ _ i _ _ => 16 - (intOf i).toNat)
  case atStart => exact ⟨0, by omega, rfl, HRel.start w⟩
  case round =>
    obtain ⟨k, hk, rfl, hR⟩ := hrel
    have HR := Lib.hid hR
    by_cases hlt : k < 16
    · have hcell := cell_of_row wr (w.heap.size + 1) k _ _ _ hR.tab
      rw [tabV_get k k hlt] at hcell
      have hfr := frozen_of_row wr (w.heap.size + 1) k _ _ hR.tab
      clear hR
      have hd : decide ((k : Int) < 16) = true := by simp; omega
      have hkk : (k : Int) = ((BitVec.ofNat 32 k).toNat : Int) := by rw [BitVec.toNat_ofNat, Nat.mod_eq_of_lt (by omega)]
      have HK := Lib.hid hkk; clear hkk
      go_wp2_with fail
      go_loop [3, 9] (fun v i => ∃ j : Nat, j ≤ 4 ∧ v = .int .u32 (Tn j (BitVec.ofNat 32 k)).toNat ∧ i = .int .i64 j) (fun _ i => 4 - (intOf i).toNat)
      case atStart => exact ⟨0, by omega, iv (by rw [HK.out]; rfl), rfl⟩
      case round =>
        obtain ⟨j, hj, rfl, rfl⟩ := hrel
        by_cases hj4 : j < 4
        · go_wp2_with (go_at_call 72; refine (sum_turned _ _).mono ?_; rintro e w' ⟨rfl, rfl⟩)
          refine ⟨⟨j + 1, by omega, iv (by rw [Tn_succ']), by go_num⟩, by simp [intOf]; omega⟩
        · obtain rfl : j = 4 := by omega
          go_wp2_with fail
          go_roundw
          case rel => exact ⟨k + 1, by omega, by go_num, HR.out.step hlt _ rfl⟩
          case measure => simp [intOf]; omega
    · obtain rfl : k = 16 := by omega
      have ht : wr.there w.heap.size 0 (tabV 16).size := by
        have := there_of_row hR.res
        rwa [tabV_size] at this ⊢
      have hres : (wr.setCells w.heap.size 0 (tabV 16).toList).heap[w.heap.size]? = some (.cells (tabV 16) 112 (0, 0)) := by
        rw [heap_setCells_at _ _ _ _ _ _ hR.res, splc_all _ _ (by rw [Array.length_toList, tabV_size, tabV_size])]
      go_wp2_with (first | (refine wpList_load_row rfl _ _ rfl (w.heap.size + 1) rfl _ _ _ _ hR.tab Try.underlying112 rfl (by rw [tabV_size]; kernel_rfl) ?_) | (refine wpList_store_mid rfl _ _ _ rfl w.heap.size 0 (tabV 16) rfl rfl ht (by rw [tabV_size]; kernel_rfl) (tabV_one 16) ?_))
      exact bodyPost_ret (v := .agg (tabV 16)) (results_cell_row rfl _ _ w.heap.size _ _ _ _ rfl hres Try.underlying112 rfl (by rw [tabV_size]; kernel_rfl)) rfl ⟨rfl, below_setCells (Nat.le_refl _) _ _ hR.below⟩
end Go.Proofs.Ytggoaelbglhehaa
/- The walk of sum's over. For every slice of bytes. -/
set_option linter.unusedVariables false
set_option linter.unusedSimpArgs false
namespace Go.Proofs.Ytggoaelbglhehaa
open Go.RowKit SumMath
set_option maxHeartbeats 400000 in
theorem sum_over (x : BitVec 32) (A : Option Addr) (n c : Nat) (l : List UInt8) (w : World) (hr : Rd w A n c l) :
    Calls Try.prog 61 #[.int .u32 x.toNat, .slice A n c] w fun e w' => e = .returned (.int .u32 (ov x l).toNat) ∧ Below w.heap.size w w' := by
  have hm := hr.max
  have HR := Lib.hid hr
  clear hr
  go_enter Try.func61, Try.ntmps61
  go_wp2_with fail
  refine (sum_halves w).mono ?_
  rintro e w1 ⟨rfl, hb1⟩
  have ht : (w1.alloc (.cells (tabV 0) 112)).there w1.heap.size 0 (tabV 16).size := by
    have := there_of_row (heap_alloc_new w1 (.cells (tabV 0) 112))
    rwa [tabV_size] at this ⊢
  have hW : ∃ W, W = (w1.alloc (.cells (tabV 0) 112)).setCells w1.heap.size 0 (tabV 16).toList := ⟨_, rfl⟩
  obtain ⟨W, hW⟩ := hW
  have hbW : Below w.heap.size w W := by rw [hW]; exact below_setCells hb1.size _ _ (hb1.alloc hb1.size _)
  have htab : W.heap[w1.heap.size]? = some (.cells (tabV 16) 112 (0, 0)) := by
    rw [hW, heap_setCells_at _ _ _ _ _ _ (heap_alloc_new _ _), splc_all _ _ (by rw [Array.length_toList, tabV_size, tabV_size])]
  have HW := Lib.hid hW
  clear hW
  have HRW := Lib.hid (HR.out.ext hbW)
  have HB := Lib.hid hbW
  have HT := Lib.hid htab
  have Hth := Lib.hid ht
  clear hbW htab ht
  go_wp2_with (first | (refine wpList_store_mid rfl _ _ _ rfl w1.heap.size 0 (tabV 16) rfl rfl Hth.out (by rw [tabV_size]; kernel_rfl) (tabV_one 16) ?_; rw [← tab0_lit, ← HW.out]))
  go_loop [0, 7, 11] (fun v _ i => ∃ k : Nat, k ≤ n ∧ v = .int .u32 (ov x (l.take k)).toNat ∧ i = .int .i64 k) (fun _ _ i => n - (intOf i).toNat)
  case atStart => exact ⟨0, by omega, rfl, rfl⟩
  case round =>
    obtain ⟨k, hk, rfl, rfl⟩ := hrel
    by_cases hlt : k < n
    · obtain ⟨b, o, rfl, hc⟩ := HRW.out.at_ (by omega)
      have hcell := hc k hlt
      clear hc
      have h8 := (l.getD k 0).toNat_lt
      have HS := Lib.hid (take_snoc l k 0 (by rw [HR.out.len]; exact hlt))
      generalize l.getD k 0 = cc at *
      obtain ⟨y, hy⟩ : ∃ y, y = ov x (l.take k) := ⟨_, rfl⟩
      obtain ⟨x1, hx1⟩ : ∃ x1, x1 = y ^^^ BitVec.ofNat 32 cc.toNat := ⟨_, rfl⟩
      obtain ⟨x2, hx2⟩ : ∃ x2, x2 = Tn 4 x1 := ⟨_, rfl⟩
      obtain ⟨x3, hx3⟩ : ∃ x3, x3 = Tn 4 x2 := ⟨_, rfl⟩
      have r1 := xor_byte y cc
      have r2 := nib_and x1
      have r3 := cell_of_row W w1.heap.size (x1.toNat % 16) _ _ _ HT.out
      rw [tabV_get 16 _ (Nat.mod_lt _ (by decide)), if_pos (Nat.mod_lt _ (by decide))] at r3
      have r4 := nib_xor x1
      have r5 := nib_and x2
      have r6 := cell_of_row W w1.heap.size (x2.toNat % 16) _ _ _ HT.out
      rw [tabV_get 16 _ (Nat.mod_lt _ (by decide)), if_pos (Nat.mod_lt _ (by decide))] at r6
      have r7 := nib_xor x2
      have g1 : x1.toNat % 16 < 16 := Nat.mod_lt _ (by decide)
      have g2 : x2.toNat % 16 < 16 := Nat.mod_lt _ (by decide)
      have l1 := x1.isLt
      have l2 := x2.isLt
      rw [← hx1] at r1
      rw [← hx2] at r4
      rw [← hx3] at r7
      rw [← hy]
      generalize x1.toNat % 16 = j1 at *
      generalize x2.toNat % 16 = j2 at *
      generalize Tn 4 (BitVec.ofNat 32 j1) = t1 at *
      generalize Tn 4 (BitVec.ofNat 32 j2) = t2 at *
      have HY := Lib.hid hy
      have HX1 := Lib.hid hx1
      have HX2 := Lib.hid hx2
      have HX3 := Lib.hid hx3
      clear hy hx1 hx2 hx3
      go_wp2
      refine ⟨⟨k + 1, by omega, iv (by rw [HS.out, ov_snoc, ← HY.out, ← by1_two, ← HX1.out, ← HX2.out, ← HX3.out]), by go_num⟩, by simp [intOf]; omega⟩
    · go_wp2
      go_ret
      exact ⟨ret_u32 (by rw [List.take_of_length_le (by rw [HR.out.len]; omega)]), HB.out⟩
end Go.Proofs.Ytggoaelbglhehaa
/- Walks of Update and Sum, the program's and the reference's. -/
set_option linter.unusedVariables false
set_option linter.unusedSimpArgs false
namespace Go.Proofs.Ytggoaelbglhehaa
open Go.RowKit SumMath
theorem sum_Update (x : BitVec 32) (A : Option Addr) (n c : Nat) (l : List UInt8) (w : World) (hr : Rd w A n c l) :
    Calls Try.prog 40 #[.int .u32 x.toNat, .slice A n c] w fun e w' => e = .returned (.int .u32 (crc x l).toNat) ∧ Below w.heap.size w w' := by
  have HR := Lib.hid hr
  have r1 := ones_xor x
  obtain ⟨y, hy⟩ : ∃ y, y = ~~~x := ⟨_, rfl⟩
  have HE := Lib.hid (show crc x l = ~~~ (ov y l) by rw [hy]; rfl)
  rw [← hy] at r1
  have r2 := Lib.hid (ones_xor (ov y l))
  have hs : IntKind.u32.signed = false := rfl
  have hx : IntKind.u32.max = 4294967295 := rfl
  clear hr hy
  go_enter Try.func40, Try.ntmps40
  go_wp2_with (go_at_call 61; refine (sum_over _ _ _ _ _ _ HR.out).mono ?_; rintro e w' ⟨rfl, hb⟩)
  go_ret
  exact ⟨ret_u32 (by rw [HE.out]; exact r2.out), hb⟩
theorem ref_Update (x : BitVec 32) (A : Option Addr) (n c : Nat) (l : List UInt8) (w : World) (hr : Rd w A n c l) :
    Calls Try.prog 63 #[.int .u32 x.toNat, .slice A n c] w fun e w' => e = .returned (.int .u32 (crc x l).toNat) ∧ w = w' := by
  have HR := Lib.hid hr
  have r1 := ones_xor x
  obtain ⟨y, hy⟩ : ∃ y, y = ~~~x := ⟨_, rfl⟩
  have HE := Lib.hid (show crc x l = ~~~ (ov y l) by rw [hy]; rfl)
  rw [← hy] at r1
  have r2 := Lib.hid (ones_xor (ov y l))
  clear hr hy
  go_enter Try.func63, Try.ntmps63
  go_wp2_with (go_at_call 71; refine (ref_over _ _ _ _ _ _ HR.out).mono ?_; rintro e w' ⟨rfl, rfl⟩)
  go_ret
  exact ⟨ret_u32 (by rw [HE.out]; exact r2.out), rfl⟩
theorem ref_Sum (A : Option Addr) (n c : Nat) (l : List UInt8) (w : World) (hr : Rd w A n c l) :
    Calls Try.prog 62 #[.slice A n c] w fun e w' => e = .returned (.int .u32 (crc 0#32 l).toNat) ∧ w = w' := by
  have HR := Lib.hid hr
  have HE := Lib.hid (show crc 0#32 l = ~~~ (ov (4294967295#32) l) from rfl)
  clear hr
  go_enter Try.func62, Try.ntmps62
  go_wp2_with (go_at_call 71; refine (ref_over (4294967295#32) _ _ _ _ _ HR.out).mono ?_; rintro e w' ⟨rfl, rfl⟩)
  go_ret
  exact ⟨ret_u32 (by rw [HE.out]; exact ones_xor _), rfl⟩
theorem sum_Sum (A : Option Addr) (n c : Nat) (l : List UInt8) (w : World) (hr : Rd w A n c l) :
    Calls Try.prog 41 #[.slice A n c] w fun e w' => e = .returned (.int .u32 (crc 0#32 l).toNat) ∧ Below w.heap.size w w' := by
  have HR := Lib.hid hr
  clear hr
  go_enter Try.func41, Try.ntmps41
  go_wp2_with (go_at_call 40; refine (sum_Update (0#32) _ _ _ _ _ HR.out).mono ?_; rintro e w' ⟨rfl, hb⟩)
  go_ret
  exact ⟨rfl, hb⟩
end Go.Proofs.Ytggoaelbglhehaa
