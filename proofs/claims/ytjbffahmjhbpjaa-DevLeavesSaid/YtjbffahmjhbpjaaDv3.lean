/- The device's cache: pending writes, a row of them of the program's own. -/
import Derived.Test.YtjbffahmjhbpjaaDv2
import Derived.Great.BuildSlice
import Derived.Deep.MidRow
set_option linter.unusedVariables false
set_option linter.unusedSimpArgs false
set_option maxRecDepth 100000
namespace Go.Proofs.Ytjbffahmjhbpjaa
open Go.RowKit
structure Pd where
  num : Nat
  data : List UInt8
instance : Inhabited Pd := ⟨⟨0, List.replicate 512 0⟩⟩
def pc (x : Pd) : List Value := .int .i64 x.num :: bv x.data
def pcs (l : List Pd) : List Value := l.flatMap pc
def PdOk (n : Nat) (l : List Pd) : Prop := ∀ x ∈ l, x.num < n ∧ x.data.length = 512
theorem pc_length {x : Pd} (h : x.data.length = 512) : (pc x).length = 513 := by simp [pc, bv_length, h]
theorem PdOk.nil (n : Nat) : PdOk n [] := fun x hx => by cases hx
theorem PdOk.snoc {n : Nat} {l : List Pd} {y : Pd} (h : PdOk n l) (h1 : y.num < n) (h2 : y.data.length = 512) : PdOk n (l ++ [y]) := by
  intro x hx
  rcases List.mem_append.1 hx with hx | hx
  · exact h x hx
  · simp at hx; subst hx; exact ⟨h1, h2⟩
theorem PdOk.get {n : Nat} {l : List Pd} (h : PdOk n l) (j : Nat) (hj : j < l.length) : (l.getD j default).num < n ∧ (l.getD j default).data.length = 512 := by
  rw [List.getD_eq_getElem?_getD, List.getElem?_eq_getElem hj]
  exact h _ (List.getElem_mem _)
theorem pcs_length {n : Nat} : ∀ {l : List Pd}, PdOk n l → (pcs l).length = l.length * 513
  | [], _ => rfl
  | a :: r, h => by
    have ih := pcs_length (l := r) (fun x hx => h x (by simp [hx]))
    have ha := pc_length (h a (by simp)).2
    rw [pcs, List.flatMap_cons, List.length_append, ← pcs, ih, ha, List.length_cons]; omega
theorem pcs_append (l m : List Pd) : pcs (l ++ m) = pcs l ++ pcs m := by simp [pcs]
theorem pcs_get {n : Nat} : ∀ (l : List Pd) (j i : Nat), PdOk n l → j < l.length → i < 513 → (pcs l)[j * 513 + i]? = (pc (l.getD j default))[i]?
  | [], j, i, _, h, _ => by simp at h
  | a :: r, 0, i, ho, h, hi => by
    have ha := pc_length (ho a (by simp)).2
    rw [pcs, List.flatMap_cons, List.getElem?_append_left (by rw [ha]; omega)]
    simp
  | a :: r, j + 1, i, ho, h, hi => by
    have ha := pc_length (ho a (by simp)).2
    have ih := pcs_get r j i (fun x hx => ho x (by simp [hx])) (by simpa using h) hi
    rw [pcs, List.flatMap_cons, List.getElem?_append_right (by rw [ha]; omega)]
    rw [show (j + 1) * 513 + i - (pc a).length = j * 513 + i by rw [ha]; omega]
    rw [← pcs, ih]
    simp
theorem pcs_one (l : List Pd) : ∀ u ∈ pcs l, u.oneCell' = true := by
  intro u hu
  simp only [pcs, List.mem_flatMap] at hu
  obtain ⟨x, _, hx⟩ := hu
  simp only [pc, List.mem_cons] at hx
  rcases hx with rfl | hx
  · rfl
  · exact bv_one _ u hx
theorem info_pd : (Try.prog.info? 80).map (fun i => (i.zero, i.size, i.bytes)) = some (some (.agg (#[.int .i64 0] ++ Array.replicate 512 (.int .u8 0))), 513, 520) := by kernel_rfl
def OwnP (w : World) (base n : Nat) (v : Value) (q : Nat) (C : List Pd) : Prop := PdOk n C ∧ w.ownsRow base 80 513 v q (pcs C)
theorem built_pd (parts : List (Nat × Value)) : Try.prog.built 80 parts = Instr.fill ((#[(0, 1), (1, 512)] : Array (Nat × Nat))[·]?) (#[.int .i64 0] ++ Array.replicate 512 (.int .u8 0)) parts := by kernel_rfl
theorem fill_pd (m : Nat) (D : List UInt8) (h : D.length = 512) : Instr.fill ((#[(0, 1), (1, 512)] : Array (Nat × Nat))[·]?) (#[.int .i64 0] ++ Array.replicate 512 (.int .u8 0)) [(0, .int .i64 (m : Int)), (1, .agg (bv D).toArray)] = some (pc ⟨m, D⟩).toArray := by
  have hb := bv_length D
  obtain ⟨Z, hZ⟩ : ∃ Z : Array Value, Z = #[.int .i64 0] ++ Array.replicate 512 (.int .u8 0) := ⟨_, rfl⟩
  have hZs : Z.size = 513 := by rw [hZ]; simp
  rw [← hZ, Instr.fill]
  simp only [show ((#[(0, 1), (1, 512)] : Array (Nat × Nat))[0]?) = some (0, 1) from rfl]
  rw [if_neg (by simp [Value.cells, hZs]), Instr.fill]
  simp only [show ((#[(0, 1), (1, 512)] : Array (Nat × Nat))[1]?) = some (1, 512) from rfl]
  have e0 : ((Value.int .i64 (m : Int)).cells.zipIdx.foldl (fun cs (x : Value × Nat) => cs.setIfInBounds (0 + x.2) x.1) Z) = Z.setIfInBounds 0 (.int .i64 (m : Int)) := rfl
  have e1 : (Value.agg (bv D).toArray).cells = (bv D).toArray := rfl
  have hs2 : (Z.setIfInBounds 0 (.int .i64 (m : Int))).size = 513 := by rw [Array.size_setIfInBounds, hZs]
  obtain ⟨g1, g2⟩ := Go.Great.foldl_set 1 (bv D) 0 (Z.setIfInBounds 0 (.int .i64 (m : Int)))
  rw [if_neg (by rw [e1, e0, hs2]; simp [hb, h]), Instr.fill, e0, e1, ← Array.foldl_toList, Array.toList_zipIdx]
  congr 1
  apply Array.ext_getElem?
  intro k
  have g3 := g2 k
  refine Eq.trans g3 ?_
  rw [hb, h, hs2]
  rcases Nat.eq_zero_or_pos k with rfl | hk
  · rw [if_neg (by omega), Array.getElem?_setIfInBounds_self_of_lt (by omega)]
    rfl
  · by_cases h5 : k < 513
    · rw [if_pos (by omega)]
      obtain ⟨j, rfl⟩ : ∃ j, k = j + 1 := ⟨k - 1, by omega⟩
      simp [pc]
    · rw [if_neg (by omega), Array.getElem?_eq_none (by rw [hs2]; omega), Array.getElem?_eq_none (by rw [List.size_toArray, pc_length h]; omega)]
theorem build_pd (m : Nat) (D : List UInt8) (h : D.length = 512) (W : World) : (Instr.build 80 #[(0, .int .i64 (m : Int)), (1, .agg (bv D).toArray)]).run Try.prog W = .ok (.agg (pc ⟨m, D⟩).toArray) W :=
  run_build W _ _ _ (by rw [built_pd]; exact fill_pd m D h)
theorem bslice_pd (x : Pd) (h : x.data.length = 512) (W : World) : (Instr.buildSlice 74 1 #[(0, .agg (pc x).toArray)]).run Try.prog W = .ok (.slice (some ⟨W.heap.size, 0, none⟩) 1 1) (W.alloc (.cells (pc x).toArray 80)) := by
  obtain ⟨i0, hi, hzz⟩ := Option.map_eq_some_iff.1 info_pd
  simp only [Prod.mk.injEq] at hzz
  obtain ⟨hz0, hz1, hz2⟩ := hzz
  refine run_buildSlice W _ 80 1 _ _ i0 _ Try.underlying74 hi hz0 (by rw [hz1]; omega) (by rw [hz1]; omega) ?_
  rw [hz1]
  have := Go.Great.fill_whole (s := 513) (by omega) [.agg (pc x).toArray] ((Array.range (1 * 513)).map (fun k => (Value.agg (#[.int .i64 0] ++ Array.replicate 512 (.int .u8 0))).cells[k % (Value.agg (#[.int .i64 0] ++ Array.replicate 512 (.int .u8 0))).cells.size]!)) (by
    intro v hv
    simp only [List.mem_singleton] at hv
    subst hv
    show (pc x).toArray.size = 513
    rw [List.size_toArray, pc_length h]) (by simp)
  refine Eq.trans this ?_
  congr 1
  simp [Value.cells]
theorem load_blk (W : World) (bb oo : Nat) (D : List UInt8) (h : D.length = 512) (hc : W.rangeAt bb oo (bv D)) : (Instr.loadAt 78 (.pointer (some ⟨bb, oo, none⟩))).run Try.prog W = .ok (.agg (bv D).toArray) W :=
  run_loadAt_mid W bb oo _ (bv D) _ hc Try.underlying78 rfl (by
    rw [bv_length, h]
    have := info_blk
    cases hq : Try.prog.info? 78 with
    | none => rw [hq] at this; cases this
    | some i => rw [hq] at this; simp at this ⊢; exact this.2.1)
end Go.Proofs.Ytjbffahmjhbpjaa
