/- Words on memory: a node in its lists; a block in the making; the marks of blocks seen. -/
import Derived.Test.YtlandlgjhnnaiaaPgMath
import Derived.Test.YtlandlgjhnnaiaaOwnJ
import Derived.Deep.MidRow
import Derived.Deep.RegionHeld3
import Derived.Deep.QuietTactic
import Derived.Laws.Cover1
set_option linter.unusedVariables false
set_option linter.unusedSimpArgs false
set_option maxRecDepth 100000
namespace Go.Proofs.Ytlandlgjhnnaiaa
open Go.RowKit
/-! ### a node -/
def ndC (n : Nd) (vE vC vK vD : Value) : Array Value := #[.int .i64 n.kind, vE, vC, vK, vD, .int .i64 n.next, .string n.data]
structure NdR (w : World) (n : Nd) (vE vC vK vD : Value) : Prop where
  e : ∃ A c, vE = .slice A n.ents.length c ∧ RdE w A n.ents.length c n.ents
  c : ∃ A c, vC = .slice A n.chs.length c ∧ RdI [] w A n.chs.length c n.chs
  k : ∃ A c, vK = .slice A n.keys.length c ∧ RdT w A n.keys.length c n.keys
  d : ∃ A c, vD = .slice A n.kids.length c ∧ RdI [] w A n.kids.length c n.kids
theorem NdR.ext {w w' : World} {n : Nd} {vE vC vK vD : Value} (h : NdR w n vE vC vK vD) (hb : Below w.heap.size w w') : NdR w' n vE vC vK vD := by
  obtain ⟨⟨A1, c1, e1, h1⟩, ⟨A2, c2, e2, h2⟩, ⟨A3, c3, e3, h3⟩, ⟨A4, c4, e4, h4⟩⟩ := h
  exact ⟨⟨A1, c1, e1, h1.ext hb⟩, ⟨A2, c2, e2, h2.ext hb⟩, ⟨A3, c3, e3, h3.ext hb⟩, ⟨A4, c4, e4, h4.ext hb⟩⟩
/-! ### a block in the making -/
def bkC (M : List UInt8) (a : Nat) : List Value := bv M ++ [.int .i64 (a : Int)]
theorem bkC_len (M : List UInt8) (a : Nat) : (bkC M a).length = M.length + 1 := by simp [bkC, bv_length]
structure BkAt (w : World) (g : Nat) (M : List UInt8) (a : Nat) : Prop where
  row : w.heap[g]? = some (.cells (bkC M a).toArray 60 (0, 0))
  len : M.length = 512
theorem info_bk : (Try.prog.info? 60).map (fun i => (i.zero, i.size, i.bytes)) = some (some (.agg (Array.replicate 512 (.int .u8 0) ++ #[.int .i64 0])), 513, 520) := by kernel_rfl
theorem info_seen : (Try.prog.info? 83).map (fun i => (i.zero, i.size, i.bytes)) = some (some (.agg (Array.replicate 4096 (.bool false))), 4096, 4096) := by kernel_rfl
section
variable {w w' : World} {g a : Nat} {M : List UInt8}
theorem BkAt.cat (h : BkAt w g M a) : w.cell? ⟨g, 512, none⟩ = some (.int .i64 (a : Int)) := by
  rw [cell_of_row _ _ _ _ _ _ h.row, List.getElem?_toArray]
  unfold bkC
  rw [List.getElem?_append_right (by rw [bv_length, h.len]; omega), bv_length, h.len]; rfl
theorem BkAt.cell (h : BkAt w g M a) (j : Nat) (hj : j < 512) : w.cell? ⟨g, j, none⟩ = some (.int .u8 ((M.getD j 0).toNat : Int)) := by
  rw [cell_of_row _ _ _ _ _ _ h.row, List.getElem?_toArray]
  unfold bkC
  rw [List.getElem?_append_left (by rw [bv_length, h.len]; omega), bv_get _ _ (by rw [h.len]; omega)]
theorem BkAt.frz (h : BkAt w g M a) (j : Nat) : w.frozen? ⟨g, j, none⟩ = false := frozen_of_row w _ _ _ _ h.row
theorem BkAt.lt (h : BkAt w g M a) : g < w.heap.size := lt_of_block h.row
theorem BkAt.keep {S : List Nat} (h : BkAt w g M a) (hw : Only S w w') (hs : g ∉ S) : BkAt w' g M a := ⟨(hw.blk g h.lt hs).trans h.row, h.len⟩
theorem BkAt.ext (h : BkAt w g M a) (hb : Below w.heap.size w w') : BkAt w' g M a := h.keep (Only.of_below [] hb) (by simp)
theorem BkAt.rd (h : BkAt w g M a) : Rd w (some ⟨g, 0, none⟩) 512 512 M := ⟨h.len, Nat.le_refl _, by omega, fun _ => ⟨g, 0, rfl, fun j hj => by rw [Nat.zero_add]; exact h.cell j hj⟩⟩
end
theorem bk_setAt (M : List UInt8) (a b : Nat) (h : M.length = 512) : (bkC M a).toArray.setIfInBounds 512 (.int .i64 (b : Int)) = (bkC M b).toArray := by
  apply Array.ext'
  rw [Array.toList_setIfInBounds]
  unfold bkC
  rw [List.set_append_right _ _ (by rw [bv_length, h]; omega), bv_length, h]; rfl
theorem bk_setB (M : List UInt8) (a j : Nat) (x : UInt8) (h : M.length = 512) (hj : j < 512) : (bkC M a).toArray.setIfInBounds j (.int .u8 (x.toNat : Int)) = (bkC (M.set j x) a).toArray := by
  apply Array.ext'
  rw [Array.toList_setIfInBounds]
  unfold bkC
  rw [List.set_append_left _ _ (by rw [bv_length, h]; omega)]
  congr 1
  apply List.ext_getElem?
  intro i
  simp only [bv, List.getElem?_set, List.getElem?_map, List.length_map]
  by_cases e : j = i
  · subst e; simp [h, hj]
  · simp [e]
theorem BkAt.setAt {w : World} {g a : Nat} {M : List UInt8} (h : BkAt w g M a) (b : Nat) : BkAt (w.setCell ⟨g, 512, none⟩ (.int .i64 (b : Int))) g M b :=
  ⟨by rw [heap_setCell_same _ _ _ _ _ _ h.row, bk_setAt M a b h.len], h.len⟩
theorem BkAt.setB {w : World} {g a : Nat} {M : List UInt8} (h : BkAt w g M a) (j : Nat) (x : UInt8) (hj : j < 512) : BkAt (w.setCell ⟨g, j, none⟩ (.int .u8 (x.toNat : Int))) g (M.set j x) a :=
  ⟨by rw [heap_setCell_same _ _ _ _ _ _ h.row, bk_setB M a j x h.len hj], by rw [List.length_set]; exact h.len⟩
end Go.Proofs.Ytlandlgjhnnaiaa
