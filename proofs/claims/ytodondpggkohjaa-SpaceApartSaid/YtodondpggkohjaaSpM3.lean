/- What SpaceGoesAgain tells, and words on its array of two slices. -/
import Derived.Test.YtodondpggkohjaaSpM2
import Derived.Test.YtodondpggkohjaaOwnI2
set_option linter.unusedVariables false
set_option linter.unusedSimpArgs false
namespace Go.Proofs.Ytodondpggkohjaa
open Go.RowKit
def tellStep (s : List Int × List Int) (o : OpV) : List Int × List Int :=
  if o.kind = 1 then (takeS s.1, s.2 ++ [takeB 2 s.1, takeE s.1]) else if o.kind = 2 then (giveS 2 s.1 o.blk, s.2 ++ [giveE 2 s.1 o.blk]) else s
def tells (is : List Int) (l : List OpV) : Nat → List Int × List Int
  | 0 => (is, [])
  | k + 1 => tellStep (tells is l k) (l.getD k default)
theorem tells_since {is : List Int} (h : StC is) (l : List OpV) : ∀ k, Since is (tells is l k).1
  | 0 => Since.start h
  | k + 1 => by
    have := tells_since h l k
    rw [tells, tellStep]
    split
    · exact this.take
    · split
      · exact this.give _ _
      · exact this
theorem tells_len (is : List Int) (l : List OpV) : ∀ k, (tells is l k).2.length ≤ 2 * k
  | 0 => by simp [tells]
  | k + 1 => by
    have := tells_len is l k
    rw [tells, tellStep]
    split
    · simp; omega
    · split
      · simp; omega
      · omega
/-- all that a round tells -/
def toldAll (is : List Int) (l : List OpV) (k : Nat) : List Int :=
  (tells is l k).2 ++ [(((tells is l k).1.count 0 : Nat) : Int)] ++ sel pT 2 (tells is l k).1 (tells is l k).1.length ++ sel pH 2 (tells is l k).1 (tells is l k).1.length
/-- the array of two slices: the one at r, and the other -/
def Arr (w : World) (tb r : Nat) (v other : Value) : Prop := w.heap[tb]? = some (.cells (if r = 0 then #[v, other] else #[other, v]) 52 (0, 0))
theorem Arr.cell {w : World} {tb r : Nat} {v other : Value} (h : Arr w tb r v other) (hr : r < 2) : w.cell? ⟨tb, r, none⟩ = some v := by
  rw [cell_of_row _ _ _ _ _ _ h]
  rcases (show r = 0 ∨ r = 1 by omega) with rfl | rfl <;> rfl
theorem Arr.free {w : World} {tb r : Nat} {v other : Value} (h : Arr w tb r v other) (j : Nat) : w.frozen? ⟨tb, j, none⟩ = false := frozen_of_row w _ _ _ _ h
theorem Arr.store {w : World} {tb r : Nat} {v other : Value} (h : Arr w tb r v other) (hr : r < 2) (u : Value) : Arr (w.setCell ⟨tb, r, none⟩ u) tb r u other := by
  unfold Arr at *
  rw [heap_setCell_same _ tb r _ _ _ h]
  rcases (show r = 0 ∨ r = 1 by omega) with rfl | rfl <;> simp
theorem Arr.flip {w : World} {tb : Nat} {v other : Value} (h : Arr w tb 0 v other) : Arr w tb 1 other v := h
theorem Arr.lt {w : World} {tb r : Nat} {v other : Value} (h : Arr w tb r v other) : tb < w.heap.size := lt_of_block h
theorem Arr.only {w w' : World} {S : List Nat} {tb r : Nat} {v other : Value} (h : Arr w tb r v other) (hw : Only S w w') (ht : tb ∉ S) : Arr w' tb r v other := (hw.blk tb h.lt ht).trans h
theorem Arr.below {w w' : World} {B tb r : Nat} {v other : Value} (h : Arr w tb r v other) (hw : Below B w w') (ht : tb < B) : Arr w' tb r v other := (hw.block tb ht).trans h
theorem IsSp.below {w w' : World} {B b g first : Nat} {is : List Int} (h : IsSp w b g first is) (hw : Below B w w') (hb : b < B) (hg : g < B) : IsSp w' b g first is :=
  ⟨(hw.block b hb).trans h.st, (hw.block g hg).trans h.arr, h.ne, h.small⟩
theorem Only.belowExt {S : List Nat} {a w w' : World} (h : Only S a w) (hw : Below a.heap.size w w') : Only S a w' :=
  ⟨hw.os.trans h.os, hw.tape.trans h.tape, hw.output.trans h.output, Nat.le_trans h.size hw.size, fun k hk hs => (hw.block k hk).trans (h.blk k hk hs)⟩
theorem IsSp.setOther {w : World} {b g first : Nat} {is : List Int} (h : IsSp w b g first is) (p : Addr) (u : Value) (hb : b ≠ p.block) (hg : g ≠ p.block) : IsSp (w.setCell p u) b g first is :=
  ⟨(heap_setCell_other w p b u hb).trans h.st, (heap_setCell_other w p g u hg).trans h.arr, h.ne, h.small⟩
/-- a round of the second script, at its step k: all that it keeps -/
structure Rnd (w ws wr : World) (b g tb r k : Nat) (ic : List Int) (l : List OpV) (v other : Value) : Prop where
  sp : IsSp wr b g 2 (tells ic l k).1
  arr : Arr wr tb r v other
  own : OwnI wr ws.heap.size v (tells ic l k).2.length (tells ic l k).2
  only : Only [b, g, tb] ws wr
  below : Below w.heap.size w wr
/-- where the blocks lie -/
structure Lts (w ws : World) (b g tb : Nat) : Prop where
  bt : b < tb
  gt : g < tb
  tw : tb < ws.heap.size
  wb : w.heap.size ≤ b
  wg : w.heap.size ≤ g
  ww : w.heap.size ≤ ws.heap.size
theorem Lts.ge {w ws : World} {b g tb : Nat} (h : Lts w ws b g tb) : ∀ k ∈ [b, g, tb], w.heap.size ≤ k := by
  have := h.wb; have := h.wg; have := h.bt
  intro k hk; simp at hk; omega
theorem Lts.lt {w ws : World} {b g tb : Nat} (h : Lts w ws b g tb) : ∀ k ∈ [b, g, tb], k < ws.heap.size := by
  have := h.gt; have := h.bt; have := h.tw
  intro k hk; simp at hk; omega
/-- what an append to the told ones, and the store of it, leaves -/
theorem Rnd.stored {w ws w8 w9 : World} {b g tb r k q : Nat} {ic is' L' : List Int} {l : List OpV} {v v1 other : Value} (hL : Lts w ws b g tb) (hw : Below w.heap.size w ws) (hr : r < 2)
    (hsp : IsSp w8 b g 2 is') (ha : Arr w8 tb r v other) (hon : Only [b, g, tb] ws w8) (hb9 : Below ws.heap.size w8 w9) (ho9 : OwnI w9 ws.heap.size v1 q L') (htl : tells ic l k = (is', L')) :
    Rnd w ws (w9.setCell ⟨tb, r, none⟩ v1) b g tb r k ic l v1 other := by
  have h1 := hL.bt
  have h2 := hL.gt
  have h3 := hL.tw
  have hq := ho9.len
  have hO9 : Only [b, g, tb] ws (w9.setCell ⟨tb, r, none⟩ v1) := (hon.belowExt hb9).setCell (by simp) _
  refine ⟨?_, (ha.below hb9 (by omega)).store hr v1, ?_, hO9, hw.trans (hO9.below hw.size hL.ge)⟩
  · rw [htl]; exact (hsp.below hb9 (by omega) (by omega)).setOther _ _ (by simp; omega) (by simp; omega)
  · rw [htl]; subst hq; exact ho9.below_store (by simpa using h3) _
theorem Rnd.same {w ws wr : World} {b g tb r k : Nat} {ic is' : List Int} {L' : List Int} {l : List OpV} {v other : Value} (hL : Lts w ws b g tb) (hw : Below w.heap.size w ws)
    (hsp : IsSp wr b g 2 is') (ha : Arr wr tb r v other) (hon : Only [b, g, tb] ws wr) (ho : OwnI wr ws.heap.size v L'.length L') (htl : tells ic l k = (is', L')) : Rnd w ws wr b g tb r k ic l v other :=
  ⟨by rw [htl]; exact hsp, ha, by rw [htl]; exact ho, hon, hw.trans (hon.below hw.size hL.ge)⟩
/-- behind the second script: the same, with what was told since -/
structure Tl (w ws wr : World) (b g tb r : Nat) (ij L : List Int) (v other : Value) : Prop where
  sp : IsSp wr b g 2 ij
  arr : Arr wr tb r v other
  own : OwnI wr ws.heap.size v L.length L
  only : Only [b, g, tb] ws wr
  below : Below w.heap.size w wr
theorem Tl.stored {w ws w8 w9 : World} {b g tb r q : Nat} {is' L' : List Int} {v v1 other : Value} (hL : Lts w ws b g tb) (hw : Below w.heap.size w ws) (hr : r < 2)
    (hsp : IsSp w8 b g 2 is') (ha : Arr w8 tb r v other) (hon : Only [b, g, tb] ws w8) (hb9 : Below ws.heap.size w8 w9) (ho9 : OwnI w9 ws.heap.size v1 q L') :
    Tl w ws (w9.setCell ⟨tb, r, none⟩ v1) b g tb r is' L' v1 other := by
  have h1 := hL.bt
  have h2 := hL.gt
  have h3 := hL.tw
  have hq := ho9.len
  have hO9 : Only [b, g, tb] ws (w9.setCell ⟨tb, r, none⟩ v1) := (hon.belowExt hb9).setCell (by simp) _
  refine ⟨?_, (ha.below hb9 (by omega)).store hr v1, ?_, hO9, hw.trans (hO9.below hw.size hL.ge)⟩
  · exact (hsp.below hb9 (by omega) (by omega)).setOther _ _ (by simp; omega) (by simp; omega)
  · subst hq; exact ho9.below_store (by simpa using h3) _
end Go.Proofs.Ytodondpggkohjaa
