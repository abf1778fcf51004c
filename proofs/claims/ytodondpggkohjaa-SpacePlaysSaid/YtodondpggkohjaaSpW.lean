/- Words on memory for the space: lists of ints, the frame 'only these blocks changed', a space and its blocks. -/
import Derived.Test.YtodondpggkohjaaProg
import Derived.Test.YtodondpggkohjaaW
import Derived.Maps.AppendAt
set_option linter.unusedVariables false
set_option linter.unusedSimpArgs false
namespace Go.Proofs.Ytodondpggkohjaa
open Go.RowKit
/-- Of the blocks that were, only those of S changed. -/
structure Only (S : List Nat) (w w' : World) : Prop where
  os : w'.os = w.os
  tape : w'.tape = w.tape
  output : w'.output = w.output
  size : w.heap.size ≤ w'.heap.size
  blk : ∀ k, k < w.heap.size → k ∉ S → w'.heap[k]? = w.heap[k]?
theorem Only.refl (S : List Nat) (w : World) : Only S w w := ⟨rfl, rfl, rfl, Nat.le_refl _, fun _ _ _ => rfl⟩
theorem Only.trans {S : List Nat} {a b c : World} (h : Only S a b) (k : Only S b c) : Only S a c :=
  ⟨k.os.trans h.os, k.tape.trans h.tape, k.output.trans h.output, Nat.le_trans h.size k.size, fun i hi hs => (k.blk i (Nat.lt_of_lt_of_le hi h.size) hs).trans (h.blk i hi hs)⟩
theorem Only.of_below {w w' : World} (S : List Nat) (h : Below w.heap.size w w') : Only S w w' := ⟨h.os, h.tape, h.output, h.size, fun k hk _ => h.block k hk⟩
theorem Only.below {B : Nat} {w w' : World} {S : List Nat} (h : Only S w w') (hB : B ≤ w.heap.size) (hS : ∀ k ∈ S, B ≤ k) : Below B w w' := ⟨h.os, h.tape, h.output, h.size, fun k hk => h.blk k (Nat.lt_of_lt_of_le hk hB) (fun hm => by have := hS k hm; omega)⟩
theorem Only.mono {S S' : List Nat} {w w' : World} (h : Only S w w') (hs : ∀ k ∈ S, k ∈ S') : Only S' w w' := ⟨h.os, h.tape, h.output, h.size, fun k hk hn => h.blk k hk (fun hm => hn (hs k hm))⟩
theorem Only.setCell {S : List Nat} {a w : World} (h : Only S a w) {p : Addr} (hp : p.block ∈ S) (u : Value) : Only S a (w.setCell p u) :=
  h.trans ⟨rfl, rfl, rfl, by simp, fun k _ hk => heap_setCell_other w p k u (fun e => hk (e ▸ hp))⟩
theorem Only.setNew {S : List Nat} {a w : World} (h : Only S a w) {p : Addr} (hp : a.heap.size ≤ p.block) (u : Value) : Only S a (w.setCell p u) :=
  ⟨h.os, h.tape, h.output, by have := h.size; simpa using this, fun k hk hs => (heap_setCell_other w p k u (by omega)).trans (h.blk k hk hs)⟩
theorem Only.drew {S : List Nat} {a w : World} (h : Only S a w) : Only S a w.drew := ⟨h.os, h.tape, h.output, h.size, h.blk⟩
theorem Only.drewN {S : List Nat} {a w : World} (h : Only S a w) (n : Nat) : Only S a (w.drewN n) := ⟨h.os, h.tape, h.output, h.size, h.blk⟩
theorem Only.alloc {S : List Nat} {a w : World} (h : Only S a w) (o : Obj) : Only S a (w.alloc o) :=
  h.trans ⟨rfl, rfl, rfl, by simp, fun k hk _ => Below.heap_alloc w o k hk⟩
/-- ints as values -/
def iv_ (xs : List Int) : List Value := xs.map fun x => .int .i64 x
theorem iv_length (xs : List Int) : (iv_ xs).length = xs.length := by simp [iv_]
theorem iv_append (xs ys : List Int) : iv_ (xs ++ ys) = iv_ xs ++ iv_ ys := by simp [iv_]
theorem iv_get (xs : List Int) (j : Nat) (h : j < xs.length) : (iv_ xs)[j]? = some (.int .i64 (xs.getD j 0)) := by
  simp [iv_, List.getElem?_eq_getElem h, List.getD_eq_getElem?_getD]
theorem iv_one (xs : List Int) : ∀ u ∈ iv_ xs, u.oneCell' = true := by
  intro u hu; simp only [iv_, List.mem_map] at hu; obtain ⟨c, _, rfl⟩ := hu; rfl
/-- The cells of a slice of ints hold the list l; none of its cells lies in the blocks of D. -/
structure RdI (D : List Nat) (w : World) (A : Option Addr) (n c : Nat) (l : List Int) : Prop where
  len : l.length = n
  cap : n ≤ c
  max : n ≤ 140737488355328
  at_ : 0 < n → ∃ b o, A = some ⟨b, o, none⟩ ∧ b ∉ D ∧ ∀ j, j < n → w.cell? ⟨b, o + j, none⟩ = some (.int .i64 (l.getD j 0))
theorem RdI.nil (D : List Nat) (w : World) : RdI D w none 0 0 [] := ⟨rfl, Nat.le_refl _, by omega, fun hp => absurd hp (by omega)⟩
theorem RdI.only {D S : List Nat} {w w' : World} {A : Option Addr} {n c : Nat} {l : List Int} (h : RdI D w A n c l) (hw : Only S w w') (hs : ∀ k ∈ S, k ∈ D) : RdI D w' A n c l :=
  ⟨h.len, h.cap, h.max, fun hn => by
    obtain ⟨b, o, e, hb, hc⟩ := h.at_ hn
    refine ⟨b, o, e, hb, fun j hj => ?_⟩
    have hlt := World.block_lt_of_cell? w _ (hc j hj)
    have := hw.blk b hlt (fun hm => hb (hs b hm))
    exact (World.cell?_of_block (w := w) (a := ⟨b, o + j, none⟩) this).trans (hc j hj)⟩
theorem RdI.ext {D : List Nat} {w w' : World} {A : Option Addr} {n c : Nat} {l : List Int} (h : RdI D w A n c l) (hb : Below w.heap.size w w') : RdI D w' A n c l := h.only (Only.of_below D hb) (fun _ h => h)
theorem RdI.sub {D D' : List Nat} {w : World} {A : Option Addr} {n c : Nat} {l : List Int} (h : RdI D w A n c l) (hs : ∀ k ∈ D', k ∈ D) : RdI D' w A n c l :=
  ⟨h.len, h.cap, h.max, fun hn => by
    obtain ⟨b, o, e, hb, hc⟩ := h.at_ hn
    exact ⟨b, o, e, fun hm => hb (hs b hm), hc⟩⟩
/-- a space: its struct in block b, its blocks' states in block g -/
structure IsSp (w : World) (b g first : Nat) (is : List Int) : Prop where
  st : w.heap[b]? = some (.cells #[.int .i64 first, .slice (some ⟨g, 0, none⟩) is.length is.length, .int .i64 (is.count 0)] 56 (0, 0))
  arr : w.heap[g]? = some (.cells (iv_ is).toArray 3 (0, 0))
  ne : b ≠ g
  small : is.length ≤ 4096 ∧ first ≤ 4096
theorem IsSp.only {w w' : World} {b g first : Nat} {is : List Int} {S : List Nat} (h : IsSp w b g first is) (hw : Only S w w') (hb : b ∉ S) (hg : g ∉ S) : IsSp w' b g first is :=
  ⟨(hw.blk b (lt_of_block h.st) hb).trans h.st, (hw.blk g (lt_of_block h.arr) hg).trans h.arr, h.ne, h.small⟩
theorem IsSp.ext {w w' : World} {b g first : Nat} {is : List Int} (h : IsSp w b g first is) (hw : Below w.heap.size w w') : IsSp w' b g first is := h.only (Only.of_below [] hw) (by simp) (by simp)
theorem IsSp.c0 {w : World} {b g first : Nat} {is : List Int} (h : IsSp w b g first is) : w.cell? ⟨b, 0, none⟩ = some (.int .i64 first) := by rw [cell_of_row _ _ _ _ _ _ h.st]; rfl
theorem IsSp.c1 {w : World} {b g first : Nat} {is : List Int} (h : IsSp w b g first is) : w.cell? ⟨b, 1, none⟩ = some (.slice (some ⟨g, 0, none⟩) is.length is.length) := by rw [cell_of_row _ _ _ _ _ _ h.st]; rfl
theorem IsSp.c2 {w : World} {b g first : Nat} {is : List Int} (h : IsSp w b g first is) : w.cell? ⟨b, 2, none⟩ = some (.int .i64 (is.count 0)) := by rw [cell_of_row _ _ _ _ _ _ h.st]; rfl
theorem IsSp.f2 {w : World} {b g first : Nat} {is : List Int} (h : IsSp w b g first is) (j : Nat) : w.frozen? ⟨b, j, none⟩ = false := frozen_of_row w _ _ _ _ h.st
theorem IsSp.fg {w : World} {b g first : Nat} {is : List Int} (h : IsSp w b g first is) (j : Nat) : w.frozen? ⟨g, j, none⟩ = false := frozen_of_row w _ _ _ _ h.arr
theorem IsSp.cg {w : World} {b g first : Nat} {is : List Int} (h : IsSp w b g first is) (j : Nat) (hj : j < is.length) : w.cell? ⟨g, j, none⟩ = some (.int .i64 (is.getD j 0)) := by
  rw [cell_of_row _ _ _ _ _ _ h.arr]; simpa using iv_get is j hj
theorem IsSp.store {w : World} {b g first : Nat} {is : List Int} (h : IsSp w b g first is) (j : Nat) (x : Int) (f : Int) (hf : f = ((is.set j x).count 0 : Nat)) :
    IsSp ((w.setCell ⟨g, j, none⟩ (.int .i64 x)).setCell ⟨b, 2, none⟩ (.int .i64 f)) b g first (is.set j x) := by
  subst hf
  refine ⟨?_, ?_, h.ne, by rw [List.length_set]; exact h.small⟩
  · rw [heap_setCell_same _ b 2 _ _ _ (by rw [heap_setCell_other _ _ _ _ h.ne]; exact h.st)]
    simp
  · rw [heap_setCell_other _ _ _ _ (Ne.symm h.ne), heap_setCell_same _ g j _ _ _ h.arr]
    simp [iv_, List.map_set]
/-- the same where the number of free ones stays -/
theorem IsSp.store1 {w : World} {b g first : Nat} {is : List Int} (h : IsSp w b g first is) (j : Nat) (x : Int) (hf : (is.set j x).count 0 = is.count 0) :
    IsSp (w.setCell ⟨g, j, none⟩ (.int .i64 x)) b g first (is.set j x) := by
  refine ⟨?_, ?_, h.ne, by rw [List.length_set]; exact h.small⟩
  · rw [heap_setCell_other _ _ _ _ h.ne, h.st]
    simp [hf]
  · rw [heap_setCell_same _ g j _ _ _ h.arr]
    simp [iv_, List.map_set]
theorem count_set (is : List Int) (j : Nat) (x : Int) (h : j < is.length) : (is.set j x).count 0 + (if is.getD j 0 = 0 then 1 else 0) = is.count 0 + (if x = 0 then 1 else 0) := by
  induction is generalizing j with
  | nil => simp at h
  | cons a l ih =>
    cases j with
    | zero =>
      simp only [List.set_cons_zero, List.count_cons, List.getD_cons_zero, beq_iff_eq]
      omega
    | succ j =>
      have := ih j (by simpa using h)
      simp only [List.set_cons_succ, List.count_cons, List.getD_cons_succ]
      omega
end Go.Proofs.Ytodondpggkohjaa
