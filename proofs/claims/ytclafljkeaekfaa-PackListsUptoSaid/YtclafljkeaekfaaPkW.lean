/- Words for writers and readers: append of a string's bytes; where a slice's block lies; the frame of a call that lengthens one slice; the writer's and the reader's memory. -/
import Derived.Test.YtclafljkeaekfaaBlk
import Derived.Test.YtclafljkeaekfaaPkMath
import Derived.Lib.AppendStr
import Derived.Deep.QuietTactic
import Derived.BigQuiet
set_option linter.unusedVariables false
set_option linter.unusedSimpArgs false
namespace Go.Proofs.Ytclafljkeaekfaa
open Go.RowKit
/-- a writer: its struct in block b, what is written in a block of its own (value v), from base on -/
structure IsW (w : World) (b base lim : Nat) (L : List UInt8) (v : Value) (e : Int) : Prop where
  st : w.heap[b]? = some (.cells #[.int .i64 lim, v, .int .i64 e] 83 (0, 0))
  own : Own w base v L.length L
  lt : b < base
  le : base ≤ w.heap.size
  small : L.length ≤ lim
  most : lim ≤ 1048576
section
variable {w : World} {b base lim : Nat} {L : List UInt8} {v : Value} {e : Int}
theorem IsW.cell (h : IsW w b base lim L v e) (j : Nat) : w.cell? ⟨b, j, none⟩ = #[.int .i64 lim, v, .int .i64 e][j]? := by rw [cell_of_row _ _ _ _ _ _ h.st]
theorem IsW.c0 (h : IsW w b base lim L v e) : w.cell? ⟨b, 0, none⟩ = some (.int .i64 lim) := h.cell 0
theorem IsW.c1 (h : IsW w b base lim L v e) : w.cell? ⟨b, 1, none⟩ = some v := h.cell 1
theorem IsW.c2 (h : IsW w b base lim L v e) : w.cell? ⟨b, 2, none⟩ = some (.int .i64 e) := h.cell 2
theorem IsW.fz (h : IsW w b base lim L v e) (j : Nat) : w.frozen? ⟨b, j, none⟩ = false := frozen_of_row w _ _ _ _ h.st
theorem IsW.slice (h : IsW w b base lim L v e) : ∃ A c, v = .slice A L.length c := by
  rcases h.own.2 with ⟨rfl, h0⟩ | ⟨g, cap, cur, rfl, _⟩
  · rw [h0]; exact ⟨none, 0, rfl⟩
  · exact ⟨_, cap, rfl⟩
theorem IsW.keep {w' : World} {S : List Nat} (h : IsW w b base lim L v e) (hw : Only S w w') (hb : b ∉ S) (hs : ∀ k, v.ownBlock = some k → k ∉ S) : IsW w' b base lim L v e :=
  ⟨(hw.blk b (lt_of_block h.st) hb).trans h.st, h.own.keep hw hs, h.lt, Nat.le_trans h.le hw.size, h.small, h.most⟩
theorem IsW.ext {w' : World} (h : IsW w b base lim L v e) (hw : Below w.heap.size w w') : IsW w' b base lim L v e := h.keep (Only.of_below [] hw) (by simp) (by simp)
theorem IsW.drew (h : IsW w b base lim L v e) (k : Nat) : IsW (w.drewN k) b base lim L v e := ⟨h.st, h.own, h.lt, h.le, h.small, h.most⟩
theorem IsW.setErr (h : IsW w b base lim L v e) (e2 : Int) : IsW (w.setCell ⟨b, 2, none⟩ (.int .i64 e2)) b base lim L v e2 := by
  have hne : ∀ k, v.ownBlock = some k → k ≠ b := fun k hk => by have := (h.own.blk k hk).1; have := h.lt; omega
  refine ⟨?_, ?_, h.lt, by simpa using h.le, h.small, h.most⟩
  · rw [heap_setCell_same _ b 2 _ _ _ h.st]; simp
  · exact h.own.keep (S := [b]) ((Only.refl [b] w).setCell (by simp) _) (fun k hk => by simpa using hne k hk)
/-- the writer's slice made longer: v1 in a world w1, stored -/
theorem IsW.longer {w1 : World} {v1 : Value} {L1 : List UInt8} (h : IsW w b base lim L v e) (hO : Only (b :: v.ownBlock.toList) w w1) (hb : w1.heap[b]? = some (.cells #[.int .i64 lim, v, .int .i64 e] 83 (0, 0))) (h1 : Own w1 base v1 L1.length L1) (hl : L1.length ≤ lim) :
    IsW (w1.setCell ⟨b, 1, none⟩ v1) b base lim L1 v1 e := by
  have hne : ∀ k, v1.ownBlock = some k → k ≠ b := fun k hk => by have := (h1.blk k hk).1; have := h.lt; omega
  refine ⟨?_, ?_, h.lt, by have := h.le; have := hO.size; simp; omega, hl, h.most⟩
  · rw [heap_setCell_same _ b 1 _ _ _ hb]; simp
  · exact h1.keep (S := [b]) ((Only.refl [b] w1).setCell (by simp) _) (fun k hk => by simpa using hne k hk)
end
def layL (lim : Nat) (L : List UInt8) (e : Int) (F : List UInt8) : List UInt8 := if e = 0 ∧ L.length + F.length ≤ lim then L ++ F else L
def layE (lim : Nat) (L : List UInt8) (e : Int) (F : List UInt8) : Int := if e = 0 ∧ ¬ L.length + F.length ≤ lim then 23 else e
/-- behind a call on a writer -/
def WPost (w : World) (b base lim : Nat) (v : Value) (L' : List UInt8) (e' : Int) (w' : World) : Prop :=
  ∃ v', IsW w' b base lim L' v' e' ∧ Only (b :: v.ownBlock.toList) w w' ∧ (v'.ownBlock = v.ownBlock ∨ Blk v' w.heap.size w'.heap.size)
theorem WPost.same {w w' : World} {b base lim : Nat} {L : List UInt8} {v : Value} {e : Int} (h : IsW w b base lim L v e) (hO : Only [] w w') : WPost w b base lim v L e w' :=
  ⟨v, h.keep hO (by simp) (by simp), hO.mono (by simp), .inl rfl⟩
/-- first new memory, then the writer's call -/
theorem WPost.after {w w1 w' : World} {b base lim : Nat} {L' : List UInt8} {v : Value} {e' : Int} (hB : Below w.heap.size w w1) (h : WPost w1 b base lim v L' e' w') : WPost w b base lim v L' e' w' := by
  obtain ⟨v', h1, h2, h3⟩ := h
  refine ⟨v', h1, ((Only.of_below _ hB).trans h2), ?_⟩
  rcases h3 with h3 | h3
  · exact .inl h3
  · exact .inr (h3.mono hB.size (Nat.le_refl _))
theorem WPost.drewn {w w' : World} {k b base lim : Nat} {L' : List UInt8} {v : Value} {e' : Int} (h : WPost (w.drewN k) b base lim v L' e' w') : WPost w b base lim v L' e' w' := by
  obtain ⟨v', h1, h2, h3⟩ := h
  exact ⟨v', h1, ((Only.refl _ w).drewN k).trans h2, h3⟩
/-- first a cell of the writer's struct -/
theorem WPost.from {w w1 w' : World} {b base lim : Nat} {L' : List UInt8} {v : Value} {e' : Int} (hB : Only [b] w w1) (h : WPost w1 b base lim v L' e' w') : WPost w b base lim v L' e' w' := by
  obtain ⟨v', h1, h2, h3⟩ := h
  refine ⟨v', h1, (hB.mono (by simp)).trans h2, ?_⟩
  rcases h3 with h3 | h3
  · exact .inl h3
  · exact .inr (h3.mono hB.size (Nat.le_refl _))
/-- a reader: its struct in block b; its bytes in another -/
structure IsR (w : World) (b : Nat) (A : Option Addr) (n c : Nat) (L : List UInt8) (at_ : Nat) (e : Int) : Prop where
  st : w.heap[b]? = some (.cells #[.slice A n c, .int .i64 at_, .int .i64 e] 91 (0, 0))
  rd : Rd w A n c L
  ne : ∀ p, A = some p → p.block ≠ b
  le : at_ ≤ n
section
variable {w : World} {b n c at_ : Nat} {A : Option Addr} {L : List UInt8} {e : Int}
theorem IsR.cell (h : IsR w b A n c L at_ e) (j : Nat) : w.cell? ⟨b, j, none⟩ = #[.slice A n c, .int .i64 at_, .int .i64 e][j]? := by rw [cell_of_row _ _ _ _ _ _ h.st]
theorem IsR.c0 (h : IsR w b A n c L at_ e) : w.cell? ⟨b, 0, none⟩ = some (.slice A n c) := h.cell 0
theorem IsR.c1 (h : IsR w b A n c L at_ e) : w.cell? ⟨b, 1, none⟩ = some (.int .i64 at_) := h.cell 1
theorem IsR.c2 (h : IsR w b A n c L at_ e) : w.cell? ⟨b, 2, none⟩ = some (.int .i64 e) := h.cell 2
theorem IsR.fz (h : IsR w b A n c L at_ e) (j : Nat) : w.frozen? ⟨b, j, none⟩ = false := frozen_of_row w _ _ _ _ h.st
theorem IsR.lt (h : IsR w b A n c L at_ e) : b < w.heap.size := lt_of_block h.st
theorem IsR.keep {w' : World} {S : List Nat} (h : IsR w b A n c L at_ e) (hw : Only S w w') (hb : b ∉ S) (hs : ∀ p, A = some p → p.block ∉ S) : IsR w' b A n c L at_ e :=
  ⟨(hw.blk b (lt_of_block h.st) hb).trans h.st, h.rd.keep hw hs, h.ne, h.le⟩
theorem IsR.ext {w' : World} (h : IsR w b A n c L at_ e) (hw : Below w.heap.size w w') : IsR w' b A n c L at_ e := h.keep (Only.of_below [] hw) (by simp) (by simp)
theorem IsR.drew (h : IsR w b A n c L at_ e) (k : Nat) : IsR (w.drewN k) b A n c L at_ e := ⟨h.st, h.rd.drew k, h.ne, h.le⟩
theorem IsR.setAt (h : IsR w b A n c L at_ e) (a2 : Nat) (h2 : a2 ≤ n) : IsR (w.setCell ⟨b, 1, none⟩ (.int .i64 a2)) b A n c L a2 e := by
  refine ⟨?_, ?_, h.ne, h2⟩
  · rw [heap_setCell_same _ b 1 _ _ _ h.st]; simp
  · exact h.rd.keep (S := [b]) ((Only.refl [b] w).setCell (by simp) _) (fun p hp => by simpa using h.ne p hp)
theorem IsR.setErr (h : IsR w b A n c L at_ e) (e2 : Int) : IsR (w.setCell ⟨b, 2, none⟩ (.int .i64 e2)) b A n c L at_ e2 := by
  refine ⟨?_, ?_, h.ne, h.le⟩
  · rw [heap_setCell_same _ b 2 _ _ _ h.st]; simp
  · exact h.rd.keep (S := [b]) ((Only.refl [b] w).setCell (by simp) _) (fun p hp => by simpa using h.ne p hp)
end
end Go.Proofs.Ytclafljkeaekfaa
