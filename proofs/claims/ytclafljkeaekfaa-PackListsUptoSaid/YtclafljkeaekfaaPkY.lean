/- The reference's reader in memory. -/
import Derived.Test.YtclafljkeaekfaaPk5
set_option linter.unusedVariables false
set_option linter.unusedSimpArgs false
namespace Go.Proofs.Ytclafljkeaekfaa
open Go.RowKit
/-- a reader: its struct in block b; its bytes in another -/
structure IsY (w : World) (b : Nat) (A : Option Addr) (n c : Nat) (L : List UInt8) (at_ : Nat) (e : Int) : Prop where
  st : w.heap[b]? = some (.cells #[.slice A n c, .int .i64 at_, .int .i64 e] 93 (0, 0))
  rd : Rd w A n c L
  ne : ∀ p, A = some p → p.block ≠ b
  le : at_ ≤ n
section
variable {w : World} {b n c at_ : Nat} {A : Option Addr} {L : List UInt8} {e : Int}
theorem IsY.cell (h : IsY w b A n c L at_ e) (j : Nat) : w.cell? ⟨b, j, none⟩ = #[.slice A n c, .int .i64 at_, .int .i64 e][j]? := by rw [cell_of_row _ _ _ _ _ _ h.st]
theorem IsY.c0 (h : IsY w b A n c L at_ e) : w.cell? ⟨b, 0, none⟩ = some (.slice A n c) := h.cell 0
theorem IsY.c1 (h : IsY w b A n c L at_ e) : w.cell? ⟨b, 1, none⟩ = some (.int .i64 at_) := h.cell 1
theorem IsY.c2 (h : IsY w b A n c L at_ e) : w.cell? ⟨b, 2, none⟩ = some (.int .i64 e) := h.cell 2
theorem IsY.fz (h : IsY w b A n c L at_ e) (j : Nat) : w.frozen? ⟨b, j, none⟩ = false := frozen_of_row w _ _ _ _ h.st
theorem IsY.lt (h : IsY w b A n c L at_ e) : b < w.heap.size := lt_of_block h.st
theorem IsY.keep {w' : World} {S : List Nat} (h : IsY w b A n c L at_ e) (hw : Only S w w') (hb : b ∉ S) (hs : ∀ p, A = some p → p.block ∉ S) : IsY w' b A n c L at_ e :=
  ⟨(hw.blk b (lt_of_block h.st) hb).trans h.st, h.rd.keep hw hs, h.ne, h.le⟩
theorem IsY.ext {w' : World} (h : IsY w b A n c L at_ e) (hw : Below w.heap.size w w') : IsY w' b A n c L at_ e := h.keep (Only.of_below [] hw) (by simp) (by simp)
theorem IsY.drew (h : IsY w b A n c L at_ e) (k : Nat) : IsY (w.drewN k) b A n c L at_ e := ⟨h.st, h.rd.drew k, h.ne, h.le⟩
theorem IsY.setAt (h : IsY w b A n c L at_ e) (a2 : Nat) (h2 : a2 ≤ n) : IsY (w.setCell ⟨b, 1, none⟩ (.int .i64 a2)) b A n c L a2 e := by
  refine ⟨?_, ?_, h.ne, h2⟩
  · rw [heap_setCell_same _ b 1 _ _ _ h.st]; simp
  · exact h.rd.keep (S := [b]) ((Only.refl [b] w).setCell (by simp) _) (fun p hp => by simpa using h.ne p hp)
theorem IsY.setErr (h : IsY w b A n c L at_ e) (e2 : Int) : IsY (w.setCell ⟨b, 2, none⟩ (.int .i64 e2)) b A n c L at_ e2 := by
  refine ⟨?_, ?_, h.ne, h.le⟩
  · rw [heap_setCell_same _ b 2 _ _ _ h.st]; simp
  · exact h.rd.keep (S := [b]) ((Only.refl [b] w).setCell (by simp) _) (fun p hp => by simpa using h.ne p hp)
end
end Go.Proofs.Ytclafljkeaekfaa
