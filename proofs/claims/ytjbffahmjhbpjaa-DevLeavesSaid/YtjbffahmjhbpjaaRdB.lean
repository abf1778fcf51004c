/- Words on memory: a slice of bools that is read. -/
import Derived.Test.YtjbffahmjhbpjaaW
set_option linter.unusedVariables false
set_option linter.unusedSimpArgs false
namespace Go.Proofs.Ytjbffahmjhbpjaa
open Go.RowKit
structure RdB (w : World) (A : Option Addr) (n c : Nat) (l : List Bool) : Prop where
  len : l.length = n
  cap : n ≤ c
  max : n ≤ 140737488355328
  at_ : 0 < n → ∃ b o, A = some ⟨b, o, none⟩ ∧ ∀ j, j < n → w.cell? ⟨b, o + j, none⟩ = some (.bool (l.getD j false))
theorem RdB.ext {w w' : World} {A : Option Addr} {n c : Nat} {l : List Bool} (h : RdB w A n c l) (hb : Below w.heap.size w w') : RdB w' A n c l :=
  ⟨h.len, h.cap, h.max, fun hn => by
    obtain ⟨b, o, e, hc⟩ := h.at_ hn
    exact ⟨b, o, e, fun j hj => (hb.cell (World.block_lt_of_cell? w _ (hc j hj))).trans (hc j hj)⟩⟩
end Go.Proofs.Ytjbffahmjhbpjaa
