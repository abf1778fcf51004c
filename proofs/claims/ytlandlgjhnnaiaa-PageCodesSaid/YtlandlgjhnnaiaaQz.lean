/- Slices of the call's own, told by their one block: nil, or in one block. -/
import Derived.Test.YtlandlgjhnnaiaaOwn
import Derived.Test.YtlandlgjhnnaiaaOnly
set_option linter.unusedVariables false
set_option linter.unusedSimpArgs false
namespace Go.Proofs.Ytlandlgjhnnaiaa
open Go.RowKit
def RowZ (t : TypeId) (sz : Nat) (o : Obj) (n c : Nat) (vs : List Value) : Prop := ∃ cur : Array Value, o = .cells cur t (0, 0) ∧ vs.length = n * sz ∧ n ≤ c ∧ c ≤ maxLen ∧ cur.size = c * sz ∧ cur.toList.take (n * sz) = vs
/-- a slice of the call's own: nil, or in the one block of Q -/
def QV (t : TypeId) (sz : Nat) (v : Value) (n : Nat) (vs : List Value) (Q : List (Nat × Obj)) : Prop :=
  (v = .slice none 0 0 ∧ n = 0 ∧ vs = [] ∧ Q = []) ∨ ∃ k c o, v = .slice (some ⟨k, 0, none⟩) n c ∧ Q = [(k, o)] ∧ RowZ t sz o n c vs
theorem QV.nil (t : TypeId) (sz : Nat) : QV t sz (.slice none 0 0) 0 [] [] := .inl ⟨rfl, rfl, rfl, rfl⟩
theorem RowZ.owns {t : TypeId} {sz k n c base : Nat} {o : Obj} {vs : List Value} {w : World} (h : RowZ t sz o n c vs) (hk : w.heap[k]? = some o) (hb : base ≤ k) : w.ownsRow base t sz (.slice (some ⟨k, 0, none⟩) n c) n vs := by
  obtain ⟨cur, rfl, h1, h2, h3, h4, h5⟩ := h
  exact ⟨h1, .inr ⟨k, c, cur, rfl, hb, hk, h2, h3, h4, h5⟩⟩
theorem RowZ.of {t : TypeId} {sz n base : Nat} {vs : List Value} {v : Value} {w : World} (h : w.ownsRow base t sz v n vs) (hn : 0 < n) : ∃ k c o, v = .slice (some ⟨k, 0, none⟩) n c ∧ w.heap[k]? = some o ∧ RowZ t sz o n c vs := by
  rcases h.2 with ⟨_, h0⟩ | ⟨g, cap, cur, rfl, hb, hh, h1, h2, h3, h4⟩
  · omega
  · exact ⟨g, cap, _, rfl, hh, cur, rfl, h.1, h1, h2, h3, h4⟩
theorem QV.owns {t : TypeId} {sz n : Nat} {vs : List Value} {v : Value} {Q : List (Nat × Obj)} {w : World} (h : QV t sz v n vs Q) (hQ : ∀ p ∈ Q, w.heap[p.1]? = some p.2) : w.ownsRow 0 t sz v n vs := by
  rcases h with ⟨rfl, rfl, rfl, rfl⟩ | ⟨k, c, o, rfl, rfl, hr⟩
  · exact World.ownsRow_nil _ _ _ _
  · exact hr.owns (hQ (k, o) (by simp)) (Nat.zero_le _)
theorem QV.slice {t : TypeId} {sz n : Nat} {vs : List Value} {v : Value} {Q : List (Nat × Obj)} (h : QV t sz v n vs Q) : ∃ A c, v = .slice A n c := by
  rcases h with ⟨rfl, rfl, rfl, rfl⟩ | ⟨k, c, o, rfl, rfl, hr⟩
  · exact ⟨none, 0, rfl⟩
  · exact ⟨_, c, rfl⟩
theorem QV.ownsB {t : TypeId} {sz n base : Nat} {vs : List Value} {v : Value} {Q : List (Nat × Obj)} {w : World} (h : QV t sz v n vs Q) (hQ : ∀ p ∈ Q, w.heap[p.1]? = some p.2) (hb : ∀ p ∈ Q, base ≤ p.1) : w.ownsRow base t sz v n vs := by
  rcases h with ⟨rfl, rfl, rfl, rfl⟩ | ⟨k, c, o, rfl, rfl, hr⟩
  · exact World.ownsRow_nil _ _ _ _
  · exact hr.owns (hQ (k, o) (by simp)) (hb (k, o) (by simp))
end Go.Proofs.Ytlandlgjhnnaiaa
