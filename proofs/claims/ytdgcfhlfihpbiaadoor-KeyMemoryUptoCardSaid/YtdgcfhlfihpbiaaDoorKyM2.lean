/- The plain law of the order of tuples. -/
import Derived.Test.YtdgcfhlfihpbiaaDoorKyMath
import Derived.Sort.Walk0
set_option linter.unusedVariables false
set_option linter.unusedSimpArgs false
namespace Go.Proofs.YtdgcfhlfihpbiaaDoor
open Go.RowKit
/-- the order of texts -/
def ltS (a b : ByteArray) : Bool := Op.bytesLess a.toList b.toList
theorem bl_irr : ∀ (l : List UInt8), Op.bytesLess l l = false
  | [] => rfl
  | a :: l => by
    show (decide (a < a) || (a == a && Op.bytesLess l l)) = false
    rw [bl_irr l]; simp
theorem bl_tri : ∀ (l m : List UInt8), l = m ∨ (Op.bytesLess l m = true ∧ Op.bytesLess m l = false) ∨ (Op.bytesLess l m = false ∧ Op.bytesLess m l = true)
  | [], [] => .inl rfl
  | [], _ :: _ => .inr (.inl ⟨rfl, rfl⟩)
  | _ :: _, [] => .inr (.inr ⟨rfl, rfl⟩)
  | a :: l, b :: m => by
    rcases Nat.lt_trichotomy a.toNat b.toNat with h | h | h
    · refine .inr (.inl ⟨?_, ?_⟩)
      · show (decide (a < b) || _) = true
        rw [decide_eq_true (UInt8.lt_iff_toNat_lt.2 h)]; rfl
      · show (decide (b < a) || (b == a && _)) = false
        rw [decide_eq_false (fun h2 => by have := UInt8.lt_iff_toNat_lt.1 h2; omega), beq_eq_false_iff_ne.2 (fun e => by rw [e] at h; omega)]; rfl
    · have e : a = b := UInt8.toNat_inj.1 h
      subst e
      have h1 : ∀ x y, Op.bytesLess (a :: x) (a :: y) = Op.bytesLess x y := fun x y => by
        show (decide (a < a) || (a == a && Op.bytesLess x y)) = _
        simp
      rw [h1, h1]
      rcases bl_tri l m with h2 | h2 | h2
      · exact .inl (by rw [h2])
      · exact .inr (.inl h2)
      · exact .inr (.inr h2)
    · refine .inr (.inr ⟨?_, ?_⟩)
      · show (decide (a < b) || (a == b && _)) = false
        rw [decide_eq_false (fun h2 => by have := UInt8.lt_iff_toNat_lt.1 h2; omega), beq_eq_false_iff_ne.2 (fun e => by rw [e] at h; omega)]; rfl
      · show (decide (b < a) || _) = true
        rw [decide_eq_true (UInt8.lt_iff_toNat_lt.2 h)]; rfl
theorem toList_inj' {a b : ByteArray} (h : a.toList = b.toList) : a = b := by
  rw [ByteArray.toList_eq, ByteArray.toList_eq] at h
  cases a; cases b; congr 1; exact Array.toList_inj.1 h
theorem ltS_tri (a b : ByteArray) : a = b ∨ (ltS a b = true ∧ ltS b a = false) ∨ (ltS a b = false ∧ ltS b a = true) := by
  rcases bl_tri a.toList b.toList with h | h | h
  · exact .inl (toList_inj' h)
  · exact .inr (.inl h)
  · exact .inr (.inr h)
theorem ltS_irr (a : ByteArray) : ltS a a = false := bl_irr _
def cmS (a b : ByteArray) : Int := if ltS a b then -1 else if a = b then 0 else 1
theorem cmS_cases (a b : ByteArray) : (cmS a b = 0 ∧ a = b ∧ ltS a b = false) ∨ (cmS a b = -1 ∧ ltS a b = true ∧ a ≠ b) ∨ (cmS a b = 1 ∧ ltS a b = false ∧ a ≠ b) := by
  unfold cmS
  rcases ltS_tri a b with h | h | h
  · subst h; left; rw [ltS_irr]; simp
  · right; left
    refine ⟨by simp [h.1], h.1, fun e => ?_⟩
    subst e; rw [ltS_irr] at h; simp at h
  · right; right
    have hne : a ≠ b := fun e => by subst e; rw [ltS_irr] at h; simp at h
    exact ⟨by simp [h.1, hne], h.1, hne⟩
theorem cmS_swap (a b : ByteArray) : cmS b a = -cmS a b := by
  unfold cmS
  rcases ltS_tri a b with h | h | h
  · subst h; rw [ltS_irr]; simp
  · have hne : a ≠ b := fun e => by subst e; rw [ltS_irr] at h; simp at h
    simp [h.1, h.2, Ne.symm hne]
  · have hne : a ≠ b := fun e => by subst e; rw [ltS_irr] at h; simp at h
    simp [h.1, h.2, hne]
/-- the order of tuples -/
def cmT : List ByteArray → List ByteArray → Int
  | [], [] => 0
  | [], _ :: _ => -1
  | _ :: _, [] => 1
  | x :: r, y :: s => if cmS x y = 0 then cmT r s else cmS x y
theorem cmT_swap : ∀ (l m : List ByteArray), cmT m l = -cmT l m
  | [], [] => rfl
  | [], _ :: _ => rfl
  | _ :: _, [] => rfl
  | x :: r, y :: s => by
    have h1 := cmS_swap x y
    have h2 := cmT_swap r s
    unfold cmT
    by_cases h : cmS x y = 0
    · rw [if_pos h, if_pos (by omega), h2]
    · rw [if_neg h, if_neg (by omega), h1]
theorem cmT_range : ∀ (l m : List ByteArray), cmT l m = -1 ∨ cmT l m = 0 ∨ cmT l m = 1
  | [], [] => by simp [cmT]
  | [], _ :: _ => by simp [cmT]
  | _ :: _, [] => by simp [cmT]
  | x :: r, y :: s => by
    unfold cmT
    split
    · exact cmT_range r s
    · rcases cmS_cases x y with h | h | h <;> rw [h.1] <;> simp
theorem dropT (l : List ByteArray) (k : Nat) (h : k < l.length) : l.drop k = l.getD k default :: l.drop (k + 1) := by
  rw [List.drop_eq_getElem_cons h, List.getD_eq_getElem?_getD, List.getElem?_eq_getElem h]; rfl
theorem cmT_step (l m : List ByteArray) (k : Nat) (h1 : k < l.length) (h2 : k < m.length) : cmT (l.drop k) (m.drop k) = if cmS (l.getD k default) (m.getD k default) = 0 then cmT (l.drop (k + 1)) (m.drop (k + 1)) else cmS (l.getD k default) (m.getD k default) := by
  rw [dropT l k h1, dropT m k h2, cmT]
theorem cmT_end1 (l m : List ByteArray) (k : Nat) (h1 : l.length ≤ k) (h2 : k < m.length) : cmT (l.drop k) (m.drop k) = -1 := by
  rw [List.drop_eq_nil_of_le h1, dropT m k h2, cmT]
theorem cmT_end2 (l m : List ByteArray) (k : Nat) (h1 : k < l.length) (h2 : m.length ≤ k) : cmT (l.drop k) (m.drop k) = 1 := by
  rw [List.drop_eq_nil_of_le h2, dropT l k h1, cmT]
theorem cmT_end0 (l m : List ByteArray) (k : Nat) (h1 : l.length ≤ k) (h2 : m.length ≤ k) : cmT (l.drop k) (m.drop k) = 0 := by
  rw [List.drop_eq_nil_of_le h1, List.drop_eq_nil_of_le h2, cmT]
end Go.Proofs.YtdgcfhlfihpbiaaDoor
