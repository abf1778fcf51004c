/- Numbers as eight bytes, the plain law. -/
import Derived.Test.YtdgcfhlfihpbiaaDoorKyM3
set_option linter.unusedVariables false
set_option linter.unusedSimpArgs false
namespace Go.Proofs.YtdgcfhlfihpbiaaDoor
open Go.RowKit
def beN : Nat → Nat → List UInt8
  | 0, _ => []
  | k + 1, n => UInt8.ofNat (n / 256 ^ k) :: beN k n
theorem beN_len : ∀ k n, (beN k n).length = k
  | 0, _ => rfl
  | k + 1, n => by rw [beN, List.length_cons, beN_len k n]
def unB : List UInt8 → Nat
  | [] => 0
  | c :: r => c.toNat * 256 ^ r.length + unB r
theorem unB_lt : ∀ l : List UInt8, unB l < 256 ^ l.length
  | [] => by simp [unB]
  | c :: r => by
    have h1 := unB_lt r
    have h2 := c.toNat_lt
    rw [unB, List.length_cons, Nat.pow_succ]
    have h3 : c.toNat * 256 ^ r.length ≤ 255 * 256 ^ r.length := Nat.mul_le_mul_right _ (by omega)
    omega
theorem unB_beN : ∀ k n, unB (beN k n) = n % 256 ^ k
  | 0, n => by simp [beN, unB]; omega
  | k + 1, n => by
    rw [beN, unB, beN_len, unB_beN k n, Nat.mod_pow_succ, UInt8.toNat_ofNat']
    have : (2 : Nat) ^ 8 = 256 := rfl
    rw [this, Nat.mul_comm]
    omega
theorem unB_snoc (c : UInt8) : ∀ l : List UInt8, unB (l ++ [c]) = unB l * 256 + c.toNat
  | [] => by simp [unB]
  | a :: r => by
    rw [List.cons_append, unB, unB, unB_snoc c r, List.length_append, List.length_singleton, Nat.pow_succ, Nat.add_mul, Nat.mul_assoc]
    omega
theorem unB_less : ∀ l m : List UInt8, l.length = m.length → Op.bytesLess l m = decide (unB l < unB m)
  | [], [], _ => rfl
  | [], _ :: _, h => by simp at h
  | _ :: _, [], h => by simp at h
  | a :: l, b :: m, h => by
    simp only [List.length_cons, Nat.add_right_cancel_iff] at h
    have h1 := unB_lt l
    have h2 := unB_lt m
    rw [unB, unB, h]
    rw [h] at h1
    by_cases e : a = b
    · subst e
      rw [bl_eq, unB_less l m h]
      exact decide_eq_decide.2 (by omega)
    · rw [bl_ne e]
      refine decide_eq_decide.2 ?_
      rw [UInt8.lt_iff_toNat_lt]
      constructor
      · intro hlt
        have h3 : (a.toNat + 1) * 256 ^ m.length ≤ b.toNat * 256 ^ m.length := Nat.mul_le_mul_right _ (by omega)
        rw [Nat.add_mul] at h3
        omega
      · intro hlt
        rcases Nat.lt_trichotomy a.toNat b.toNat with h3 | h3 | h3
        · exact h3
        · exact absurd (UInt8.toNat_inj.1 h3) e
        · have h4 : (b.toNat + 1) * 256 ^ m.length ≤ a.toNat * 256 ^ m.length := Nat.mul_le_mul_right _ (by omega)
          rw [Nat.add_mul] at h4
          omega
/-- Number -/
def nbA (n : Int) : ByteArray × Int := if n < 0 then (⟨#[]⟩, 1) else (bstr (beN 8 n.toNat), 0)
/-- Unnumber -/
def unA (s : ByteArray) : Int × Int := if s.size ≠ 8 ∨ 127 < (s.data.toList.getD 0 0).toNat then (0, 2) else ((unB s.data.toList : Nat), 0)
theorem un_nb (n : Nat) (h : n < 9223372036854775808) : unA (bstr (beN 8 n)) = ((n : Int), 0) := by
  have h1 : (bstr (beN 8 n)).data.toList = beN 8 n := rfl
  unfold unA
  rw [h1, bstr_size, beN_len, if_neg, unB_beN, Nat.mod_eq_of_lt (by omega)]
  rintro (h2 | h2)
  · exact h2 rfl
  · rw [show (beN 8 n).getD 0 0 = UInt8.ofNat (n / 256 ^ 7) from rfl, UInt8.toNat_ofNat'] at h2
    omega
theorem nb_less (m n : Nat) (hm : m < 9223372036854775808) (hn : n < 9223372036854775808) : ltS (bstr (beN 8 m)) (bstr (beN 8 n)) = decide (m < n) := by
  rw [← ltS_data]
  show Op.bytesLess (beN 8 m) (beN 8 n) = _
  rw [unB_less _ _ (by rw [beN_len, beN_len]), unB_beN, unB_beN, Nat.mod_eq_of_lt (by omega), Nat.mod_eq_of_lt (by omega)]
theorem nb_inj {m n : Nat} (hm : m < 9223372036854775808) (hn : n < 9223372036854775808) (h : bstr (beN 8 m) = bstr (beN 8 n)) : m = n := by
  have h1 := congrArg unB (bstr_inj h)
  rw [unB_beN, unB_beN, Nat.mod_eq_of_lt (by omega), Nat.mod_eq_of_lt (by omega)] at h1
  exact h1
/-- the tuple (part, number) stands as the numbers -/
theorem cm_pair (p x y : ByteArray) : (cmT [p, x] [p, y] = -1) ↔ ltS x y = true := by
  have h0 : cmS p p = 0 := by unfold cmS; rw [ltS_irr]; simp
  rw [cmT, if_pos h0, cmT]
  rcases cmS_cases x y with ⟨h1, h2, h3⟩ | ⟨h1, h2, h3⟩ | ⟨h1, h2, h3⟩
  · rw [if_pos h1, h3, cmT]; simp
  · rw [if_neg (by omega), h1, h2]; simp
  · rw [if_neg (by omega), h1, h2]; simp
def zs (j : Nat) (n : Nat) : List UInt8 := (beN 8 n).take j ++ List.replicate (8 - j) 0
theorem zs_step (n j : Nat) (h : j < 8) : zs (j + 1) n = (zs j n).set j (UInt8.ofNat (n / 256 ^ (7 - j))) := by
  rcases (by omega : j = 0 ∨ j = 1 ∨ j = 2 ∨ j = 3 ∨ j = 4 ∨ j = 5 ∨ j = 6 ∨ j = 7) with rfl | rfl | rfl | rfl | rfl | rfl | rfl | rfl <;> rfl
theorem zs_end (n : Nat) : zs 8 n = beN 8 n := by rfl
/-- the reference's: from the low byte on -/
def zt (j : Nat) (n : Nat) : List UInt8 := List.replicate (8 - j) 0 ++ (beN 8 n).drop (8 - j)
theorem zt_step (n j : Nat) (h : j < 8) : zt (j + 1) n = (zt j n).set (7 - j) (UInt8.ofNat (n / 256 ^ j)) := by
  rcases (by omega : j = 0 ∨ j = 1 ∨ j = 2 ∨ j = 3 ∨ j = 4 ∨ j = 5 ∨ j = 6 ∨ j = 7) with rfl | rfl | rfl | rfl | rfl | rfl | rfl | rfl <;> rfl
theorem zt_end (n : Nat) : zt 8 n = beN 8 n := by rfl
theorem ofNat_int (n : Nat) : ((UInt8.ofNat n).toNat : Int) = (n : Int) % 256 := by rw [UInt8.toNat_ofNat']; omega
theorem Own.made8 (W : World) (base : Nat) (hb : base ≤ W.heap.size) : Own (W.alloc (.cells (zc 8) 5)) base (.slice (some ⟨W.heap.size, 0, none⟩) 8 8) 8 (List.replicate 8 0) :=
  ⟨by simp [bv_length], .inr ⟨W.heap.size, 8, _, rfl, hb, heap_alloc_new W _, by omega, by decide, by simp [zc, size_madeCells], by simp [zc, madeCells, bv]; first | done | rfl | decide⟩⟩
end Go.Proofs.YtdgcfhlfihpbiaaDoor
