/- Bursts in a block that bears its sum in its middle: told, where they lie in one stretch. Plain. -/
import Derived.Test.YtlandlgjhnnaiaaSumMath2
import Derived.Test.YtlandlgjhnnaiaaAnMath
set_option linter.unusedVariables false
set_option linter.unusedSimpArgs false
namespace Go.Proofs.Ytlandlgjhnnaiaa
open SumMath
/-- bit k of a string -/
def bitL (l : List UInt8) (k : Nat) : Bool := (l.getD (k / 8) 0).toNat.testBit (k % 8)
theorem u8_bits {a b : UInt8} (h : ∀ i, i < 8 → a.toNat.testBit i = b.toNat.testBit i) : a = b := by
  apply UInt8.toNat_inj.1
  apply Nat.eq_of_testBit_eq
  intro i
  by_cases hi : i < 8
  · exact h i hi
  · have ha := a.toNat_lt
    have hb := b.toNat_lt
    have hp : 2 ^ 8 ≤ 2 ^ i := Nat.pow_le_pow_right (by decide) (by omega)
    rw [Nat.testBit_lt_two_pow (by omega), Nat.testBit_lt_two_pow (by omega)]
theorem bitL_ext {l m : List UInt8} (hl : l.length = m.length) (h : ∀ k, k < 8 * l.length → bitL l k = bitL m k) : l = m := by
  apply List.ext_getElem hl
  intro j h1 h2
  apply u8_bits
  intro i hi
  have h3 := h (8 * j + i) (by omega)
  unfold bitL at h3
  rw [show (8 * j + i) / 8 = j by omega, show (8 * j + i) % 8 = i by omega] at h3
  simpa [List.getD_eq_getElem?_getD, List.getElem?_eq_getElem h1, List.getElem?_eq_getElem h2] using h3
theorem bitL_flip1 (l : List UInt8) (k j : Nat) (hk : k < 8 * l.length) : bitL (flip1 l k) j = (bitL l j ^^ decide (j = k)) := by
  have hkl : k / 8 < l.length := by omega
  unfold bitL flip1
  by_cases hj : j / 8 = k / 8
  · rw [hj, List.getD_eq_getElem?_getD, List.getElem?_set, if_pos rfl, if_pos hkl]
    show (l.getD (k / 8) 0 ^^^ UInt8.ofNat (2 ^ (k % 8))).toNat.testBit (j % 8) = _
    have h2 : 2 ^ (k % 8) < 256 := by
      have : k % 8 < 8 := Nat.mod_lt _ (by decide)
      calc 2 ^ (k % 8) ≤ 2 ^ 7 := Nat.pow_le_pow_right (by decide) (by omega)
        _ < 256 := by decide
    rw [UInt8.toNat_xor, Nat.testBit_xor, UInt8.toNat_ofNat', Nat.mod_eq_of_lt h2, Nat.testBit_two_pow]
    congr 1
    by_cases e : j = k
    · subst e; simp
    · have : ¬ k % 8 = j % 8 := by omega
      simp [this, e]
  · have e : ¬ j = k := fun e => hj (by rw [e])
    rw [List.getD_eq_getElem?_getD, List.getElem?_set, if_neg (fun h => hj h.symm), ← List.getD_eq_getElem?_getD]
    simp [e]
theorem bitL_flips (l : List UInt8) (at_ : Nat) (mask : BitVec 32) (j : Nat) (hj : j < 8 * l.length) : ∀ n, bitL (flips l at_ mask n) j = (bitL l j ^^ (decide (at_ ≤ j ∧ j < at_ + n) && mask.getLsbD (j - at_)))
  | 0 => by
    have : ¬ (at_ ≤ j ∧ j < at_ + 0) := by omega
    rw [decide_eq_false this]; simp [flips]
  | n + 1 => by
    have ih := bitL_flips l at_ mask j hj n
    rw [flips]
    by_cases hc : mask.getLsbD n = true ∧ at_ + n < 8 * l.length
    · rw [if_pos hc, bitL_flip1 _ _ _ (by rw [flips_length]; exact hc.2), ih]
      by_cases e : j = at_ + n
      · subst e
        have h1 : ¬ (at_ ≤ at_ + n ∧ at_ + n < at_ + n) := by omega
        have h2 : at_ ≤ at_ + n ∧ at_ + n < at_ + (n + 1) := by omega
        simp [h1, h2, hc.1]
      · have h1 : (at_ ≤ j ∧ j < at_ + (n + 1)) ↔ (at_ ≤ j ∧ j < at_ + n) := by omega
        simp [e, h1]
    · rw [if_neg hc, ih]
      by_cases e : j = at_ + n
      · subst e
        have h1 : ¬ (at_ ≤ at_ + n ∧ at_ + n < at_ + n) := by omega
        have h3 : mask.getLsbD n = false := by
          cases h : mask.getLsbD n
          · rfl
          · exact absurd ⟨h, hj⟩ hc
        simp [h1, h3]
      · have h1 : (at_ ≤ j ∧ j < at_ + (n + 1)) ↔ (at_ ≤ j ∧ j < at_ + n) := by omega
        simp [h1]
theorem bitL_append (l m : List UInt8) (k : Nat) : bitL (l ++ m) k = if k < 8 * l.length then bitL l k else bitL m (k - 8 * l.length) := by
  unfold bitL
  by_cases h : k < 8 * l.length
  · rw [if_pos h, List.getD_eq_getElem?_getD, List.getElem?_append_left (by omega), ← List.getD_eq_getElem?_getD]
  · rw [if_neg h, List.getD_eq_getElem?_getD, List.getElem?_append_right (by omega), ← List.getD_eq_getElem?_getD]
    rw [show (k - 8 * l.length) / 8 = k / 8 - l.length by omega, show (k - 8 * l.length) % 8 = k % 8 by omega]
theorem bitL_take (l : List UInt8) (p k : Nat) (h : k < 8 * p) : bitL (l.take p) k = bitL l k := by
  unfold bitL
  rw [List.getD_eq_getElem?_getD, List.getElem?_take, if_pos (by omega), ← List.getD_eq_getElem?_getD]
theorem bitL_drop (l : List UInt8) (p k : Nat) : bitL (l.drop p) k = bitL l (8 * p + k) := by
  unfold bitL
  rw [List.getD_eq_getElem?_getD, List.getElem?_drop, ← List.getD_eq_getElem?_getD, show (8 * p + k) / 8 = p + k / 8 by omega, show (8 * p + k) % 8 = k % 8 by omega]
/-- all but the four bytes of the sum -/
def bodyL (p : Nat) (y : List UInt8) : List UInt8 := y.take p ++ y.drop (p + 4)
/-- the block bears its sum -/
def Good (p : Nat) (y : List UInt8) : Prop := seg y p 4 = leB 4 ((crc 0#32 (bodyL p y)).toNat : Nat)
theorem leB4_inj {a b : BitVec 32} (h : leB 4 (a.toNat : Nat) = leB 4 (b.toNat : Nat)) : a = b := by
  have h1 := leN_leB 4 (a.toNat : Nat)
  have h2 := leN_leB 4 (b.toNat : Nat)
  rw [h] at h1
  have ha := a.isLt
  have hb := b.isLt
  have p4 : ((256 ^ 4 : Nat) : Int) = 4294967296 := by decide
  rw [p4] at h1 h2
  apply BitVec.eq_of_toNat_eq
  omega
theorem bodyL_len {p : Nat} {y : List UInt8} (h : p + 4 ≤ y.length) : (bodyL p y).length = y.length - 4 := by
  unfold bodyL
  rw [List.length_append, List.length_take, List.length_drop]; omega
theorem bodyL_bit {p : Nat} {y : List UInt8} (h : p + 4 ≤ y.length) (k : Nat) : bitL (bodyL p y) k = if k < 8 * p then bitL y k else bitL y (k + 32) := by
  unfold bodyL
  rw [bitL_append, List.length_take, Nat.min_eq_left (by omega)]
  by_cases hk : k < 8 * p
  · rw [if_pos hk, if_pos hk, bitL_take _ _ _ hk]
  · rw [if_neg hk, if_neg hk, bitL_drop]; congr 1; omega
theorem seg_bit (y : List UInt8) (p k : Nat) (hk : k < 32) : bitL (seg y p 4) k = bitL y (8 * p + k) := by
  unfold seg
  rw [bitL_take _ _ _ (by omega), bitL_drop]
/-- a burst within one stretch: ahead of the sum, in it, or behind it -/
theorem burst_blk (p : Nat) (x : List UInt8) (at_ : Nat) (mask : BitVec 32) (hp : 4 ≤ p) (hl : p + 4 ≤ x.length) (hx : Good p x)
    (hs : (∀ i, i < 32 → mask.getLsbD i = true → at_ + i < 8 * x.length → at_ + i < 8 * p) ∨ (∀ i, i < 32 → mask.getLsbD i = true → at_ + i < 8 * x.length → 8 * p ≤ at_ + i ∧ at_ + i < 8 * p + 32) ∨ (∀ i, i < 32 → mask.getLsbD i = true → at_ + i < 8 * x.length → 8 * p + 32 ≤ at_ + i))
    (hy : Good p (flips x at_ mask 32)) : flips x at_ mask 32 = x := by
  obtain ⟨y, hye⟩ : ∃ y, y = flips x at_ mask 32 := ⟨_, rfl⟩
  have hyl : y.length = x.length := by rw [hye, flips_length]
  have hb : ∀ j, j < 8 * x.length → bitL y j = (bitL x j ^^ (decide (at_ ≤ j ∧ j < at_ + 32) && mask.getLsbD (j - at_))) := fun j hj => by rw [hye]; exact bitL_flips x at_ mask j hj 32
  rw [← hye] at hy ⊢
  have hN : ∀ j, j < 8 * x.length → (∀ i, i < 32 → j = at_ + i → mask.getLsbD i = false) → bitL y j = bitL x j := fun j hj h => by
    rw [hb j hj]
    by_cases hc : at_ ≤ j ∧ j < at_ + 32
    · have := h (j - at_) (by omega) (by omega)
      simp [this]
    · simp [hc]
  unfold Good at hx hy
  rcases hs with hs | hs | hs
  · -- ahead
    have hseg : seg y p 4 = seg x p 4 := by
      apply bitL_ext
      · rw [seg_len _ _ _ (by omega), seg_len _ _ _ (by omega)]
      · intro k hk
        rw [seg_len _ _ _ (by omega)] at hk
        rw [seg_bit _ _ _ (by omega), seg_bit _ _ _ (by omega)]
        refine hN _ (by omega) fun i hi e => ?_
        cases hm : mask.getLsbD i
        · rfl
        · have := hs i hi hm (by omega); omega
    have hcrc := leB4_inj (hy.symm.trans (hseg.trans hx))
    have hbody : bodyL p y = flips (bodyL p x) at_ mask 32 := by
      apply bitL_ext
      · rw [flips_length, bodyL_len (by omega), bodyL_len (by omega), hyl]
      · intro k hk
        rw [bodyL_len (by omega), hyl] at hk
        rw [bitL_flips _ _ _ _ (by rw [bodyL_len (by omega)]; exact hk), bodyL_bit (by omega), bodyL_bit (by omega)]
        by_cases hkp : k < 8 * p
        · rw [if_pos hkp, if_pos hkp, hb k (by omega)]
        · rw [if_neg hkp, if_neg hkp, hN (k + 32) (by omega) fun i hi e => ?_]
          · by_cases hc : at_ ≤ k ∧ k < at_ + 32
            · have : mask.getLsbD (k - at_) = false := by
                cases hm : mask.getLsbD (k - at_)
                · rfl
                · have := hs (k - at_) (by omega) hm (by omega); omega
              simp [this]
            · simp [hc]
          · cases hm : mask.getLsbD i
            · rfl
            · have := hs i hi hm (by omega); omega
    rw [hbody] at hcrc
    have he := burst_crc (bodyL p x) at_ mask hcrc
    apply bitL_ext hyl
    intro k hk
    rw [hyl] at hk
    by_cases hkp : k < 8 * p
    · have h1 := congrArg (fun l => bitL l k) (hbody.trans he)
      simp only [bodyL_bit (show p + 4 ≤ y.length by omega), bodyL_bit hl, if_pos hkp] at h1
      exact h1
    · refine hN k (by omega) fun i hi e => ?_
      cases hm : mask.getLsbD i
      · rfl
      · have := hs i hi hm (by omega); omega
  · -- in it
    have hbody : bodyL p y = bodyL p x := by
      apply bitL_ext
      · rw [bodyL_len (by omega), bodyL_len (by omega), hyl]
      · intro k hk
        rw [bodyL_len (by omega), hyl] at hk
        rw [bodyL_bit (by omega), bodyL_bit (by omega)]
        split
        · refine hN k (by omega) fun i hi e => ?_
          cases hm : mask.getLsbD i
          · rfl
          · have := hs i hi hm (by omega); omega
        · refine hN (k + 32) (by omega) fun i hi e => ?_
          cases hm : mask.getLsbD i
          · rfl
          · have := hs i hi hm (by omega); omega
    have hseg : seg y p 4 = seg x p 4 := by rw [hy, hx, hbody]
    apply bitL_ext hyl
    intro k hk
    rw [hyl] at hk
    by_cases hks : 8 * p ≤ k ∧ k < 8 * p + 32
    · have h1 := congrArg (fun l => bitL l (k - 8 * p)) hseg
      simp only [seg_bit _ _ _ (show k - 8 * p < 32 by omega)] at h1
      rwa [show 8 * p + (k - 8 * p) = k by omega] at h1
    · refine hN k (by omega) fun i hi e => ?_
      cases hm : mask.getLsbD i
      · rfl
      · have := hs i hi hm (by omega); omega
  · -- behind
    by_cases hany : ∃ i, i < 32 ∧ mask.getLsbD i = true ∧ at_ + i < 8 * x.length
    · obtain ⟨i0, hi0, hm0, hl0⟩ := hany
      have hat : 32 ≤ at_ := by have := hs i0 hi0 hm0 hl0; omega
      have hseg : seg y p 4 = seg x p 4 := by
        apply bitL_ext
        · rw [seg_len _ _ _ (by omega), seg_len _ _ _ (by omega)]
        · intro k hk
          rw [seg_len _ _ _ (by omega)] at hk
          rw [seg_bit _ _ _ (by omega), seg_bit _ _ _ (by omega)]
          refine hN _ (by omega) fun i hi e => ?_
          cases hm : mask.getLsbD i
          · rfl
          · have := hs i hi hm (by omega); omega
      have hcrc := leB4_inj (hy.symm.trans (hseg.trans hx))
      have hbody : bodyL p y = flips (bodyL p x) (at_ - 32) mask 32 := by
        apply bitL_ext
        · rw [flips_length, bodyL_len (by omega), bodyL_len (by omega), hyl]
        · intro k hk
          rw [bodyL_len (by omega), hyl] at hk
          rw [bitL_flips _ _ _ _ (by rw [bodyL_len (by omega)]; exact hk), bodyL_bit (by omega), bodyL_bit (by omega)]
          by_cases hkp : k < 8 * p
          · rw [if_pos hkp, if_pos hkp, hN k (by omega) fun i hi e => ?_]
            · by_cases hc : at_ - 32 ≤ k ∧ k < at_ - 32 + 32
              · have : mask.getLsbD (k - (at_ - 32)) = false := by
                  cases hm : mask.getLsbD (k - (at_ - 32))
                  · rfl
                  · have := hs (k - (at_ - 32)) (by omega) hm (by omega); omega
                simp [this]
              · rw [decide_eq_false hc]; simp
            · cases hm : mask.getLsbD i
              · rfl
              · have := hs i hi hm (by omega); omega
          · rw [if_neg hkp, if_neg hkp, hb (k + 32) (by omega)]
            have e1 : (at_ ≤ k + 32 ∧ k + 32 < at_ + 32) ↔ (at_ - 32 ≤ k ∧ k < at_ - 32 + 32) := by omega
            by_cases hc : at_ - 32 ≤ k ∧ k < at_ - 32 + 32
            · have e2 : k + 32 - at_ = k - (at_ - 32) := by omega
              simp only [e1, e2]
            · simp only [e1, hc, decide_false, Bool.false_and]
      rw [hbody] at hcrc
      have he := burst_crc (bodyL p x) (at_ - 32) mask hcrc
      apply bitL_ext hyl
      intro k hk
      rw [hyl] at hk
      by_cases hkp : 8 * p + 32 ≤ k
      · have h1 := congrArg (fun l => bitL l (k - 32)) (hbody.trans he)
        simp only [bodyL_bit (show p + 4 ≤ y.length by omega), bodyL_bit hl, if_neg (show ¬ k - 32 < 8 * p by omega)] at h1
        rwa [show k - 32 + 32 = k by omega] at h1
      · refine hN k (by omega) fun i hi e => ?_
        cases hm : mask.getLsbD i
        · rfl
        · have := hs i hi hm (by omega); omega
    · apply bitL_ext hyl
      intro k hk
      rw [hyl] at hk
      refine hN k (by omega) fun i hi e => ?_
      cases hm : mask.getLsbD i
      · rfl
      · exact absurd ⟨i, hi, hm, by omega⟩ hany
end Go.Proofs.Ytlandlgjhnnaiaa
