/- Bits turned over in one stretch of a block with its sum at byte p: what the laws' helper turned does. Plain. -/
import Derived.Test.YtlandlgjhnnaiaaAnBst
set_option linter.unusedVariables false
set_option linter.unusedSimpArgs false
namespace Go.Proofs.Ytlandlgjhnnaiaa
open SumMath
/-- the stretch of a bit: ahead of the sum, in it, behind it -/
def stB (p k : Nat) : Nat := if 8 * p + 32 ≤ k then 3 else if 8 * p ≤ k then 2 else 1
def tuS (p N at_ : Nat) (mask : BitVec 32) : Nat → Nat
  | 0 => 0
  | i + 1 => if mask.getLsbD i = true ∧ at_ + i < 8 * N ∧ tuS p N at_ mask i = 0 then stB p (at_ + i) else tuS p N at_ mask i
/-- bit i is turned over -/
def tuH (p N at_ : Nat) (mask : BitVec 32) (i : Nat) : Prop := mask.getLsbD i = true ∧ at_ + i < 8 * N ∧ stB p (at_ + i) = tuS p N at_ mask (i + 1)
instance (p N at_ : Nat) (mask : BitVec 32) (i : Nat) : Decidable (tuH p N at_ mask i) := by unfold tuH; infer_instance
def tuB (p at_ : Nat) (mask : BitVec 32) (x : List UInt8) : Nat → List UInt8
  | 0 => x
  | i + 1 => if tuH p x.length at_ mask i then flip1 (tuB p at_ mask x i) (at_ + i) else tuB p at_ mask x i
def tuN (p N at_ : Nat) (mask : BitVec 32) : Nat → Nat
  | 0 => 0
  | i + 1 => if tuH p N at_ mask i then tuN p N at_ mask i + 1 else tuN p N at_ mask i
theorem tuB_len (p at_ : Nat) (mask : BitVec 32) (x : List UInt8) : ∀ i, (tuB p at_ mask x i).length = x.length
  | 0 => rfl
  | i + 1 => by
    rw [tuB]; split
    · rw [flip1_length, tuB_len p at_ mask x i]
    · exact tuB_len p at_ mask x i
theorem tuN_le (p N at_ : Nat) (mask : BitVec 32) : ∀ i, tuN p N at_ mask i ≤ i
  | 0 => Nat.le_refl _
  | i + 1 => by have := tuN_le p N at_ mask i; rw [tuN]; split <;> omega
theorem stB_pos (p k : Nat) : 1 ≤ stB p k ∧ stB p k ≤ 3 := by unfold stB; split <;> (try split) <;> omega
theorem tuS_stay (p N at_ : Nat) (mask : BitVec 32) (i : Nat) (h : tuS p N at_ mask i ≠ 0) : ∀ d, tuS p N at_ mask (i + d) = tuS p N at_ mask i
  | 0 => rfl
  | d + 1 => by
    have ih := tuS_stay p N at_ mask i h d
    rw [← Nat.add_assoc, tuS, if_neg (fun hc => h (by rw [← ih]; exact hc.2.2)), ih]
theorem tuS_hit (p N at_ : Nat) (mask : BitVec 32) (i : Nat) (h1 : mask.getLsbD i = true) (h2 : at_ + i < 8 * N) : tuS p N at_ mask (i + 1) ≠ 0 := by
  have := (stB_pos p (at_ + i)).1
  rw [tuS]
  split
  · omega
  · rename_i hc
    exact fun h0 => hc ⟨h1, h2, h0⟩
/-- the bits that are turned over, as a mask -/
theorem mask_of (f : Nat → Bool) : ∀ n, n ≤ 32 → ∃ m : BitVec 32, ∀ i, m.getLsbD i = (decide (i < n) && f i)
  | 0, _ => ⟨0#32, fun i => by simp⟩
  | n + 1, hn => by
    obtain ⟨m, hm⟩ := mask_of f n (by omega)
    by_cases hf : f n = true
    · refine ⟨m ||| BitVec.twoPow 32 n, fun i => ?_⟩
      rw [BitVec.getLsbD_or, hm, BitVec.getLsbD_twoPow]
      by_cases e : i = n
      · subst e; simp [hf]; omega
      · have h1 : (i < n + 1) ↔ (i < n) := by omega
        have h2 : ¬ n = i := fun h => e h.symm
        simp [h1, h2]
    · refine ⟨m, fun i => ?_⟩
      rw [hm]
      by_cases e : i = n
      · subst e; simp [hf]
      · have h1 : (i < n + 1) ↔ (i < n) := by omega
        simp [h1]
theorem tu_mask (p at_ : Nat) (mask : BitVec 32) (x : List UInt8) : ∃ m : BitVec 32, tuB p at_ mask x 32 = flips x at_ m 32 ∧ (∀ i, i < 32 → m.getLsbD i = true → at_ + i < 8 * x.length ∧ stB p (at_ + i) = tuS p x.length at_ mask 32) ∧ (0 < tuN p x.length at_ mask 32 → ∃ i, i < 32 ∧ m.getLsbD i = true ∧ at_ + i < 8 * x.length) := by
  obtain ⟨m, hm⟩ := mask_of (fun i => decide (tuH p x.length at_ mask i)) 32 (Nat.le_refl _)
  have hb : ∀ i, i < 32 → m.getLsbD i = decide (tuH p x.length at_ mask i) := fun i hi => by rw [hm]; simp [hi]
  refine ⟨m, ?_, fun i hi h => ?_, ?_⟩
  · have : ∀ n, n ≤ 32 → tuB p at_ mask x n = flips x at_ m n := by
      intro n
      induction n with
      | zero => intro _; rfl
      | succ n ih =>
        intro hn
        rw [tuB, flips, ih (by omega), hb n (by omega)]
        by_cases hc : tuH p x.length at_ mask n
        · rw [if_pos hc, if_pos ⟨by simp [hc], hc.2.1⟩]
        · rw [if_neg hc, if_neg (fun h => hc (by simpa using h.1))]
    exact this 32 (Nat.le_refl _)
  · rw [hb i hi] at h
    have h1 : tuH p x.length at_ mask i := by simpa using h
    refine ⟨h1.2.1, h1.2.2.trans ?_⟩
    have h2 := tuS_stay p x.length at_ mask (i + 1) (tuS_hit p x.length at_ mask i h1.1 h1.2.1) (32 - (i + 1))
    rw [← h2]; congr 1; omega
  · have : ∀ n, n ≤ 32 → 0 < tuN p x.length at_ mask n → ∃ i, i < 32 ∧ tuH p x.length at_ mask i := by
      intro n
      induction n with
      | zero => intro _ h; exact absurd h (by simp [tuN])
      | succ n ih =>
        intro hn h
        rw [tuN] at h
        by_cases hc : tuH p x.length at_ mask n
        · exact ⟨n, by omega, hc⟩
        · rw [if_neg hc] at h; exact ih (by omega) h
    intro h
    obtain ⟨i, hi, hc⟩ := this 32 (Nat.le_refl _) h
    exact ⟨i, hi, by rw [hb i hi]; simp [hc], hc.2.1⟩
/-- bits were turned over in one stretch: the sum tells it -/
theorem tu_told (p at_ : Nat) (mask : BitVec 32) (x : List UInt8) (hp : 4 ≤ p) (hl : p + 4 ≤ x.length) (hx : Good p x) (hn : 0 < tuN p x.length at_ mask 32) : ¬ Good p (tuB p at_ mask x 32) := by
  obtain ⟨m, hm, hs, hh⟩ := tu_mask p at_ mask x
  intro hg
  rw [hm] at hg
  have he := burst_blk p x at_ m hp hl hx (by
    have hu : ∀ k, stB p k = 3 ∧ 8 * p + 32 ≤ k ∨ stB p k = 2 ∧ 8 * p ≤ k ∧ k < 8 * p + 32 ∨ stB p k = 1 ∧ k < 8 * p := fun k => by
      unfold stB; split <;> (try split) <;> omega
    by_cases h1 : tuS p x.length at_ mask 32 = 1
    · exact .inl fun i hi h _ => by have h2 := (hs i hi h).2; have := hu (at_ + i); omega
    · by_cases h2 : tuS p x.length at_ mask 32 = 2
      · exact .inr (.inl fun i hi h _ => by have h3 := (hs i hi h).2; have := hu (at_ + i); omega)
      · exact .inr (.inr fun i hi h _ => by have h3 := (hs i hi h).2; have := hu (at_ + i); omega)) hg
  obtain ⟨i, hi, hmi, hil⟩ := hh hn
  have h9 := bitL_flips x at_ m (at_ + i) hil 32
  rw [he] at h9
  have h8 : at_ ≤ at_ + i ∧ at_ + i < at_ + 32 := by omega
  rw [decide_eq_true h8, show at_ + i - at_ = i by omega, hmi] at h9
  simp at h9
end Go.Proofs.Ytlandlgjhnnaiaa
