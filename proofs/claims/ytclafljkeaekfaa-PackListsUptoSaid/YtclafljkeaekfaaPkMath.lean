/- The plain law of numbers' forms: groups of seven bits, lowest first; read back from any bytes that begin with them; whatever is read is such a form. No program in sight. -/
import Derived.WalkKit
set_option linter.unusedVariables false
set_option linter.unusedSimpArgs false
namespace Go.Proofs.Ytclafljkeaekfaa
def nfF : Nat → Nat → List UInt8
  | 0, _ => []
  | k + 1, v => if v < 128 then [UInt8.ofNat v] else UInt8.ofNat (v % 128 + 128) :: nfF k (v / 128)
/-- the form of a number -/
def nf (v : Nat) : List UInt8 := nfF 10 v
theorem nfF_length_le : ∀ k v, (nfF k v).length ≤ k
  | 0, v => by simp [nfF]
  | k + 1, v => by
    have := nfF_length_le k (v / 128)
    rw [nfF]; split <;> simp <;> omega
theorem nf_length_le (v : Nat) : (nf v).length ≤ 10 := nfF_length_le 10 v
theorem nf_length_pos (v : Nat) : 0 < (nf v).length := by
  rw [nf, nfF]; split <;> simp
/-- what a reader finds: the error, the number, how many bytes; k: how many bytes it may still look at -/
def un : Nat → List UInt8 → Nat × Nat × Nat
  | 0, _ => (21, 0, 0)
  | _ + 1, [] => (20, 0, 0)
  | k + 1, b :: l => if 128 ≤ b.toNat then (if (un k l).1 = 0 then (0, b.toNat % 128 + 128 * (un k l).2.1, (un k l).2.2 + 1) else un k l)
      else if (k < 9 ∧ b.toNat = 0) ∨ (k = 0 ∧ 1 < b.toNat) then (21, 0, 0) else (0, b.toNat, 1)
theorem un_err : ∀ k l, (un k l).1 = 0 ∨ un k l = (20, 0, 0) ∨ un k l = (21, 0, 0)
  | 0, _ => .inr (.inr rfl)
  | _ + 1, [] => .inr (.inl rfl)
  | k + 1, b :: l => by
    have ih := un_err k l
    rw [un]
    split
    · split
      · exact .inl rfl
      · rename_i h
        rcases ih with h' | h'
        · exact absurd h' h
        · exact .inr h'
    · split
      · exact .inr (.inr rfl)
      · exact .inl rfl
theorem ofNat_toNat (v : Nat) (h : v < 256) : (UInt8.ofNat v).toNat = v := by simp; omega
theorem un_nfF : ∀ k v, 1 ≤ k → k ≤ 10 → v * 128 ^ (10 - k) < 2 ^ 64 → (k < 10 → 0 < v) → ∀ rest, un k (nfF k v ++ rest) = (0, v, (nfF k v).length)
  | 0, v, h1, _, _, _, _ => by omega
  | k + 1, v, _, hk, hv, h0, rest => by
    by_cases hs : v < 128
    · have e : nfF (k + 1) v = [UInt8.ofNat v] := by rw [nfF, if_pos hs]
      have hb : (UInt8.ofNat v).toNat = v := ofNat_toNat v (by omega)
      rw [e]
      show un (k + 1) (UInt8.ofNat v :: rest) = _
      rw [un, hb, if_neg (by omega), if_neg ?_]
      · rfl
      · rintro (⟨h, h'⟩ | ⟨h, h'⟩)
        · have := h0 (by omega); omega
        · subst h
          have : v * 128 ^ 9 < 2 ^ 64 := hv
          omega
    · have e : nfF (k + 1) v = UInt8.ofNat (v % 128 + 128) :: nfF k (v / 128) := by rw [nfF, if_neg hs]
      have hb : (UInt8.ofNat (v % 128 + 128)).toNat = v % 128 + 128 := ofNat_toNat _ (by omega)
      have hk0 : 0 < k := by
        rcases Nat.eq_zero_or_pos k with h | h
        · subst h
          have : v * 128 ^ 9 < 2 ^ 64 := hv
          omega
        · exact h
      have hp : 128 ^ (10 - k) = 128 * 128 ^ (10 - (k + 1)) := by
        rw [show 10 - k = (10 - (k + 1)) + 1 by omega, Nat.pow_succ, Nat.mul_comm]
      have hv' : v / 128 * 128 ^ (10 - k) < 2 ^ 64 := by
        rw [hp, ← Nat.mul_assoc]
        refine Nat.lt_of_le_of_lt (Nat.mul_le_mul_right _ ?_) hv
        omega
      have ih := un_nfF k (v / 128) hk0 (by omega) hv' (fun _ => by omega) rest
      rw [e]
      show un (k + 1) (UInt8.ofNat (v % 128 + 128) :: (nfF k (v / 128) ++ rest)) = _
      rw [un, hb, ih, if_pos (by omega), if_pos rfl]
      simp only [List.length_cons]
      congr 2
      omega
theorem un_nf (v : Nat) (hv : v < 2 ^ 64) (rest : List UInt8) : un 10 (nf v ++ rest) = (0, v, (nf v).length) :=
  un_nfF 10 v (by omega) (by omega) (by simpa using hv) (by omega) rest
theorem nfF_un : ∀ k l v n, k ≤ 10 → un k l = (0, v, n) → l.take n = nfF k v ∧ n ≤ l.length ∧ 1 ≤ n ∧ v * 128 ^ (10 - k) < 2 ^ 64 ∧ (k < 10 → 0 < v)
  | 0, l, v, n, _, h => by simp [un] at h
  | k + 1, [], v, n, _, h => by simp [un] at h
  | k + 1, b :: l, v, n, hk, h => by
    have hb8 := b.toNat_lt
    rw [un] at h
    by_cases hc : 128 ≤ b.toNat
    · rw [if_pos hc] at h
      by_cases he : (un k l).1 = 0
      · rw [if_pos he] at h
        obtain ⟨v1, n1, hu⟩ : ∃ v1 n1, un k l = (0, v1, n1) := ⟨(un k l).2.1, (un k l).2.2, Prod.ext he rfl⟩
        have ih := nfF_un k l v1 n1 (by omega) hu
        rw [hu] at h
        simp only [Prod.mk.injEq, true_and] at h
        obtain ⟨h1, h2⟩ := h
        have hv0 : k < 10 → 0 < v1 := ih.2.2.2.2
        have hk10 : k < 10 := by omega
        have := hv0 hk10
        subst h1 h2
        refine ⟨?_, by simp; omega, by omega, ?_, fun _ => by omega⟩
        · rw [nfF, if_neg (by omega)]
          rw [show (b.toNat % 128 + 128 * v1) / 128 = v1 by omega, show (b.toNat % 128 + 128 * v1) % 128 + 128 = b.toNat by omega, List.take_succ_cons, ih.1]
          congr 1
          apply UInt8.toNat_inj.1
          rw [ofNat_toNat _ (by omega)]
        · have h4 := ih.2.2.2.1
          have hp : 128 ^ (10 - k) = 128 * 128 ^ (10 - (k + 1)) := by
            rw [show 10 - k = (10 - (k + 1)) + 1 by omega, Nat.pow_succ, Nat.mul_comm]
          rw [hp, ← Nat.mul_assoc] at h4
          rcases Nat.eq_zero_or_pos k with h0 | h0
          · subst h0; simp [un] at hu
          · generalize hq : 128 ^ (10 - (k + 1)) = q at h4 ⊢
            -- the multiple of q below 2^64 leaves room, for q divides 2^64 down to 128 q
            have hd : 128 * q ∣ 2 ^ 64 := by
              rw [← hq, ← hp, show (128 : Nat) = 2 ^ 7 by rfl, ← Nat.pow_mul]
              exact Nat.pow_dvd_pow 2 (by omega)
            obtain ⟨d, hd⟩ := hd
            have hq0 : 0 < q := by rw [← hq]; exact Nat.pow_pos (by omega)
            rw [hd, show 128 * q * d = d * (128 * q) by rw [Nat.mul_comm], show v1 * 128 * q = v1 * (128 * q) by rw [Nat.mul_assoc]] at h4
            have h5 : v1 < d := Nat.lt_of_mul_lt_mul_right h4
            rw [hd, show 128 * q * d = (128 * d) * q by rw [Nat.mul_assoc, Nat.mul_assoc, Nat.mul_comm q d]]
            exact Nat.mul_lt_mul_of_pos_right (by omega) hq0
      · rw [if_neg he] at h
        rw [h] at he
        exact absurd rfl he
    · rw [if_neg hc] at h
      by_cases hb : (k < 9 ∧ b.toNat = 0) ∨ (k = 0 ∧ 1 < b.toNat)
      · rw [if_pos hb] at h; simp at h
      · rw [if_neg hb] at h
        simp only [Prod.mk.injEq, true_and] at h
        obtain ⟨rfl, rfl⟩ := h
        refine ⟨?_, by simp, by omega, ?_, fun hk' => ?_⟩
        · rw [nfF, if_pos (by omega)]
          simp
        · have hle : 128 ^ (10 - (k + 1)) ≤ 128 ^ 9 := Nat.pow_le_pow_right (by omega) (by omega)
          rcases Nat.eq_zero_or_pos k with h0 | h0
          · subst h0
            have : b.toNat ≤ 1 := by
              rcases Nat.lt_or_ge 1 b.toNat with h | h
              · exact absurd (.inr ⟨rfl, h⟩) hb
              · exact h
            refine Nat.lt_of_le_of_lt (Nat.mul_le_mul_right _ this) ?_
            decide
          · have hle : 128 ^ (10 - (k + 1)) ≤ 128 ^ 8 := Nat.pow_le_pow_right (by omega) (by omega)
            refine Nat.lt_of_le_of_lt (Nat.mul_le_mul (show b.toNat ≤ 127 by omega) hle) ?_
            decide
        · rcases Nat.eq_zero_or_pos b.toNat with h | h
          · exact absurd (.inl ⟨by omega, h⟩) hb
          · exact h
theorem nf_un {l : List UInt8} {v n : Nat} (h : un 10 l = (0, v, n)) : l.take n = nf v ∧ n ≤ l.length ∧ 1 ≤ n ∧ v < 2 ^ 64 := by
  have := nfF_un 10 l v n (by omega) h
  exact ⟨this.1, this.2.1, this.2.2.1, by simpa using this.2.2.2.1⟩
theorem nf_un_length {l : List UInt8} {v n : Nat} (h : un 10 l = (0, v, n)) : (nf v).length = n := by
  have := nf_un h
  rw [← this.1, List.length_take]; omega
/-! ### the loops -/
theorem nfF_more (k v : Nat) (h : 128 ≤ v) : nfF (k + 1) v = UInt8.ofNat (v % 128 + 128) :: nfF k (v / 128) := by rw [nfF, if_neg (by omega)]
theorem nfF_last (k v : Nat) (h : v < 128) : nfF (k + 1) v = [UInt8.ofNat v] := by rw [nfF, if_pos h]
/-- behind i bytes that go on, a their number -/
def lift (i a : Nat) (r : Nat × Nat × Nat) : Nat × Nat × Nat := if r.1 = 0 then (0, a + 128 ^ i * r.2.1, r.2.2 + i) else (r.1, 0, 0)
theorem lift_zero (r : Nat × Nat × Nat) (h : r.1 = 0 ∨ r = (20, 0, 0) ∨ r = (21, 0, 0)) : lift 0 0 r = r := by
  obtain ⟨e, v, n⟩ := r
  unfold lift
  rcases h with h | h | h
  · simp only at h; subst h; simp
  · simp only [Prod.mk.injEq] at h; obtain ⟨rfl, rfl, rfl⟩ := h; rfl
  · simp only [Prod.mk.injEq] at h; obtain ⟨rfl, rfl, rfl⟩ := h; rfl
theorem lift_step (k i a : Nat) (b : UInt8) (l : List UInt8) (hc : 128 ≤ b.toNat) : lift i a (un (k + 1) (b :: l)) = lift (i + 1) (a + 128 ^ i * (b.toNat % 128)) (un k l) := by
  rw [un, if_pos hc]
  unfold lift
  by_cases he : (un k l).1 = 0
  · rw [if_pos he, if_pos rfl, if_pos he]
    simp only [Prod.mk.injEq, true_and]
    refine ⟨?_, by omega⟩
    rw [Nat.mul_add, Nat.pow_succ, Nat.add_assoc]
    congr 2
    rw [Nat.mul_assoc]
  · rw [if_neg he, if_neg he, if_neg he]
theorem lift_last (k i a : Nat) (b : UInt8) (l : List UInt8) (hc : b.toNat < 128) (hok : ¬ ((k < 9 ∧ b.toNat = 0) ∨ (k = 0 ∧ 1 < b.toNat))) : lift i a (un (k + 1) (b :: l)) = (0, a + 128 ^ i * b.toNat, i + 1) := by
  rw [un, if_neg (by omega), if_neg hok]
  unfold lift
  rw [if_pos rfl]
  simp only [Prod.mk.injEq, true_and]; omega
theorem lift_form (k i a : Nat) (b : UInt8) (l : List UInt8) (hc : b.toNat < 128) (hok : (k < 9 ∧ b.toNat = 0) ∨ (k = 0 ∧ 1 < b.toNat)) : lift i a (un (k + 1) (b :: l)) = (21, 0, 0) := by
  rw [un, if_neg (by omega), if_pos hok]; rfl
/-! ### the digits -/
theorem nfF_dig : ∀ k v, 1 ≤ k → v < 128 ^ k → (∀ j, j < (nfF k v).length → ((nfF k v).getD j 0).toNat = v / 128 ^ j % 128 + (if j + 1 < (nfF k v).length then 128 else 0)) ∧ v / 128 ^ (nfF k v).length = 0 ∧ (1 < (nfF k v).length → 0 < v / 128 ^ ((nfF k v).length - 1))
  | 0, v, h, _ => by omega
  | k + 1, v, _, hv => by
    by_cases hs : v < 128
    · rw [nfF_last k v hs]
      refine ⟨fun j hj => ?_, by simpa using by omega, fun h => by simp at h⟩
      have : j = 0 := by simpa using hj
      subst this
      simp; omega
    · have hk : 1 ≤ k := by
        rcases Nat.eq_zero_or_pos k with h | h
        · subst h; simp at hv; omega
        · exact h
      have ih := nfF_dig k (v / 128) hk (by rw [Nat.pow_succ] at hv; exact Nat.div_lt_of_lt_mul (by rw [Nat.mul_comm]; exact hv))
      have hpos : 0 < (nfF k (v / 128)).length := by
        rcases k with _ | k
        · omega
        · rw [nfF]; split <;> simp
      rw [nfF_more k v (by omega)]
      refine ⟨fun j hj => ?_, ?_, fun _ => ?_⟩
      · rcases j with _ | j
        · simp only [List.getD_cons_zero, List.length_cons, Nat.pow_zero, Nat.div_one]
          rw [if_pos (by omega), ofNat_toNat _ (by omega)]
        · have h1 := ih.1 j (by simpa using hj)
          simp only [List.getD_cons_succ, List.length_cons]
          rw [h1, Nat.div_div_eq_div_mul, Nat.pow_succ, Nat.mul_comm]
          congr 1
          simp
      · simp only [List.length_cons, Nat.pow_succ]
        rw [Nat.mul_comm, ← Nat.div_div_eq_div_mul]
        exact ih.2.1
      · simp only [List.length_cons, Nat.add_sub_cancel]
        by_cases h1 : 1 < (nfF k (v / 128)).length
        · have h2 := ih.2.2 h1
          rw [Nat.div_div_eq_div_mul, ← Nat.pow_succ', show ((nfF k (v / 128)).length - 1).succ = (nfF k (v / 128)).length by omega] at h2
          exact h2
        · rw [show (nfF k (v / 128)).length = 1 by omega]
          omega
theorem nf_dig (v : Nat) (hv : v < 2 ^ 64) : (∀ j, j < (nf v).length → ((nf v).getD j 0).toNat = v / 128 ^ j % 128 + (if j + 1 < (nf v).length then 128 else 0)) ∧ v / 128 ^ (nf v).length = 0 ∧ (1 < (nf v).length → 0 < v / 128 ^ ((nf v).length - 1)) :=
  nfF_dig 10 v (by omega) (Nat.lt_of_lt_of_le hv (by decide))
/-! ### signed ones -/
def zz (v : Int) : Nat := if 0 ≤ v then (2 * v).toNat else (-2 * v - 1).toNat
def unzz (n : Nat) : Int := if n % 2 = 0 then ((n / 2 : Nat) : Int) else -((n / 2 : Nat) : Int) - 1
theorem unzz_zz (v : Int) : unzz (zz v) = v := by
  unfold unzz zz
  split <;> split <;> omega
theorem zz_unzz (n : Nat) : zz (unzz n) = n := by
  unfold unzz zz
  split <;> split <;> omega
theorem zz_lt (v : Int) (h1 : -9223372036854775808 ≤ v) (h2 : v < 9223372036854775808) : zz v < 2 ^ 64 := by
  unfold zz
  split <;> omega
end Go.Proofs.Ytclafljkeaekfaa
