/- The plain mathematics of CRC-32C: a register of 32 bits as a linear map over bits. No Go in this text. -/
import Derived.Laws.BitsAllLaws
set_option linter.unusedVariables false
set_option linter.unusedSimpArgs false
namespace Go.Proofs.Ytlandlgjhnnaiaa.SumMath
/-- one step of the register -/
def T (w : BitVec 32) : BitVec 32 := (w >>> 1) ^^^ (if w.getLsbD 0 then 0x82F63B78#32 else 0#32)
def Tn : Nat → BitVec 32 → BitVec 32
  | 0, w => w
  | n + 1, w => Tn n (T w)
theorem T_xor (a b : BitVec 32) : T (a ^^^ b) = T a ^^^ T b := by
  unfold T
  rw [BitVec.getLsbD_xor, BitVec.ushiftRight_xor_distrib]
  cases a.getLsbD 0 <;> cases b.getLsbD 0 <;> simp
  · rw [BitVec.xor_assoc]
  · rw [BitVec.xor_assoc, BitVec.xor_assoc]; congr 1; rw [BitVec.xor_comm]
  · rw [BitVec.xor_assoc, BitVec.xor_comm (b >>> 1), ← BitVec.xor_assoc (2197175160#32), BitVec.xor_self, BitVec.zero_xor]
theorem T_zero : T 0#32 = 0#32 := by decide
theorem Tn_xor (n : Nat) : ∀ a b : BitVec 32, Tn n (a ^^^ b) = Tn n a ^^^ Tn n b := by
  induction n with
  | zero => intro a b; rfl
  | succ n ih => intro a b; simp only [Tn, T_xor, ih]
theorem Tn_zero (n : Nat) : Tn n 0#32 = 0#32 := by
  induction n with
  | zero => rfl
  | succ n ih => simp only [Tn, T_zero, ih]
theorem Tn_add (n m : Nat) : ∀ w, Tn (n + m) w = Tn n (Tn m w) := by
  induction m with
  | zero => intro w; rfl
  | succ m ih => intro w; rw [← Nat.add_assoc]; exact ih (T w)
theorem T_Tn (n : Nat) (w : BitVec 32) : T (Tn n w) = Tn n (T w) := by
  have := Tn_add 1 n w
  rw [Nat.add_comm] at this
  rw [show T (Tn n w) = Tn 1 (Tn n w) from rfl, ← this]; rfl
theorem T_inj0 (w : BitVec 32) (h : T w = 0#32) : w = 0#32 := by
  unfold T at h
  by_cases hb : w.getLsbD 0 = true
  · rw [if_pos hb] at h
    have h31 := congrArg (fun v : BitVec 32 => v.getLsbD 31) h
    simp at h31
  · rw [if_neg hb] at h
    have hb' : w.getLsbD 0 = false := by simpa using hb
    rw [BitVec.xor_zero] at h
    apply BitVec.eq_of_getLsbD_eq
    intro i hi
    cases i with
    | zero => simpa using hb'
    | succ i =>
      have := congrArg (fun v : BitVec 32 => v.getLsbD i) h
      simp at this
      rw [Nat.add_comm] at this
      simpa using this
theorem Tn_inj0 (n : Nat) : ∀ w, Tn n w = 0#32 → w = 0#32 := by
  induction n with
  | zero => intro w h; exact h
  | succ n ih => intro w h; exact T_inj0 w (ih _ h)
theorem Tn_inj (n : Nat) (a b : BitVec 32) (h : Tn n a = Tn n b) : a = b := by
  have h0 : Tn n (a ^^^ b) = 0#32 := by rw [Tn_xor, h, BitVec.xor_self]
  have := Tn_inj0 n _ h0
  have h2 : (a ^^^ b) ^^^ b = 0#32 ^^^ b := by rw [this]
  rwa [BitVec.xor_assoc, BitVec.xor_self, BitVec.xor_zero, BitVec.zero_xor] at h2

/-! ### numbers of the walk -/
theorem bv32_lt (w : BitVec 32) : w.toNat < 4294967296 := w.isLt
theorem turned_no {x : Int} {b : BitVec 32} (hx : x = b.toNat) (h : (bits .and .u32 x 1 == 1) = false) : x / 2 = ((T b).toNat : Int) := by
  subst hx
  rw [show (1 : Int) = ((1 : Nat) : Int) from rfl, u32_and_nat _ _ b.isLt (by decide), nat_mask1] at h
  have h0 : b.getLsbD 0 = false := by
    rw [BitVec.getLsbD, Nat.testBit_zero]
    have : ¬ b.toNat % 2 = 1 := by intro hc; rw [hc] at h; simp at h
    simp [this]
  unfold T
  rw [h0]
  simp [BitVec.toNat_ushiftRight, Nat.shiftRight_eq_div_pow]
theorem turned_yes {x : Int} {b : BitVec 32} (hx : x = b.toNat) (h : (bits .and .u32 x 1 == 1) = true) : bits .xor .u32 (x / 2) 2197175160 = ((T b).toNat : Int) := by
  subst hx
  rw [show (1 : Int) = ((1 : Nat) : Int) from rfl, u32_and_nat _ _ b.isLt (by decide), nat_mask1] at h
  have h0 : b.getLsbD 0 = true := by
    rw [BitVec.getLsbD, Nat.testBit_zero]
    have : b.toNat % 2 = 1 := by
      rcases Nat.mod_two_eq_zero_or_one b.toNat with hc | hc
      · rw [hc] at h; simp at h
      · exact hc
    simp [this]
  unfold T
  rw [h0, show ((b.toNat : Int) / 2) = ((b.toNat / 2 : Nat) : Int) by omega, show (2197175160 : Int) = ((2197175160 : Nat) : Int) from rfl, u32_xor_nat _ _ (by have := b.isLt; omega) (by decide)]
  simp [BitVec.toNat_xor, BitVec.toNat_ushiftRight, Nat.shiftRight_eq_div_pow]
/-- the same in the reference's spelling -/
theorem step_no {x : Int} {b : BitVec 32} (hx : x = b.toNat) (h : (x % 2 == 1) = false) : x / 2 = ((T b).toNat : Int) := by
  refine turned_no hx ?_
  subst hx
  rw [show (1 : Int) = ((1 : Nat) : Int) from rfl, u32_and_nat _ _ b.isLt (by decide), nat_mask1]
  simp only [beq_eq_false_iff_ne, ne_eq] at h ⊢
  omega
theorem step_yes {x : Int} {b : BitVec 32} (hx : x = b.toNat) (h : (x % 2 == 1) = true) : bits .xor .u32 (x / 2) 2197175160 = ((T b).toNat : Int) := by
  refine turned_yes hx ?_
  subst hx
  rw [show (1 : Int) = ((1 : Nat) : Int) from rfl, u32_and_nat _ _ b.isLt (by decide), nat_mask1]
  simp only [beq_iff_eq] at h ⊢
  omega

/-! ### products -/
def pr (a b : BitVec 32) : Nat → BitVec 32
  | 0 => 0#32
  | i + 1 => pr a b i ^^^ (if a.getLsbD (31 - i) then Tn i b else 0#32)
theorem pr_T (a b : BitVec 32) (n : Nat) : ∀ i, pr a (Tn n b) i = Tn n (pr a b i)
  | 0 => by simp [pr, Tn_zero]
  | i + 1 => by
    simp only [pr, pr_T a b n i, Tn_xor]
    congr 1
    split
    · rw [← Tn_add, ← Tn_add, Nat.add_comm]
    · rw [Tn_zero]
/-- the unit: the power 0 -/
def e0 : BitVec 32 := 0x80000000#32
theorem pr_e0_bit (a : BitVec 32) : ∀ i, i ≤ 32 → ∀ j, j < 32 → (pr a e0 i).getLsbD j = (decide (32 - i ≤ j) && a.getLsbD j)
  | 0, _, j, hj => by simp [pr]; omega
  | i + 1, hi, j, hj => by
    have ih := pr_e0_bit a i (by omega) j hj
    have hT : ∀ i, i < 32 → Tn i e0 = BitVec.twoPow 32 (31 - i) := by decide
    simp only [pr, BitVec.getLsbD_xor, ih, hT i (by omega)]
    by_cases hij : j = 31 - i
    · subst hij
      have h1 : ¬ (32 - i ≤ 31 - i) := by omega
      have h2 : 32 - (i + 1) ≤ 31 - i := by omega
      simp only [h1, h2, decide_false, decide_true, Bool.false_and, Bool.true_and, Bool.false_xor]
      cases h : a.getLsbD (31 - i) <;> simp [BitVec.getLsbD_twoPow]
      omega
    · have h3 : (32 - i ≤ j) ↔ (32 - (i + 1) ≤ j) := by omega
      simp only [h3]
      cases h : a.getLsbD (31 - i)
      · simp
      · simp only [if_true, BitVec.getLsbD_twoPow]
        have : ¬ (31 - i = j) := fun h => hij h.symm
        simp [this]
theorem pr_e0 (a : BitVec 32) : pr a e0 32 = a := by
  apply BitVec.eq_of_getLsbD_eq
  intro j hj
  rw [pr_e0_bit a 32 (by omega) j hj]
  simp
/-- to multiply by a power is to move on -/
theorem pr_pow (a : BitVec 32) (n : Nat) : pr a (Tn n e0) 32 = Tn n a := by rw [pr_T, pr_e0]
/-- the mask of the program's product -/
def mI (i : Nat) : Nat := 2147483648 / 2 ^ i
theorem mI_zero : mI 0 = 2147483648 := rfl
theorem mI_succ (i : Nat) : mI (i + 1) = mI i / 2 := by unfold mI; rw [Nat.pow_succ, Nat.div_div_eq_div_mul]
theorem mI_lt (i : Nat) : mI i < 4294967296 := by unfold mI; exact Nat.lt_of_le_of_lt (Nat.div_le_self _ _) (by decide)
theorem mI_pow (i : Nat) (h : i < 32) : mI i = 2 ^ (31 - i) := by
  unfold mI
  rw [show 2147483648 = 2 ^ 31 from rfl]
  exact Nat.pow_div (by omega) (by decide)
theorem mI_pos (i : Nat) (h : i < 32) : 0 < mI i := by rw [mI_pow i h]; exact Nat.pow_pos (by decide)
theorem mI_32 : mI 32 = 0 := by decide
theorem and_mI (a : BitVec 32) (i : Nat) (h : i < 32) : (bits .and .u32 (a.toNat : Int) (mI i : Int) != 0) = a.getLsbD (31 - i) := by
  rw [u32_and_nat _ _ a.isLt (mI_lt i), mI_pow i h, nat_bit]
  rw [BitVec.getLsbD, Nat.testBit_eq_decide_div_mod_eq]
  have h2 := Nat.mod_two_eq_zero_or_one (a.toNat / 2 ^ (31 - i))
  have hp : 0 < 2 ^ (31 - i) := Nat.pow_pos (by decide)
  generalize 2 ^ (31 - i) = p at *
  rcases h2 with h2 | h2 <;> rw [h2] <;> simp
  omega
theorem pr_yes {a b : BitVec 32} {i : Nat} (ht : a.getLsbD (31 - i) = true) : bits .xor .u32 ((pr a b i).toNat : Int) ((Tn i b).toNat : Int) = ((pr a b (i + 1)).toNat : Int) := by
  rw [u32_xor_nat _ _ (pr a b i).isLt (Tn i b).isLt, pr, ht, if_pos rfl, BitVec.toNat_xor]
theorem pr_no {a b : BitVec 32} {i : Nat} (ht : a.getLsbD (31 - i) = false) : ((pr a b i).toNat : Int) = ((pr a b (i + 1)).toNat : Int) := by
  rw [pr, ht]; simp
/-- the reference's shifted factor -/
def sh (a : BitVec 32) (i : Nat) : Nat := a.toNat * 2 ^ i % 4294967296
theorem sh_zero (a : BitVec 32) : sh a 0 = a.toNat := by unfold sh; rw [Nat.pow_zero, Nat.mul_one]; exact Nat.mod_eq_of_lt a.isLt
theorem sh_succ (a : BitVec 32) (i : Nat) : sh a (i + 1) = sh a i * 2 % 4294967296 := by unfold sh; rw [Nat.pow_succ, ← Nat.mul_assoc, Nat.mod_mul_mod]
theorem sh_lt (a : BitVec 32) (i : Nat) : sh a i < 4294967296 := Nat.mod_lt _ (by decide)
theorem sh_top (a : BitVec 32) (i : Nat) (h : i < 32) : decide (2147483648 ≤ sh a i) = a.getLsbD (31 - i) := by
  have h1 : decide (2147483648 ≤ sh a i) = (sh a i).testBit 31 := by
    rw [Nat.testBit_eq_decide_div_mod_eq]
    have := sh_lt a i
    congr 1
    apply propext
    constructor <;> intro h <;> omega
  rw [h1, BitVec.getLsbD, sh, show 4294967296 = 2 ^ 32 from rfl, Nat.testBit_mod_two_pow, Nat.mul_comm, Nat.testBit_two_pow_mul]
  simp; omega

/-! ### bytes -/
def by1 (w : BitVec 32) (c : UInt8) : BitVec 32 := Tn 8 (w ^^^ BitVec.ofNat 32 c.toNat)
def ov (w : BitVec 32) (l : List UInt8) : BitVec 32 := l.foldl by1 w
theorem ov_append (w : BitVec 32) (a b : List UInt8) : ov w (a ++ b) = ov (ov w a) b := List.foldl_append
theorem ov_snoc (w : BitVec 32) (a : List UInt8) (c : UInt8) : ov w (a ++ [c]) = by1 (ov w a) c := by rw [ov_append]; rfl
theorem xor_byte (x : BitVec 32) (c : UInt8) : bits .xor .u32 (x.toNat : Int) (c.toNat : Int) = ((x ^^^ BitVec.ofNat 32 c.toNat).toNat : Int) := by
  have := c.toNat_lt
  rw [u32_xor_nat _ _ x.isLt (by omega), BitVec.toNat_xor, BitVec.toNat_ofNat, Nat.mod_eq_of_lt (by omega)]

/-! ### half a byte by the table -/
theorem T_even (y : BitVec 32) (h : y.getLsbD 0 = false) : T y = y >>> 1 := by unfold T; rw [h]; simp
theorem T4_shift (y : BitVec 32) (h : ∀ i, i < 4 → y.getLsbD i = false) : Tn 4 y = y >>> 4 := by
  have e1 : T y = y >>> 1 := T_even y (h 0 (by omega))
  have e2 : T (y >>> 1) = y >>> 2 := by rw [T_even _ (by rw [BitVec.getLsbD_ushiftRight]; exact h 1 (by omega)), ← BitVec.shiftRight_add]
  have e3 : T (y >>> 2) = y >>> 3 := by rw [T_even _ (by rw [BitVec.getLsbD_ushiftRight]; exact h 2 (by omega)), ← BitVec.shiftRight_add]
  have e4 : T (y >>> 3) = y >>> 4 := by rw [T_even _ (by rw [BitVec.getLsbD_ushiftRight]; exact h 3 (by omega)), ← BitVec.shiftRight_add]
  simp only [Tn, e1, e2, e3, e4]
theorem T4_nib (x : BitVec 32) : Tn 4 x = (x >>> 4) ^^^ Tn 4 (x &&& 15#32) := by
  have hx : x = (x &&& ~~~15#32) ^^^ (x &&& 15#32) := by
    apply BitVec.eq_of_getLsbD_eq
    intro i hi
    rw [BitVec.getLsbD_xor, BitVec.getLsbD_and, BitVec.getLsbD_and, BitVec.getLsbD_not]
    cases x.getLsbD i <;> cases (15#32).getLsbD i <;> simp [hi]
  have hz : ∀ i, i < 4 → (x &&& ~~~15#32).getLsbD i = false := by
    intro i hi
    rw [BitVec.getLsbD_and, BitVec.getLsbD_not]
    have : (15#32).getLsbD i = true := by
      have : i = 0 ∨ i = 1 ∨ i = 2 ∨ i = 3 := by omega
      rcases this with rfl | rfl | rfl | rfl <;> rfl
    rw [this]; simp
  have hs : (x &&& ~~~15#32) >>> 4 = x >>> 4 := by
    apply BitVec.eq_of_getLsbD_eq
    intro i hi
    rw [BitVec.getLsbD_ushiftRight, BitVec.getLsbD_ushiftRight, BitVec.getLsbD_and, BitVec.getLsbD_not]
    have : (15#32).getLsbD (4 + i) = false := by
      rw [BitVec.getLsbD_ofNat]
      have : Nat.testBit 15 (4 + i) = false := Nat.testBit_lt_two_pow (by rw [Nat.pow_add]; have := Nat.one_le_two_pow (n := i); omega)
      simp [this]
    rw [this]
    by_cases h : 4 + i < 32
    · simp [h]
    · simp [h, BitVec.getLsbD_of_ge x (4 + i) (by omega)]
  conv => lhs; rw [hx, Tn_xor, T4_shift _ hz, hs]
/-- what the walk meets: a number below 16, and the next word -/
theorem nib_and (x : BitVec 32) : bits .and .u32 (x.toNat : Int) 15 = ((x.toNat % 16 : Nat) : Int) := by
  rw [show (15 : Int) = ((15 : Nat) : Int) from rfl, u32_and_nat _ _ x.isLt (by decide), nat_mask4]
theorem nib_xor (x : BitVec 32) : bits .xor .u32 ((x.toNat : Int) / 16) ((Tn 4 (BitVec.ofNat 32 (x.toNat % 16))).toNat : Int) = ((Tn 4 x).toNat : Int) := by
  have hx : x &&& 15#32 = BitVec.ofNat 32 (x.toNat % 16) := by
    apply BitVec.eq_of_toNat_eq
    rw [BitVec.toNat_and, BitVec.toNat_ofNat, BitVec.toNat_ofNat, show 15 % 2 ^ 32 = 15 from rfl, nat_mask4]
    omega
  rw [T4_nib x, hx, show ((x.toNat : Int) / 16) = ((x.toNat / 16 : Nat) : Int) by omega, u32_xor_nat _ _ (by have := x.isLt; omega) (BitVec.isLt _), BitVec.toNat_xor, BitVec.toNat_ushiftRight, Nat.shiftRight_eq_div_pow]
theorem by1_two (x : BitVec 32) (c : UInt8) : Tn 4 (Tn 4 (x ^^^ BitVec.ofNat 32 c.toNat)) = by1 x c := by rw [by1, ← Tn_add]

def crc (s : BitVec 32) (l : List UInt8) : BitVec 32 := ~~~(ov (~~~s) l)
theorem ones_xor (s : BitVec 32) : bits .xor .u32 4294967295 (s.toNat : Int) = ((~~~s).toNat : Int) := by
  rw [show (4294967295 : Int) = ((4294967295 : Nat) : Int) from rfl, u32_xor_nat _ _ (by decide) s.isLt]
  congr 1
theorem crc_append (s : BitVec 32) (a b : List UInt8) : crc s (a ++ b) = crc (crc s a) b := by
  unfold crc; rw [ov_append, BitVec.not_not]
theorem crc_nil (s : BitVec 32) : crc s [] = s := by unfold crc ov; simp

/-! ### what Join and Patch answer -/
def jok (n : Int) : Bool := decide (0 ≤ n ∧ n ≤ 1099511627776)
def jv (a b : BitVec 32) (n : Int) : BitVec 32 := if jok n then Tn (8 * n.toNat) a ^^^ b else 0#32
def je (n : Int) : Int := if jok n then 0 else 1
theorem jv_ok {a b : BitVec 32} {n : Nat} (h : n ≤ 1099511627776) : jv a b n = Tn (8 * n) a ^^^ b := by
  have : jok n = true := by unfold jok; exact decide_eq_true (by omega)
  unfold jv; rw [this, if_pos rfl]; rfl
theorem je_ok {n : Nat} (h : n ≤ 1099511627776) : je n = 0 := by
  have : jok n = true := by unfold jok; exact decide_eq_true (by omega)
  unfold je; rw [this, if_pos rfl]
theorem jv_bad {a b : BitVec 32} {n : Int} (h : n < 0 ∨ 1099511627776 < n) : jv a b n = 0#32 := by
  have : jok n = false := by unfold jok; exact decide_eq_false (by omega)
  unfold jv; rw [this]; rfl
theorem je_bad {n : Int} (h : n < 0 ∨ 1099511627776 < n) : je n = 1 := by
  have : jok n = false := by unfold jok; exact decide_eq_false (by omega)
  unfold je; rw [this]; rfl
theorem xor_nat (a b : BitVec 32) : bits .xor .u32 (a.toNat : Int) (b.toNat : Int) = ((a ^^^ b).toNat : Int) := by
  rw [u32_xor_nat _ _ a.isLt b.isLt, BitVec.toNat_xor]

/-! ### a sum as four bytes -/
def b8 (s : BitVec 32) (i : Nat) : UInt8 := UInt8.ofNat (s.toNat / 256 ^ i % 256)
def le4 (s : BitVec 32) : List UInt8 := [b8 s 0, b8 s 1, b8 s 2, b8 s 3]
theorem b8_nat (s : BitVec 32) (i : Nat) : (b8 s i).toNat = s.toNat / 256 ^ i % 256 := by
  unfold b8; rw [UInt8.toNat_ofNat']; omega
theorem b8_0 (s : BitVec 32) : (s.toNat : Int) % 256 = ((b8 s 0).toNat : Int) := by rw [b8_nat]; omega
theorem b8_1 (s : BitVec 32) : (s.toNat : Int) / 256 % 256 = ((b8 s 1).toNat : Int) := by rw [b8_nat]; omega
theorem b8_2 (s : BitVec 32) : (s.toNat : Int) / 65536 % 256 = ((b8 s 2).toNat : Int) := by rw [b8_nat]; omega
theorem b8_3 (s : BitVec 32) : (s.toNat : Int) / 16777216 = ((b8 s 3).toNat : Int) := by rw [b8_nat]; have := s.isLt; omega
theorem le4_take (s : BitVec 32) (j : Nat) (h : j < 4) : (le4 s).take (j + 1) = (le4 s).take j ++ [b8 s j] := by
  have : j = 0 ∨ j = 1 ∨ j = 2 ∨ j = 3 := by omega
  rcases this with rfl | rfl | rfl | rfl <;> rfl

/-! ### Patch -/
def pok (n at_ : Int) (lo ln : Nat) : Bool := decide (0 ≤ n ∧ 0 ≤ at_ ∧ n ≤ 1099511627776 ∧ lo = ln ∧ at_ ≤ n ∧ (lo : Int) ≤ n - at_)
def pv (s : BitVec 32) (n at_ : Int) (l l' : List UInt8) : BitVec 32 := if pok n at_ l.length l'.length then s ^^^ Tn (8 * (n - at_ - l.length).toNat) (ov 0#32 l ^^^ ov 0#32 l') else 0#32
def pe (n at_ : Int) (l l' : List UInt8) : Int := if pok n at_ l.length l'.length then 0 else 1
theorem pv_ok {s : BitVec 32} {n at_ : Int} {l l' : List UInt8} (h : 0 ≤ n ∧ 0 ≤ at_ ∧ n ≤ 1099511627776 ∧ l.length = l'.length ∧ at_ ≤ n ∧ (l.length : Int) ≤ n - at_) {k : Nat} (hk : (k : Int) = n - at_ - l.length) :
    pv s n at_ l l' = s ^^^ Tn (8 * k) (ov 0#32 l ^^^ ov 0#32 l') := by
  have : pok n at_ l.length l'.length = true := by unfold pok; exact decide_eq_true h
  unfold pv; rw [this, if_pos rfl, ← hk]; rfl
theorem pe_ok {n at_ : Int} {l l' : List UInt8} (h : 0 ≤ n ∧ 0 ≤ at_ ∧ n ≤ 1099511627776 ∧ l.length = l'.length ∧ at_ ≤ n ∧ (l.length : Int) ≤ n - at_) : pe n at_ l l' = 0 := by
  have : pok n at_ l.length l'.length = true := by unfold pok; exact decide_eq_true h
  unfold pe; rw [this, if_pos rfl]
theorem pv_bad {s : BitVec 32} {n at_ : Int} {l l' : List UInt8} (h : ¬ (0 ≤ n ∧ 0 ≤ at_ ∧ n ≤ 1099511627776 ∧ l.length = l'.length ∧ at_ ≤ n ∧ (l.length : Int) ≤ n - at_)) : pv s n at_ l l' = 0#32 := by
  have : pok n at_ l.length l'.length = false := by unfold pok; exact decide_eq_false h
  unfold pv; rw [this]; rfl
theorem pe_bad {n at_ : Int} {l l' : List UInt8} (h : ¬ (0 ≤ n ∧ 0 ≤ at_ ∧ n ≤ 1099511627776 ∧ l.length = l'.length ∧ at_ ≤ n ∧ (l.length : Int) ≤ n - at_)) : pe n at_ l l' = 1 := by
  have : pok n at_ l.length l'.length = false := by unfold pok; exact decide_eq_false h
  unfold pe; rw [this]; rfl
/-- the bytes of two strings of one length, laid over one another -/
def xb (l l' : List UInt8) : List UInt8 := List.zipWith (· ^^^ ·) l l'
theorem xb_length {l l' : List UInt8} (h : l.length = l'.length) : (xb l l').length = l.length := by simp [xb, ← h]
theorem by1_xor (x y : BitVec 32) (a b : UInt8) : by1 (x ^^^ y) (a ^^^ b) = by1 x a ^^^ by1 y b := by
  unfold by1
  rw [← Tn_xor, UInt8.toNat_xor]
  congr 1
  rw [show BitVec.ofNat 32 (a.toNat ^^^ b.toNat) = BitVec.ofNat 32 a.toNat ^^^ BitVec.ofNat 32 b.toNat by
    apply BitVec.eq_of_getLsbD_eq; intro i hi; simp [BitVec.getLsbD_ofNat, Nat.testBit_xor]]
  ac_rfl
theorem ov_xor : ∀ (l l' : List UInt8) (x y : BitVec 32), l.length = l'.length → ov (x ^^^ y) (xb l l') = ov x l ^^^ ov y l'
  | [], [], _, _, _ => rfl
  | a :: l, b :: l', x, y, h => by
    have := ov_xor l l' (by1 x a) (by1 y b) (by simpa using h)
    rw [← by1_xor] at this
    exact this
theorem ov_xor0 (l l' : List UInt8) (h : l.length = l'.length) : ov 0#32 (xb l l') = ov 0#32 l ^^^ ov 0#32 l' := by
  have := ov_xor l l' 0#32 0#32 h
  rwa [BitVec.xor_self] at this
theorem xb_take (l l' : List UInt8) (k : Nat) (h : k < l.length) (h' : k < l'.length) : (xb l l').take (k + 1) = (xb l l').take k ++ [l.getD k 0 ^^^ l'.getD k 0] := by
  rw [List.take_succ_eq_append_getElem (by simp [xb]; omega)]
  congr 2
  simp [xb, List.getD_eq_getElem?_getD, List.getElem?_eq_getElem h, List.getElem?_eq_getElem h']
theorem xor_u8 (a b : UInt8) : bits .xor .u8 (a.toNat : Int) (b.toNat : Int) = ((a ^^^ b).toNat : Int) := by
  rw [u8_xor_nat _ _ a.toNat_lt b.toNat_lt, UInt8.toNat_xor]

/-! ### what is linear in the register -/
theorem ov_lin : ∀ (l : List UInt8) (x y : BitVec 32), ov (x ^^^ y) l = ov x l ^^^ Tn (8 * l.length) y
  | [], x, y => by simp [ov, Tn]
  | a :: l, x, y => by
    show ov (by1 (x ^^^ y) a) l = ov (by1 x a) l ^^^ _
    have : by1 (x ^^^ y) a = by1 x a ^^^ Tn 8 y := by
      unfold by1; rw [← Tn_xor]; congr 1; ac_rfl
    rw [this, ov_lin l, ← Tn_add, List.length_cons, show 8 * l.length + 8 = 8 * (l.length + 1) by omega]
theorem ov_zero_lin (l : List UInt8) (x : BitVec 32) : ov x l = ov 0#32 l ^^^ Tn (8 * l.length) x := by
  have := ov_lin l 0#32 x
  rwa [BitVec.zero_xor] at this
theorem not_xor (a b : BitVec 32) : ~~~a ^^^ b = ~~~(a ^^^ b) := by
  rw [← BitVec.xor_allOnes, ← BitVec.xor_allOnes]; ac_rfl
/-- the sum of a string in which a piece became another of its length -/
theorem crc_patch (p a b q : List UInt8) (h : a.length = b.length) : crc 0#32 (p ++ a ++ q) ^^^ Tn (8 * q.length) (ov 0#32 a ^^^ ov 0#32 b) = crc 0#32 (p ++ b ++ q) := by
  unfold crc
  rw [not_xor]
  congr 1
  rw [ov_append, ov_append, ov_append, ov_append, ← ov_lin]
  congr 1
  rw [ov_zero_lin a (ov (~~~0#32) p), ov_zero_lin b (ov (~~~0#32) p), h]
  generalize ov 0#32 a = u
  generalize ov 0#32 b = v
  generalize Tn (8 * b.length) (ov (~~~0#32) p) = t
  rw [show u ^^^ t ^^^ (u ^^^ v) = (u ^^^ u) ^^^ (v ^^^ t) by ac_rfl, BitVec.xor_self, BitVec.zero_xor]
/-- the string after k bytes of now are laid over it from at_ on -/
def laid (l now : List UInt8) (at_ : Nat) : Nat → List UInt8
  | 0 => l
  | k + 1 => (laid l now at_ k).set (at_ + k) (now.getD k 0)
theorem laid_length (l now : List UInt8) (at_ : Nat) : ∀ k, (laid l now at_ k).length = l.length
  | 0 => rfl
  | k + 1 => by rw [laid, List.length_set, laid_length]
theorem laid_get (l now : List UInt8) (at_ : Nat) : ∀ k, at_ + k ≤ l.length → ∀ j, (laid l now at_ k)[j]? = if at_ ≤ j ∧ j < at_ + k then some (now.getD (j - at_) 0) else l[j]?
  | 0, _, j => by rw [if_neg (by omega)]; rfl
  | k + 1, h, j => by
    rw [laid, List.getElem?_set, laid_get l now at_ k (by omega) j, laid_length]
    by_cases e : at_ + k = j
    · subst e
      rw [if_pos rfl, if_pos (by omega), if_pos (by omega), show at_ + k - at_ = k by omega]
    · rw [if_neg e]
      by_cases h2 : at_ ≤ j ∧ j < at_ + k
      · rw [if_pos h2, if_pos (by omega)]
      · rw [if_neg h2, if_neg (by omega)]
theorem laid_all (l now : List UInt8) (at_ : Nat) (h : at_ + now.length ≤ l.length) : laid l now at_ now.length = l.take at_ ++ now ++ l.drop (at_ + now.length) := by
  apply List.ext_getElem?
  intro j
  rw [laid_get l now at_ _ h]
  by_cases h1 : j < at_
  · rw [if_neg (by omega), List.append_assoc, List.getElem?_append_left (by simp; omega), List.getElem?_take, if_pos h1]
  · by_cases h2 : j < at_ + now.length
    · rw [if_pos (by omega), List.getElem?_append_left (by simp; omega), List.getElem?_append_right (by simp; omega)]
      have h3 : j - (l.take at_).length = j - at_ := by simp; omega
      rw [h3, List.getD_eq_getElem?_getD, List.getElem?_eq_getElem (by omega)]; rfl
    · rw [if_neg (by omega), List.getElem?_append_right (by simp; omega), List.getElem?_drop]
      congr 1
      simp; omega
theorem cut_three (l : List UInt8) (a k : Nat) (h : a + k ≤ l.length) : l = l.take a ++ (l.drop a).take k ++ l.drop (a + k) := by
  conv => lhs; rw [← List.take_append_drop a l, ← List.take_append_drop k (l.drop a), List.drop_drop]
  rw [List.append_assoc]
end Go.Proofs.Ytlandlgjhnnaiaa.SumMath
