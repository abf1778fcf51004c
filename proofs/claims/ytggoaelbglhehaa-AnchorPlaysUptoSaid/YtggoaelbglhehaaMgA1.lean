/- The plain mathematics of CRC-32C: a register of 32 bits as a linear map over bits. No Go in this text. -/
import Derived.Laws.BitsAllLaws
import Derived.Laws.CopyOwn
import Derived.WalkKit
import Derived.KernelRfl
import Derived.RowKit
import Derived.Lib.Hide
import Derived.Deep.Draws
import Derived.Deep.MidRow
/- The plain mathematics of CRC-32C: a register of 32 bits as a linear map over bits. No Go in this text. -/
set_option linter.unusedVariables false
set_option linter.unusedSimpArgs false
namespace Go.Proofs.Ytggoaelbglhehaa.SumMath
/-- one step of the register -/
def T (w : BitVec 32) : BitVec 32 := (w >>> 1) ^^^ (if w.getLsbD 0 then 0x82F63B78#32 else 0#32)
def Tn : Nat → BitVec 32 → BitVec 32
  | 0, w => w
  | n + 1, w => Tn n (T w)
theorem T_xor (a b : BitVec 32) : T (a ^^^ b) = T a ^^^ T b := by
  unfold T
  rw [BitVec.getLsbD_xor, BitVec.ushiftRight_xor_distrib]
  cases a.getLsbD 0 <;> cases b.getLsbD 0 <;> simp
  · rw [BitVec.xor_assoc]
  · rw [BitVec.xor_assoc, BitVec.xor_assoc]; congr 1; rw [BitVec.xor_comm]
  · rw [BitVec.xor_assoc, BitVec.xor_comm (b >>> 1), ← BitVec.xor_assoc (2197175160#32), BitVec.xor_self, BitVec.zero_xor]
theorem T_zero : T 0#32 = 0#32 := by decide
theorem Tn_xor (n : Nat) : ∀ a b : BitVec 32, Tn n (a ^^^ b) = Tn n a ^^^ Tn n b := by
  induction n with
  | zero => intro a b; rfl
  | succ n ih => intro a b; simp only [Tn, T_xor, ih]
theorem Tn_zero (n : Nat) : Tn n 0#32 = 0#32 := by
  induction n with
  | zero => rfl
  | succ n ih => simp only [Tn, T_zero, ih]
theorem Tn_add (n m : Nat) : ∀ w, Tn (n + m) w = Tn n (Tn m w) := by
  induction m with
  | zero => intro w; rfl
  | succ m ih => intro w; rw [← Nat.add_assoc]; exact ih (T w)
theorem T_Tn (n : Nat) (w : BitVec 32) : T (Tn n w) = Tn n (T w) := by
  have := Tn_add 1 n w
  rw [Nat.add_comm] at this
  rw [show T (Tn n w) = Tn 1 (Tn n w) from rfl, ← this]; rfl
theorem T_inj0 (w : BitVec 32) (h : T w = 0#32) : w = 0#32 := by
  unfold T at h
  by_cases hb : w.getLsbD 0 = true
  · rw [if_pos hb] at h
    have h31 := congrArg (fun v : BitVec 32 => v.getLsbD 31) h
    simp at h31
  · rw [if_neg hb] at h
    have hb' : w.getLsbD 0 = false := by simpa using hb
    rw [BitVec.xor_zero] at h
    apply BitVec.eq_of_getLsbD_eq
    intro i hi
    cases i with
    | zero => simpa using hb'
    | succ i =>
      have := congrArg (fun v : BitVec 32 => v.getLsbD i) h
      simp at this
      rw [Nat.add_comm] at this
      simpa using this
theorem Tn_inj0 (n : Nat) : ∀ w, Tn n w = 0#32 → w = 0#32 := by
  induction n with
  | zero => intro w h; exact h
  | succ n ih => intro w h; exact T_inj0 w (ih _ h)
theorem Tn_inj (n : Nat) (a b : BitVec 32) (h : Tn n a = Tn n b) : a = b := by
  have h0 : Tn n (a ^^^ b) = 0#32 := by rw [Tn_xor, h, BitVec.xor_self]
  have := Tn_inj0 n _ h0
  have h2 : (a ^^^ b) ^^^ b = 0#32 ^^^ b := by rw [this]
  rwa [BitVec.xor_assoc, BitVec.xor_self, BitVec.xor_zero, BitVec.zero_xor] at h2

/-! ### numbers of the walk -/
theorem bv32_lt (w : BitVec 32) : w.toNat < 4294967296 := w.isLt
theorem turned_no {x : Int} {b : BitVec 32} (hx : x = b.toNat) (h : (bits .and .u32 x 1 == 1) = false) : x / 2 = ((T b).toNat : Int) := by
  subst hx
  rw [show (1 : Int) = ((1 : Nat) : Int) from rfl, u32_and_nat _ _ b.isLt (by decide), nat_mask1] at h
  have h0 : b.getLsbD 0 = false := by
    rw [BitVec.getLsbD, Nat.testBit_zero]
    have : ¬ b.toNat % 2 = 1 := by intro hc; rw [hc] at h; simp at h
    simp [this]
  unfold T
  rw [h0]
  simp [BitVec.toNat_ushiftRight, Nat.shiftRight_eq_div_pow]
theorem turned_yes {x : Int} {b : BitVec 32} (hx : x = b.toNat) (h : (bits .and .u32 x 1 == 1) = true) : bits .xor .u32 (x / 2) 2197175160 = ((T b).toNat : Int) := by
  subst hx
  rw [show (1 : Int) = ((1 : Nat) : Int) from rfl, u32_and_nat _ _ b.isLt (by decide), nat_mask1] at h
  have h0 : b.getLsbD 0 = true := by
    rw [BitVec.getLsbD, Nat.testBit_zero]
    have : b.toNat % 2 = 1 := by
      rcases Nat.mod_two_eq_zero_or_one b.toNat with hc | hc
      · rw [hc] at h; simp at h
      · exact hc
    simp [this]
  unfold T
  rw [h0, show ((b.toNat : Int) / 2) = ((b.toNat / 2 : Nat) : Int) by omega, show (2197175160 : Int) = ((2197175160 : Nat) : Int) from rfl, u32_xor_nat _ _ (by have := b.isLt; omega) (by decide)]
  simp [BitVec.toNat_xor, BitVec.toNat_ushiftRight, Nat.shiftRight_eq_div_pow]
/-- the same in the reference's spelling -/
theorem step_no {x : Int} {b : BitVec 32} (hx : x = b.toNat) (h : (x % 2 == 1) = false) : x / 2 = ((T b).toNat : Int) := by
  refine turned_no hx ?_
  subst hx
  rw [show (1 : Int) = ((1 : Nat) : Int) from rfl, u32_and_nat _ _ b.isLt (by decide), nat_mask1]
  simp only [beq_eq_false_iff_ne, ne_eq] at h ⊢
  omega
theorem step_yes {x : Int} {b : BitVec 32} (hx : x = b.toNat) (h : (x % 2 == 1) = true) : bits .xor .u32 (x / 2) 2197175160 = ((T b).toNat : Int) := by
  refine turned_yes hx ?_
  subst hx
  rw [show (1 : Int) = ((1 : Nat) : Int) from rfl, u32_and_nat _ _ b.isLt (by decide), nat_mask1]
  simp only [beq_iff_eq] at h ⊢
  omega

/-! ### products -/
def pr (a b : BitVec 32) : Nat → BitVec 32
  | 0 => 0#32
  | i + 1 => pr a b i ^^^ (if a.getLsbD (31 - i) then Tn i b else 0#32)
theorem pr_T (a b : BitVec 32) (n : Nat) : ∀ i, pr a (Tn n b) i = Tn n (pr a b i)
  | 0 => by simp [pr, Tn_zero]
  | i + 1 => by
    simp only [pr, pr_T a b n i, Tn_xor]
    congr 1
    split
    · rw [← Tn_add, ← Tn_add, Nat.add_comm]
    · rw [Tn_zero]
/-- the unit: the power 0 -/
def e0 : BitVec 32 := 0x80000000#32
theorem pr_e0_bit (a : BitVec 32) : ∀ i, i ≤ 32 → ∀ j, j < 32 → (pr a e0 i).getLsbD j = (decide (32 - i ≤ j) && a.getLsbD j)
  | 0, _, j, hj => by simp [pr]; omega
  | i + 1, hi, j, hj => by
    have ih := pr_e0_bit a i (by omega) j hj
    have hT : ∀ i, i < 32 → Tn i e0 = BitVec.twoPow 32 (31 - i) := by decide
    simp only [pr, BitVec.getLsbD_xor, ih, hT i (by omega)]
    by_cases hij : j = 31 - i
    · subst hij
      have h1 : ¬ (32 - i ≤ 31 - i) := by omega
      have h2 : 32 - (i + 1) ≤ 31 - i := by omega
      simp only [h1, h2, decide_false, decide_true, Bool.false_and, Bool.true_and, Bool.false_xor]
      cases h : a.getLsbD (31 - i) <;> simp [BitVec.getLsbD_twoPow]
      omega
    · have h3 : (32 - i ≤ j) ↔ (32 - (i + 1) ≤ j) := by omega
      simp only [h3]
      cases h : a.getLsbD (31 - i)
      · simp
      · simp only [if_true, BitVec.getLsbD_twoPow]
        have : ¬ (31 - i = j) := fun h => hij h.symm
        simp [this]
theorem pr_e0 (a : BitVec 32) : pr a e0 32 = a := by
  apply BitVec.eq_of_getLsbD_eq
  intro j hj
  rw [pr_e0_bit a 32 (by omega) j hj]
  simp
/-- to multiply by a power is to move on -/
theorem pr_pow (a : BitVec 32) (n : Nat) : pr a (Tn n e0) 32 = Tn n a := by rw [pr_T, pr_e0]
/-- the mask of the program's product -/
def mI (i : Nat) : Nat := 2147483648 / 2 ^ i
theorem mI_zero : mI 0 = 2147483648 := rfl
theorem mI_succ (i : Nat) : mI (i + 1) = mI i / 2 := by unfold mI; rw [Nat.pow_succ, Nat.div_div_eq_div_mul]
theorem mI_lt (i : Nat) : mI i < 4294967296 := by unfold mI; exact Nat.lt_of_le_of_lt (Nat.div_le_self _ _) (by decide)
theorem mI_pow (i : Nat) (h : i < 32) : mI i = 2 ^ (31 - i) := by
  unfold mI
  rw [show 2147483648 = 2 ^ 31 from rfl]
  exact Nat.pow_div (by omega) (by decide)
theorem mI_pos (i : Nat) (h : i < 32) : 0 < mI i := by rw [mI_pow i h]; exact Nat.pow_pos (by decide)
theorem mI_32 : mI 32 = 0 := by decide
theorem and_mI (a : BitVec 32) (i : Nat) (h : i < 32) : (bits .and .u32 (a.toNat : Int) (mI i : Int) != 0) = a.getLsbD (31 - i) := by
  rw [u32_and_nat _ _ a.isLt (mI_lt i), mI_pow i h, nat_bit]
  rw [BitVec.getLsbD, Nat.testBit_eq_decide_div_mod_eq]
  have h2 := Nat.mod_two_eq_zero_or_one (a.toNat / 2 ^ (31 - i))
  have hp : 0 < 2 ^ (31 - i) := Nat.pow_pos (by decide)
  generalize 2 ^ (31 - i) = p at *
  rcases h2 with h2 | h2 <;> rw [h2] <;> simp
  omega
theorem pr_yes {a b : BitVec 32} {i : Nat} (ht : a.getLsbD (31 - i) = true) : bits .xor .u32 ((pr a b i).toNat : Int) ((Tn i b).toNat : Int) = ((pr a b (i + 1)).toNat : Int) := by
  rw [u32_xor_nat _ _ (pr a b i).isLt (Tn i b).isLt, pr, ht, if_pos rfl, BitVec.toNat_xor]
theorem pr_no {a b : BitVec 32} {i : Nat} (ht : a.getLsbD (31 - i) = false) : ((pr a b i).toNat : Int) = ((pr a b (i + 1)).toNat : Int) := by
  rw [pr, ht]; simp
/-- the reference's shifted factor -/
def sh (a : BitVec 32) (i : Nat) : Nat := a.toNat * 2 ^ i % 4294967296
theorem sh_zero (a : BitVec 32) : sh a 0 = a.toNat := by unfold sh; rw [Nat.pow_zero, Nat.mul_one]; exact Nat.mod_eq_of_lt a.isLt
theorem sh_succ (a : BitVec 32) (i : Nat) : sh a (i + 1) = sh a i * 2 % 4294967296 := by unfold sh; rw [Nat.pow_succ, ← Nat.mul_assoc, Nat.mod_mul_mod]
theorem sh_lt (a : BitVec 32) (i : Nat) : sh a i < 4294967296 := Nat.mod_lt _ (by decide)
theorem sh_top (a : BitVec 32) (i : Nat) (h : i < 32) : decide (2147483648 ≤ sh a i) = a.getLsbD (31 - i) := by
  have h1 : decide (2147483648 ≤ sh a i) = (sh a i).testBit 31 := by
    rw [Nat.testBit_eq_decide_div_mod_eq]
    have := sh_lt a i
    congr 1
    apply propext
    constructor <;> intro h <;> omega
  rw [h1, BitVec.getLsbD, sh, show 4294967296 = 2 ^ 32 from rfl, Nat.testBit_mod_two_pow, Nat.mul_comm, Nat.testBit_two_pow_mul]
  simp; omega

/-! ### bytes -/
def by1 (w : BitVec 32) (c : UInt8) : BitVec 32 := Tn 8 (w ^^^ BitVec.ofNat 32 c.toNat)
def ov (w : BitVec 32) (l : List UInt8) : BitVec 32 := l.foldl by1 w
theorem ov_append (w : BitVec 32) (a b : List UInt8) : ov w (a ++ b) = ov (ov w a) b := List.foldl_append
theorem ov_snoc (w : BitVec 32) (a : List UInt8) (c : UInt8) : ov w (a ++ [c]) = by1 (ov w a) c := by rw [ov_append]; rfl
theorem xor_byte (x : BitVec 32) (c : UInt8) : bits .xor .u32 (x.toNat : Int) (c.toNat : Int) = ((x ^^^ BitVec.ofNat 32 c.toNat).toNat : Int) := by
  have := c.toNat_lt
  rw [u32_xor_nat _ _ x.isLt (by omega), BitVec.toNat_xor, BitVec.toNat_ofNat, Nat.mod_eq_of_lt (by omega)]

/-! ### half a byte by the table -/
theorem T_even (y : BitVec 32) (h : y.getLsbD 0 = false) : T y = y >>> 1 := by unfold T; rw [h]; simp
theorem T4_shift (y : BitVec 32) (h : ∀ i, i < 4 → y.getLsbD i = false) : Tn 4 y = y >>> 4 := by
  have e1 : T y = y >>> 1 := T_even y (h 0 (by omega))
  have e2 : T (y >>> 1) = y >>> 2 := by rw [T_even _ (by rw [BitVec.getLsbD_ushiftRight]; exact h 1 (by omega)), ← BitVec.shiftRight_add]
  have e3 : T (y >>> 2) = y >>> 3 := by rw [T_even _ (by rw [BitVec.getLsbD_ushiftRight]; exact h 2 (by omega)), ← BitVec.shiftRight_add]
  have e4 : T (y >>> 3) = y >>> 4 := by rw [T_even _ (by rw [BitVec.getLsbD_ushiftRight]; exact h 3 (by omega)), ← BitVec.shiftRight_add]
  simp only [Tn, e1, e2, e3, e4]
theorem T4_nib (x : BitVec 32) : Tn 4 x = (x >>> 4) ^^^ Tn 4 (x &&& 15#32) := by
  have hx : x = (x &&& ~~~15#32) ^^^ (x &&& 15#32) := by
    apply BitVec.eq_of_getLsbD_eq
    intro i hi
    rw [BitVec.getLsbD_xor, BitVec.getLsbD_and, BitVec.getLsbD_and, BitVec.getLsbD_not]
    cases x.getLsbD i <;> cases (15#32).getLsbD i <;> simp [hi]
  have hz : ∀ i, i < 4 → (x &&& ~~~15#32).getLsbD i = false := by
    intro i hi
    rw [BitVec.getLsbD_and, BitVec.getLsbD_not]
    have : (15#32).getLsbD i = true := by
      have : i = 0 ∨ i = 1 ∨ i = 2 ∨ i = 3 := by omega
      rcases this with rfl | rfl | rfl | rfl <;> rfl
    rw [this]; simp
  have hs : (x &&& ~~~15#32) >>> 4 = x >>> 4 := by
    apply BitVec.eq_of_getLsbD_eq
    intro i hi
    rw [BitVec.getLsbD_ushiftRight, BitVec.getLsbD_ushiftRight, BitVec.getLsbD_and, BitVec.getLsbD_not]
    have : (15#32).getLsbD (4 + i) = false := by
      rw [BitVec.getLsbD_ofNat]
      have : Nat.testBit 15 (4 + i) = false := Nat.testBit_lt_two_pow (by rw [Nat.pow_add]; have := Nat.one_le_two_pow (n := i); omega)
      simp [this]
    rw [this]
    by_cases h : 4 + i < 32
    · simp [h]
    · simp [h, BitVec.getLsbD_of_ge x (4 + i) (by omega)]
  conv => lhs; rw [hx, Tn_xor, T4_shift _ hz, hs]
/-- what the walk meets: a number below 16, and the next word -/
theorem nib_and (x : BitVec 32) : bits .and .u32 (x.toNat : Int) 15 = ((x.toNat % 16 : Nat) : Int) := by
  rw [show (15 : Int) = ((15 : Nat) : Int) from rfl, u32_and_nat _ _ x.isLt (by decide), nat_mask4]
theorem nib_xor (x : BitVec 32) : bits .xor .u32 ((x.toNat : Int) / 16) ((Tn 4 (BitVec.ofNat 32 (x.toNat % 16))).toNat : Int) = ((Tn 4 x).toNat : Int) := by
  have hx : x &&& 15#32 = BitVec.ofNat 32 (x.toNat % 16) := by
    apply BitVec.eq_of_toNat_eq
    rw [BitVec.toNat_and, BitVec.toNat_ofNat, BitVec.toNat_ofNat, show 15 % 2 ^ 32 = 15 from rfl, nat_mask4]
    omega
  rw [T4_nib x, hx, show ((x.toNat : Int) / 16) = ((x.toNat / 16 : Nat) : Int) by omega, u32_xor_nat _ _ (by have := x.isLt; omega) (BitVec.isLt _), BitVec.toNat_xor, BitVec.toNat_ushiftRight, Nat.shiftRight_eq_div_pow]
theorem by1_two (x : BitVec 32) (c : UInt8) : Tn 4 (Tn 4 (x ^^^ BitVec.ofNat 32 c.toNat)) = by1 x c := by rw [by1, ← Tn_add]

def crc (s : BitVec 32) (l : List UInt8) : BitVec 32 := ~~~(ov (~~~s) l)
theorem ones_xor (s : BitVec 32) : bits .xor .u32 4294967295 (s.toNat : Int) = ((~~~s).toNat : Int) := by
  rw [show (4294967295 : Int) = ((4294967295 : Nat) : Int) from rfl, u32_xor_nat _ _ (by decide) s.isLt]
  congr 1
theorem crc_append (s : BitVec 32) (a b : List UInt8) : crc s (a ++ b) = crc (crc s a) b := by
  unfold crc; rw [ov_append, BitVec.not_not]
theorem crc_nil (s : BitVec 32) : crc s [] = s := by unfold crc ov; simp

/-! ### what Join and Patch answer -/
def jok (n : Int) : Bool := decide (0 ≤ n ∧ n ≤ 1099511627776)
def jv (a b : BitVec 32) (n : Int) : BitVec 32 := if jok n then Tn (8 * n.toNat) a ^^^ b else 0#32
def je (n : Int) : Int := if jok n then 0 else 1
theorem jv_ok {a b : BitVec 32} {n : Nat} (h : n ≤ 1099511627776) : jv a b n = Tn (8 * n) a ^^^ b := by
  have : jok n = true := by unfold jok; exact decide_eq_true (by omega)
  unfold jv; rw [this, if_pos rfl]; rfl
theorem je_ok {n : Nat} (h : n ≤ 1099511627776) : je n = 0 := by
  have : jok n = true := by unfold jok; exact decide_eq_true (by omega)
  unfold je; rw [this, if_pos rfl]
theorem jv_bad {a b : BitVec 32} {n : Int} (h : n < 0 ∨ 1099511627776 < n) : jv a b n = 0#32 := by
  have : jok n = false := by unfold jok; exact decide_eq_false (by omega)
  unfold jv; rw [this]; rfl
theorem je_bad {n : Int} (h : n < 0 ∨ 1099511627776 < n) : je n = 1 := by
  have : jok n = false := by unfold jok; exact decide_eq_false (by omega)
  unfold je; rw [this]; rfl
theorem xor_nat (a b : BitVec 32) : bits .xor .u32 (a.toNat : Int) (b.toNat : Int) = ((a ^^^ b).toNat : Int) := by
  rw [u32_xor_nat _ _ a.isLt b.isLt, BitVec.toNat_xor]

/-! ### a sum as four bytes -/
def b8 (s : BitVec 32) (i : Nat) : UInt8 := UInt8.ofNat (s.toNat / 256 ^ i % 256)
def le4 (s : BitVec 32) : List UInt8 := [b8 s 0, b8 s 1, b8 s 2, b8 s 3]
theorem b8_nat (s : BitVec 32) (i : Nat) : (b8 s i).toNat = s.toNat / 256 ^ i % 256 := by
  unfold b8; rw [UInt8.toNat_ofNat']; omega
theorem b8_0 (s : BitVec 32) : (s.toNat : Int) % 256 = ((b8 s 0).toNat : Int) := by rw [b8_nat]; omega
theorem b8_1 (s : BitVec 32) : (s.toNat : Int) / 256 % 256 = ((b8 s 1).toNat : Int) := by rw [b8_nat]; omega
theorem b8_2 (s : BitVec 32) : (s.toNat : Int) / 65536 % 256 = ((b8 s 2).toNat : Int) := by rw [b8_nat]; omega
theorem b8_3 (s : BitVec 32) : (s.toNat : Int) / 16777216 = ((b8 s 3).toNat : Int) := by rw [b8_nat]; have := s.isLt; omega
theorem le4_take (s : BitVec 32) (j : Nat) (h : j < 4) : (le4 s).take (j + 1) = (le4 s).take j ++ [b8 s j] := by
  have : j = 0 ∨ j = 1 ∨ j = 2 ∨ j = 3 := by omega
  rcases this with rfl | rfl | rfl | rfl <;> rfl

/-! ### Patch -/
def pok (n at_ : Int) (lo ln : Nat) : Bool := decide (0 ≤ n ∧ 0 ≤ at_ ∧ n ≤ 1099511627776 ∧ lo = ln ∧ at_ ≤ n ∧ (lo : Int) ≤ n - at_)
def pv (s : BitVec 32) (n at_ : Int) (l l' : List UInt8) : BitVec 32 := if pok n at_ l.length l'.length then s ^^^ Tn (8 * (n - at_ - l.length).toNat) (ov 0#32 l ^^^ ov 0#32 l') else 0#32
def pe (n at_ : Int) (l l' : List UInt8) : Int := if pok n at_ l.length l'.length then 0 else 1
theorem pv_ok {s : BitVec 32} {n at_ : Int} {l l' : List UInt8} (h : 0 ≤ n ∧ 0 ≤ at_ ∧ n ≤ 1099511627776 ∧ l.length = l'.length ∧ at_ ≤ n ∧ (l.length : Int) ≤ n - at_) {k : Nat} (hk : (k : Int) = n - at_ - l.length) :
    pv s n at_ l l' = s ^^^ Tn (8 * k) (ov 0#32 l ^^^ ov 0#32 l') := by
  have : pok n at_ l.length l'.length = true := by unfold pok; exact decide_eq_true h
  unfold pv; rw [this, if_pos rfl, ← hk]; rfl
theorem pe_ok {n at_ : Int} {l l' : List UInt8} (h : 0 ≤ n ∧ 0 ≤ at_ ∧ n ≤ 1099511627776 ∧ l.length = l'.length ∧ at_ ≤ n ∧ (l.length : Int) ≤ n - at_) : pe n at_ l l' = 0 := by
  have : pok n at_ l.length l'.length = true := by unfold pok; exact decide_eq_true h
  unfold pe; rw [this, if_pos rfl]
theorem pv_bad {s : BitVec 32} {n at_ : Int} {l l' : List UInt8} (h : ¬ (0 ≤ n ∧ 0 ≤ at_ ∧ n ≤ 1099511627776 ∧ l.length = l'.length ∧ at_ ≤ n ∧ (l.length : Int) ≤ n - at_)) : pv s n at_ l l' = 0#32 := by
  have : pok n at_ l.length l'.length = false := by unfold pok; exact decide_eq_false h
  unfold pv; rw [this]; rfl
theorem pe_bad {n at_ : Int} {l l' : List UInt8} (h : ¬ (0 ≤ n ∧ 0 ≤ at_ ∧ n ≤ 1099511627776 ∧ l.length = l'.length ∧ at_ ≤ n ∧ (l.length : Int) ≤ n - at_)) : pe n at_ l l' = 1 := by
  have : pok n at_ l.length l'.length = false := by unfold pok; exact decide_eq_false h
  unfold pe; rw [this]; rfl
/-- the bytes of two strings of one length, laid over one another -/
def xb (l l' : List UInt8) : List UInt8 := List.zipWith (· ^^^ ·) l l'
theorem xb_length {l l' : List UInt8} (h : l.length = l'.length) : (xb l l').length = l.length := by simp [xb, ← h]
theorem by1_xor (x y : BitVec 32) (a b : UInt8) : by1 (x ^^^ y) (a ^^^ b) = by1 x a ^^^ by1 y b := by
  unfold by1
  rw [← Tn_xor, UInt8.toNat_xor]
  congr 1
  rw [show BitVec.ofNat 32 (a.toNat ^^^ b.toNat) = BitVec.ofNat 32 a.toNat ^^^ BitVec.ofNat 32 b.toNat by
    apply BitVec.eq_of_getLsbD_eq; intro i hi; simp [BitVec.getLsbD_ofNat, Nat.testBit_xor]]
  ac_rfl
theorem ov_xor : ∀ (l l' : List UInt8) (x y : BitVec 32), l.length = l'.length → ov (x ^^^ y) (xb l l') = ov x l ^^^ ov y l'
  | [], [], _, _, _ => rfl
  | a :: l, b :: l', x, y, h => by
    have := ov_xor l l' (by1 x a) (by1 y b) (by simpa using h)
    rw [← by1_xor] at this
    exact this
theorem ov_xor0 (l l' : List UInt8) (h : l.length = l'.length) : ov 0#32 (xb l l') = ov 0#32 l ^^^ ov 0#32 l' := by
  have := ov_xor l l' 0#32 0#32 h
  rwa [BitVec.xor_self] at this
theorem xb_take (l l' : List UInt8) (k : Nat) (h : k < l.length) (h' : k < l'.length) : (xb l l').take (k + 1) = (xb l l').take k ++ [l.getD k 0 ^^^ l'.getD k 0] := by
  rw [List.take_succ_eq_append_getElem (by simp [xb]; omega)]
  congr 2
  simp [xb, List.getD_eq_getElem?_getD, List.getElem?_eq_getElem h, List.getElem?_eq_getElem h']
theorem xor_u8 (a b : UInt8) : bits .xor .u8 (a.toNat : Int) (b.toNat : Int) = ((a ^^^ b).toNat : Int) := by
  rw [u8_xor_nat _ _ a.toNat_lt b.toNat_lt, UInt8.toNat_xor]

/-! ### what is linear in the register -/
theorem ov_lin : ∀ (l : List UInt8) (x y : BitVec 32), ov (x ^^^ y) l = ov x l ^^^ Tn (8 * l.length) y
  | [], x, y => by simp [ov, Tn]
  | a :: l, x, y => by
    show ov (by1 (x ^^^ y) a) l = ov (by1 x a) l ^^^ _
    have : by1 (x ^^^ y) a = by1 x a ^^^ Tn 8 y := by
      unfold by1; rw [← Tn_xor]; congr 1; ac_rfl
    rw [this, ov_lin l, ← Tn_add, List.length_cons, show 8 * l.length + 8 = 8 * (l.length + 1) by omega]
theorem ov_zero_lin (l : List UInt8) (x : BitVec 32) : ov x l = ov 0#32 l ^^^ Tn (8 * l.length) x := by
  have := ov_lin l 0#32 x
  rwa [BitVec.zero_xor] at this
theorem not_xor (a b : BitVec 32) : ~~~a ^^^ b = ~~~(a ^^^ b) := by
  rw [← BitVec.xor_allOnes, ← BitVec.xor_allOnes]; ac_rfl
/-- the sum of a string in which a piece became another of its length -/
theorem crc_patch (p a b q : List UInt8) (h : a.length = b.length) : crc 0#32 (p ++ a ++ q) ^^^ Tn (8 * q.length) (ov 0#32 a ^^^ ov 0#32 b) = crc 0#32 (p ++ b ++ q) := by
  unfold crc
  rw [not_xor]
  congr 1
  rw [ov_append, ov_append, ov_append, ov_append, ← ov_lin]
  congr 1
  rw [ov_zero_lin a (ov (~~~0#32) p), ov_zero_lin b (ov (~~~0#32) p), h]
  generalize ov 0#32 a = u
  generalize ov 0#32 b = v
  generalize Tn (8 * b.length) (ov (~~~0#32) p) = t
  rw [show u ^^^ t ^^^ (u ^^^ v) = (u ^^^ u) ^^^ (v ^^^ t) by ac_rfl, BitVec.xor_self, BitVec.zero_xor]
/-- the string after k bytes of now are laid over it from at_ on -/
def laid (l now : List UInt8) (at_ : Nat) : Nat → List UInt8
  | 0 => l
  | k + 1 => (laid l now at_ k).set (at_ + k) (now.getD k 0)
theorem laid_length (l now : List UInt8) (at_ : Nat) : ∀ k, (laid l now at_ k).length = l.length
  | 0 => rfl
  | k + 1 => by rw [laid, List.length_set, laid_length]
theorem laid_get (l now : List UInt8) (at_ : Nat) : ∀ k, at_ + k ≤ l.length → ∀ j, (laid l now at_ k)[j]? = if at_ ≤ j ∧ j < at_ + k then some (now.getD (j - at_) 0) else l[j]?
  | 0, _, j => by rw [if_neg (by omega)]; rfl
  | k + 1, h, j => by
    rw [laid, List.getElem?_set, laid_get l now at_ k (by omega) j, laid_length]
    by_cases e : at_ + k = j
    · subst e
      rw [if_pos rfl, if_pos (by omega), if_pos (by omega), show at_ + k - at_ = k by omega]
    · rw [if_neg e]
      by_cases h2 : at_ ≤ j ∧ j < at_ + k
      · rw [if_pos h2, if_pos (by omega)]
      · rw [if_neg h2, if_neg (by omega)]
theorem laid_all (l now : List UInt8) (at_ : Nat) (h : at_ + now.length ≤ l.length) : laid l now at_ now.length = l.take at_ ++ now ++ l.drop (at_ + now.length) := by
  apply List.ext_getElem?
  intro j
  rw [laid_get l now at_ _ h]
  by_cases h1 : j < at_
  · rw [if_neg (by omega), List.append_assoc, List.getElem?_append_left (by simp; omega), List.getElem?_take, if_pos h1]
  · by_cases h2 : j < at_ + now.length
    · rw [if_pos (by omega), List.getElem?_append_left (by simp; omega), List.getElem?_append_right (by simp; omega)]
      have h3 : j - (l.take at_).length = j - at_ := by simp; omega
      rw [h3, List.getD_eq_getElem?_getD, List.getElem?_eq_getElem (by omega)]; rfl
    · rw [if_neg (by omega), List.getElem?_append_right (by simp; omega), List.getElem?_drop]
      congr 1
      simp; omega
theorem cut_three (l : List UInt8) (a k : Nat) (h : a + k ≤ l.length) : l = l.take a ++ (l.drop a).take k ++ l.drop (a + k) := by
  conv => lhs; rw [← List.take_append_drop a l, ← List.take_append_drop k (l.drop a), List.drop_drop]
  rw [List.append_assoc]
end Go.Proofs.Ytggoaelbglhehaa.SumMath
/- Numbers of a fixed length in bytes, the lowest first; pieces of a block; a superblock's bytes. No Go in this text. -/
set_option linter.unusedVariables false
set_option linter.unusedSimpArgs false
namespace Go.Proofs.Ytggoaelbglhehaa
open Go.RowKit SumMath
def leB : Nat → Int → List UInt8
  | 0, _ => []
  | n + 1, v => UInt8.ofNat (v % 256).toNat :: leB n (v / 256)
def leN : List UInt8 → Nat
  | [] => 0
  | x :: r => x.toNat + 256 * leN r
def getI (l : List UInt8) : Int := IntKind.i64.wrap (leN l)
theorem leB_len : ∀ (n : Nat) (v : Int), (leB n v).length = n
  | 0, _ => rfl
  | n + 1, v => by rw [leB, List.length_cons, leB_len n]
theorem leN_lt : ∀ l : List UInt8, leN l < 256 ^ l.length
  | [] => by simp [leN]
  | x :: r => by
    have h1 := leN_lt r
    have h2 := x.toNat_lt
    rw [leN, List.length_cons, Nat.pow_succ]
    omega
theorem emod_256 (v k : Int) (hk : 0 < k) : v % 256 + ((256 : Nat) : Int) * (v / 256 % k) = v % (k * ((256 : Nat) : Int)) := by
  have e1 := Int.emod_add_mul_ediv v 256
  have e2 := Int.emod_add_mul_ediv (v / 256) k
  have l1 := Int.emod_nonneg (v / 256) (show k ≠ 0 by omega)
  have l2 := Int.emod_lt_of_pos (v / 256) hk
  generalize hr : v / 256 % k = r at *
  generalize hq : v / 256 / k = q at *
  generalize hm : v % 256 = m at *
  have hm0 : 0 ≤ m ∧ m < 256 := by omega
  have e3 : v = (m + 256 * r) + (k * 256) * q := by
    rw [← e1, ← e2, Int.mul_add, Int.mul_comm k 256, Int.mul_assoc]; omega
  have e4 : k * ((256 : Nat) : Int) = k * 256 := rfl
  rw [e4]
  conv => rhs; rw [e3]
  rw [Int.add_mul_emod_self_left, Int.emod_eq_of_lt (by omega) (by omega)]
  rfl
theorem leN_leB : ∀ (n : Nat) (v : Int), (leN (leB n v) : Int) = v % ((256 ^ n : Nat) : Int)
  | 0, v => by simp [leB, leN]
  | n + 1, v => by
    have ih := leN_leB n (v / 256)
    have h1 : ((UInt8.ofNat (v % 256).toNat).toNat : Int) = v % 256 := by rw [UInt8.toNat_ofNat']; omega
    rw [leB, leN, Nat.pow_succ, Int.natCast_add, h1, Int.natCast_mul, ih]
    have h2 : (0 : Int) < ((256 ^ n : Nat) : Int) := by
      have : 0 < 256 ^ n := Nat.pow_pos (by decide)
      omega
    rw [Int.natCast_mul]
    generalize ((256 ^ n : Nat) : Int) = k at h2 ⊢
    exact emod_256 v k h2
theorem leB_leN : ∀ l : List UInt8, leB l.length (leN l : Nat) = l
  | [] => rfl
  | x :: r => by
    have ih := leB_leN r
    have h2 := x.toNat_lt
    rw [List.length_cons, leB, leN]
    have e1 : (((x.toNat + 256 * leN r : Nat) : Int) % 256).toNat = x.toNat := by omega
    have e2 : ((x.toNat + 256 * leN r : Nat) : Int) / 256 = (leN r : Nat) := by omega
    rw [e1, e2, ih, UInt8.ofNat_toNat]
theorem leB_get : ∀ (n : Nat) (v : Int) (i : Nat), i < n → (leB n v).getD i 0 = UInt8.ofNat ((v / ((256 ^ i : Nat) : Int)) % 256).toNat
  | n + 1, v, 0, _ => by simp [leB]
  | n + 1, v, i + 1, h => by
    have ih := leB_get n (v / 256) i (by omega)
    rw [leB, List.getD_cons_succ, ih, Nat.pow_succ]
    congr 3
    rw [show ((256 ^ i * 256 : Nat) : Int) = 256 * ((256 ^ i : Nat) : Int) by rw [Int.natCast_mul, Int.mul_comm]; rfl, Int.ediv_ediv_of_nonneg (by omega)]
theorem wrap_i64_nat (n : Nat) (h : n < 9223372036854775808) : IntKind.i64.wrap (n : Int) = n := by
  simp [IntKind.wrap, IntKind.bits, IntKind.signed]; omega
theorem getI_leB (n : Nat) (v : Int) (h0 : 0 ≤ v) (h1 : v < ((256 ^ n : Nat) : Int)) (h2 : v < 9223372036854775808) : getI (leB n v) = v := by
  have h := leN_leB n v
  rw [Int.emod_eq_of_lt h0 h1] at h
  unfold getI
  rw [h]
  obtain ⟨m, rfl⟩ := Int.eq_ofNat_of_zero_le h0
  exact wrap_i64_nat m (by omega)
/-! ### pieces -/
def seg {α : Type} (l : List α) (at_ n : Nat) : List α := (l.drop at_).take n
theorem seg_len {α : Type} (l : List α) (at_ n : Nat) (h : at_ + n ≤ l.length) : (seg l at_ n).length = n := by
  unfold seg; rw [List.length_take, List.length_drop]; omega
theorem seg_get {α : Type} (l : List α) (at_ n i : Nat) : (seg l at_ n)[i]? = if i < n then l[at_ + i]? else none := by
  unfold seg
  rw [List.getElem?_take]
  split
  · rw [List.getElem?_drop]
  · rfl
theorem spl_get {α : Type} (M X : List α) (off i : Nat) (h : off + X.length ≤ M.length) : (splice M off X)[i]? = if off ≤ i ∧ i < off + X.length then X[i - off]? else M[i]? := by
  have hl : (M.take off).length = off := by rw [List.length_take]; omega
  unfold splice
  by_cases h1 : i < off
  · rw [List.getElem?_append_left (by omega), if_neg (by omega), List.getElem?_take, if_pos h1]
  · rw [List.getElem?_append_right (by omega), hl]
    by_cases h2 : i < off + X.length
    · rw [List.getElem?_append_left (by omega), if_pos (by omega)]
    · rw [List.getElem?_append_right (by omega), if_neg (by omega), List.getElem?_drop]
      congr 1; omega
theorem spl_len {α : Type} (M X : List α) (off : Nat) (h : off + X.length ≤ M.length) : (splice M off X).length = M.length := length_splice M off X h
theorem seg_same {α : Type} (M X : List α) (off : Nat) (h : off + X.length ≤ M.length) : seg (splice M off X) off X.length = X := by
  apply List.ext_getElem?
  intro i
  rw [seg_get]
  by_cases hi : i < X.length
  · rw [if_pos hi, spl_get _ _ _ _ h, if_pos (by omega)]; congr 1; omega
  · rw [if_neg hi, List.getElem?_eq_none (by omega)]
theorem seg_other {α : Type} (M X : List α) (off at_ n : Nat) (h : off + X.length ≤ M.length) (hd : at_ + n ≤ off ∨ off + X.length ≤ at_) : seg (splice M off X) at_ n = seg M at_ n := by
  apply List.ext_getElem?
  intro i
  rw [seg_get, seg_get]
  by_cases hi : i < n
  · rw [if_pos hi, if_pos hi, spl_get _ _ _ _ h, if_neg (by omega)]
  · rw [if_neg hi, if_neg hi]
/-- one byte more of a piece is laid -/
theorem spl_step {α : Type} (M X : List α) (off j : Nat) (d : α) (h : off + X.length ≤ M.length) (hj : j < X.length) : (splice M off (X.take j)).set (off + j) (X.getD j d) = splice M off (X.take (j + 1)) := by
  have h1 : (X.take j).length = j := by rw [List.length_take]; omega
  have h2 : (X.take (j + 1)).length = j + 1 := by rw [List.length_take]; omega
  apply List.ext_getElem?
  intro i
  rw [List.getElem?_set, spl_len _ _ _ (by omega), spl_get _ _ _ _ (by omega), spl_get _ _ _ _ (by omega), h1, h2]
  by_cases e : off + j = i
  · subst e
    rw [if_pos rfl, if_pos (by omega), if_pos (by omega), List.getElem?_take, if_pos (by omega), show off + j - off = j by omega, List.getElem?_eq_getElem hj, List.getD_eq_getElem?_getD, List.getElem?_eq_getElem hj]; rfl
  · rw [if_neg e]
    by_cases h3 : off ≤ i ∧ i < off + j
    · rw [if_pos h3, if_pos (by omega), List.getElem?_take, List.getElem?_take, if_pos (by omega), if_pos (by omega)]
    · rw [if_neg h3, if_neg (by omega)]
theorem spl_nil {α : Type} (M : List α) (off : Nat) : splice M off ([] : List α) = M := by simp [splice]
/-! ### a superblock -/
structure Sp where
  gen : Int
  epoch : Int
  blocks : Int
  log : Int
  stamp : Int
  at_ : Int
  root : Int
  count : Int
  version : Int
def zSp : Sp := ⟨0, 0, 0, 0, 0, 0, 0, 0, 0⟩
def topS : Int := 1152921500311879680
structure Vld (s : Sp) (n : Int) : Prop where
  blocks : s.blocks = n
  lo : 64 ≤ n
  hi : n ≤ 4096
  log : 8 ≤ s.log ∧ s.log ≤ 512
  room : 2 + s.log + 40 ≤ n
  gen : 1 ≤ s.gen ∧ s.gen ≤ 1152921500311879680
  epoch : 1 ≤ s.epoch ∧ s.epoch ≤ 1152921500311879680
  stamp : 1 ≤ s.stamp ∧ s.stamp ≤ 1152921500311879680
  version : 0 ≤ s.version ∧ s.version ≤ 1152921500311879680
  at_ : s.at_ = (s.stamp - 1) % s.log
  root : (s.root = 0 ∧ s.count = 0) ∨ (2 + s.log ≤ s.root ∧ s.root ≤ n - 1 ∧ 1 ≤ s.count ∧ s.count ≤ 1152921500311879680)
instance (s : Sp) (n : Int) : Decidable (Vld s n) := decidable_of_iff (s.blocks = n ∧ 64 ≤ n ∧ n ≤ 4096 ∧ (8 ≤ s.log ∧ s.log ≤ 512) ∧ 2 + s.log + 40 ≤ n ∧ (1 ≤ s.gen ∧ s.gen ≤ 1152921500311879680) ∧ (1 ≤ s.epoch ∧ s.epoch ≤ 1152921500311879680) ∧ (1 ≤ s.stamp ∧ s.stamp ≤ 1152921500311879680) ∧ (0 ≤ s.version ∧ s.version ≤ 1152921500311879680) ∧ s.at_ = (s.stamp - 1) % s.log ∧ ((s.root = 0 ∧ s.count = 0) ∨ (2 + s.log ≤ s.root ∧ s.root ≤ n - 1 ∧ 1 ≤ s.count ∧ s.count ≤ 1152921500311879680)))
  ⟨fun ⟨a, b, c, d, e, f, g, h, i, j, k⟩ => ⟨a, b, c, d, e, f, g, h, i, j, k⟩, fun ⟨a, b, c, d, e, f, g, h, i, j, k⟩ => ⟨a, b, c, d, e, f, g, h, i, j, k⟩⟩
def flds (s : Sp) : List (Nat × Nat × Int) := [(4, 4, 1), (8, 8, s.gen), (16, 8, s.epoch), (24, 4, s.blocks), (28, 4, s.log), (32, 8, s.stamp), (40, 4, s.at_), (44, 4, s.root), (48, 8, s.count), (56, 8, s.version), (504, 8, s.gen)]
def laidF (M : List UInt8) (l : List (Nat × Nat × Int)) : List UInt8 := l.foldl (fun M f => splice M f.1 (leB f.2.1 f.2.2)) M
def magB : List UInt8 := [66, 83, 65, 82]
def magL : List UInt8 := splice (List.replicate 512 0) 0 magB
def headL (s : Sp) : List UInt8 := laidF magL (flds s)
def sumS (b : List UInt8) : BitVec 32 := crc (crc 0#32 (b.take 500)) (b.drop 504)
def encL (s : Sp) : List UInt8 := splice (headL s) 500 (leB 4 ((sumS (headL s)).toNat : Nat))
def decS (L : List UInt8) : Sp := ⟨getI (seg L 8 8), getI (seg L 16 8), getI (seg L 24 4), getI (seg L 28 4), getI (seg L 32 8), getI (seg L 40 4), getI (seg L 44 4), getI (seg L 48 8), getI (seg L 56 8)⟩
def decG (L : List UInt8) : Sp × Int := if L.length ≠ 512 then (zSp, 61) else if Vld (decS L) (decS L).blocks ∧ encL (decS L) = L then (decS L, 0) else (zSp, 2)
theorem laidF_len : ∀ (l : List (Nat × Nat × Int)) (M : List UInt8), (∀ f ∈ l, f.1 + f.2.1 ≤ M.length) → (laidF M l).length = M.length
  | [], M, _ => rfl
  | f :: r, M, h => by
    have h1 := h f (by simp)
    have e : (splice M f.1 (leB f.2.1 f.2.2)).length = M.length := spl_len _ _ _ (by rw [leB_len]; exact h1)
    have ih := laidF_len r (splice M f.1 (leB f.2.1 f.2.2)) (fun g hg => by rw [e]; exact h g (by simp [hg]))
    exact ih.trans e
theorem magL_len : magL.length = 512 := by unfold magL; rw [spl_len _ _ _ (by rw [List.length_replicate]; show 0 + 4 ≤ 512; omega), List.length_replicate]
theorem flds_in (s : Sp) : ∀ f ∈ flds s, f.1 + f.2.1 ≤ 512 := by
  intro f hf
  simp only [flds, List.mem_cons, List.not_mem_nil, or_false] at hf
  rcases hf with rfl | rfl | rfl | rfl | rfl | rfl | rfl | rfl | rfl | rfl | rfl <;> (dsimp only; omega)
theorem headL_len (s : Sp) : (headL s).length = 512 := by
  unfold headL
  rw [laidF_len _ _ (fun f hf => by rw [magL_len]; exact flds_in s f hf), magL_len]
theorem encL_len (s : Sp) : (encL s).length = 512 := by
  unfold encL
  rw [spl_len _ _ _ (by rw [headL_len, leB_len]; omega), headL_len]
/-- a piece that no field of the list touches -/
theorem laidF_other (at_ n : Nat) : ∀ (l : List (Nat × Nat × Int)) (M : List UInt8), M.length = 512 → (∀ f ∈ l, f.1 + f.2.1 ≤ 512 ∧ (at_ + n ≤ f.1 ∨ f.1 + f.2.1 ≤ at_)) → seg (laidF M l) at_ n = seg M at_ n
  | [], M, _, _ => rfl
  | f :: r, M, hM, h => by
    have h1 := h f (by simp)
    have hl : f.1 + (leB f.2.1 f.2.2).length ≤ M.length := by rw [leB_len, hM]; exact h1.1
    have e : (splice M f.1 (leB f.2.1 f.2.2)).length = 512 := (spl_len _ _ _ hl).trans hM
    have ih := laidF_other at_ n r (splice M f.1 (leB f.2.1 f.2.2)) e (fun g hg => h g (by simp [hg]))
    show seg (laidF (splice M f.1 (leB f.2.1 f.2.2)) r) at_ n = _
    rw [ih]
    exact seg_other _ _ _ _ _ hl (by rw [leB_len]; exact h1.2)
theorem laidF_cons (M : List UInt8) (f : Nat × Nat × Int) (r : List (Nat × Nat × Int)) : laidF M (f :: r) = laidF (splice M f.1 (leB f.2.1 f.2.2)) r := rfl
theorem laidF_append (M : List UInt8) (l r : List (Nat × Nat × Int)) : laidF M (l ++ r) = laidF (laidF M l) r := List.foldl_append ..
/-- the field that was laid, none behind it touching it -/
theorem laidF_at (at_ n : Nat) (v : Int) (l r : List (Nat × Nat × Int)) (M : List UInt8) (hM : M.length = 512) (hl : ∀ f ∈ l, f.1 + f.2.1 ≤ 512) (h0 : at_ + n ≤ 512) (hr : ∀ f ∈ r, f.1 + f.2.1 ≤ 512 ∧ (at_ + n ≤ f.1 ∨ f.1 + f.2.1 ≤ at_)) : seg (laidF M (l ++ (at_, n, v) :: r)) at_ n = leB n v := by
  have e1 : (laidF M l).length = 512 := (laidF_len l M (fun f hf => by rw [hM]; exact hl f hf)).trans hM
  have h2 : at_ + (leB n v).length ≤ (laidF M l).length := by rw [leB_len, e1]; exact h0
  have h3 := seg_same (laidF M l) (leB n v) at_ h2
  rw [leB_len] at h3
  rw [laidF_append, laidF_cons, laidF_other at_ n r _ ((spl_len _ _ _ h2).trans e1) hr]
  exact h3
theorem encL_seg (s : Sp) (at_ n : Nat) (h : at_ + n ≤ 500 ∨ 504 ≤ at_) : seg (encL s) at_ n = seg (headL s) at_ n :=
  seg_other _ _ _ _ _ (by rw [headL_len, leB_len]; omega) (by rw [leB_len]; omega)
theorem flds_split (s : Sp) (i : Nat) (h : i < 11) : flds s = (flds s).take i ++ (flds s).getD i (0, 0, 0) :: (flds s).drop (i + 1) := by
  rw [List.getD_eq_getElem?_getD, List.getElem?_eq_getElem (by simpa [flds] using h)]
  simp
/-- each field but the sum is read back -/
theorem enc_fld (s : Sp) (i : Nat) (at_ n : Nat) (v : Int) (hi : i < 11) (hf : (flds s).getD i (0, 0, 0) = (at_, n, v)) (h0 : at_ + n ≤ 500 ∨ (504 ≤ at_ ∧ at_ + n ≤ 512)) (hr : ∀ f ∈ (flds s).drop (i + 1), at_ + n ≤ f.1 ∨ f.1 + f.2.1 ≤ at_) : seg (encL s) at_ n = leB n v := by
  rw [encL_seg s at_ n (by omega), headL, flds_split s i hi, hf]
  exact laidF_at at_ n v _ _ _ magL_len (fun f h => flds_in s f (List.mem_of_mem_take h)) (by omega) (fun f h => ⟨flds_in s f (List.mem_of_mem_drop h), hr f h⟩)
theorem dec_enc (s : Sp) (n : Int) (h : Vld s n) : decS (encL s) = s := by
  have hb := h.blocks
  have h1 := h.lo
  have h2 := h.hi
  have h3 := h.log
  have h4 := h.room
  have h5 := h.gen
  have h6 := h.epoch
  have h7 := h.stamp
  have h8 := h.version
  have h9 : 0 ≤ s.at_ ∧ s.at_ < 512 := by
    rw [h.at_]
    have e1 := Int.emod_nonneg (s.stamp - 1) (show s.log ≠ 0 by omega)
    have e2 := Int.emod_lt_of_pos (s.stamp - 1) (show 0 < s.log by omega)
    omega
  have h10 := h.root
  have f1 := enc_fld s 1 8 8 s.gen (by decide) rfl (by decide) (by intro f hf; simp [flds] at hf; rcases hf with rfl | rfl | rfl | rfl | rfl | rfl | rfl | rfl | rfl <;> (dsimp only; omega))
  have f2 := enc_fld s 2 16 8 s.epoch (by decide) rfl (by decide) (by intro f hf; simp [flds] at hf; rcases hf with rfl | rfl | rfl | rfl | rfl | rfl | rfl | rfl <;> (dsimp only; omega))
  have f3 := enc_fld s 3 24 4 s.blocks (by decide) rfl (by decide) (by intro f hf; simp [flds] at hf; rcases hf with rfl | rfl | rfl | rfl | rfl | rfl | rfl <;> (dsimp only; omega))
  have f4 := enc_fld s 4 28 4 s.log (by decide) rfl (by decide) (by intro f hf; simp [flds] at hf; rcases hf with rfl | rfl | rfl | rfl | rfl | rfl <;> (dsimp only; omega))
  have f5 := enc_fld s 5 32 8 s.stamp (by decide) rfl (by decide) (by intro f hf; simp [flds] at hf; rcases hf with rfl | rfl | rfl | rfl | rfl <;> (dsimp only; omega))
  have f6 := enc_fld s 6 40 4 s.at_ (by decide) rfl (by decide) (by intro f hf; simp [flds] at hf; rcases hf with rfl | rfl | rfl | rfl <;> (dsimp only; omega))
  have f7 := enc_fld s 7 44 4 s.root (by decide) rfl (by decide) (by intro f hf; simp [flds] at hf; rcases hf with rfl | rfl | rfl <;> (dsimp only; omega))
  have f8 := enc_fld s 8 48 8 s.count (by decide) rfl (by decide) (by intro f hf; simp [flds] at hf; rcases hf with rfl | rfl <;> (dsimp only; omega))
  have f9 := enc_fld s 9 56 8 s.version (by decide) rfl (by decide) (by intro f hf; simp [flds] at hf; rcases hf with rfl; dsimp only; omega)
  have p8 : ((256 ^ 8 : Nat) : Int) = 18446744073709551616 := by decide
  have p4 : ((256 ^ 4 : Nat) : Int) = 4294967296 := by decide
  unfold decS
  rw [f1, f2, f3, f4, f5, f6, f7, f8, f9]
  rw [getI_leB 8 s.gen (by omega) (by omega) (by omega), getI_leB 8 s.epoch (by omega) (by omega) (by omega), getI_leB 4 s.blocks (by omega) (by omega) (by omega), getI_leB 4 s.log (by omega) (by omega) (by omega), getI_leB 8 s.stamp (by omega) (by omega) (by omega), getI_leB 4 s.at_ (by omega) (by omega) (by omega), getI_leB 4 s.root (by omega) (by omega) (by omega), getI_leB 8 s.count (by omega) (by omega) (by omega), getI_leB 8 s.version (by omega) (by omega) (by omega)]
theorem decG_enc (s : Sp) (h : Vld s s.blocks) : decG (encL s) = (s, 0) := by
  have h1 := dec_enc s _ h
  unfold decG
  rw [if_neg (by rw [encL_len]; simp), if_pos ⟨by rw [h1]; exact h, by rw [h1]⟩, h1]
theorem decG_ok {L : List UInt8} (h : (decG L).2 = 0) : L.length = 512 ∧ Vld (decG L).1 (decG L).1.blocks ∧ encL (decG L).1 = L := by
  unfold decG at h ⊢
  split at h
  · simp at h
  · rename_i h1
    split at h
    · rename_i h2
      rw [if_neg h1, if_pos h2]
      exact ⟨by simpa using h1, h2.1, h2.2⟩
    · simp at h
end Go.Proofs.Ytggoaelbglhehaa
/- Words on memory for all walks: a slice of bytes that is read. -/
set_option linter.unusedVariables false
set_option linter.unusedSimpArgs false
namespace Go.Proofs.Ytggoaelbglhehaa
open Go.RowKit
theorem iv {k : IntKind} {a b : Int} (h : a = b) : Value.int k a = .int k b := by rw [h]
theorem ret_u32 {a b : Int} (h : a = b) : Ending.returned (.int .u32 a) = .returned (.int .u32 b) := by rw [h]
theorem cell_ext {w w' : World} (hb : Below w.heap.size w w') {p : Addr} {v : Value} (h : w.cell? p = some v) : w'.cell? p = some v := (hb.cell (World.block_lt_of_cell? w _ h)).trans h
structure Rd (w : World) (A : Option Addr) (n c : Nat) (l : List UInt8) : Prop where
  len : l.length = n
  cap : n ≤ c
  max : n ≤ 140737490452480
  at_ : 0 < n → ∃ b o, A = some ⟨b, o, none⟩ ∧ ∀ j, j < n → w.cell? ⟨b, o + j, none⟩ = some (.int .u8 ((l.getD j 0).toNat : Int))
theorem Rd.nil (w : World) : Rd w none 0 0 [] := ⟨rfl, Nat.le_refl _, by omega, fun hp => absurd hp (by omega)⟩
theorem Rd.ext {w w' : World} {A : Option Addr} {n c : Nat} {l : List UInt8} (h : Rd w A n c l) (hb : Below w.heap.size w w') : Rd w' A n c l :=
  ⟨h.len, h.cap, h.max, fun hn => by
    obtain ⟨b, o, e, hc⟩ := h.at_ hn
    exact ⟨b, o, e, fun j hj => (hb.cell (World.block_lt_of_cell? w _ (hc j hj))).trans (hc j hj)⟩⟩
theorem Rd.drew {w : World} {A : Option Addr} {n c : Nat} {l : List UInt8} (h : Rd w A n c l) (k : Nat) : Rd (w.drewN k) A n c l :=
  ⟨h.len, h.cap, h.max, h.at_⟩
theorem Rd.take {w : World} {A : Option Addr} {n c : Nat} {l : List UInt8} (h : Rd w A n c l) (m : Nat) (hm : m ≤ n) : Rd w A m c (l.take m) := by
  have := h.len
  refine ⟨by simp; omega, Nat.le_trans hm h.cap, Nat.le_trans hm h.max, fun hp => ?_⟩
  obtain ⟨b, o, e, hc⟩ := h.at_ (by omega)
  refine ⟨b, o, e, fun j hj => ?_⟩
  rw [hc j (by omega)]
  simp [List.getD_eq_getElem?_getD, hj]
theorem u8_lt (c : UInt8) : c.toNat < 256 := c.toNat_lt
theorem take_snoc {α : Type} (l : List α) (k : Nat) (d : α) (h : k < l.length) : l.take (k + 1) = l.take k ++ [l.getD k d] := by
  rw [List.take_succ_eq_append_getElem h, List.getD_eq_getElem?_getD, List.getElem?_eq_getElem h]; rfl

theorem below_drewN {B : Nat} {w W : World} (h : Below B w W) (n : Nat) : Below B w (W.drewN n) := ⟨h.os, h.tape, h.output, h.size, h.block⟩
/-! ### a run of cells written -/
theorem below_setCells {B b : Nat} (hb : B ≤ b) {a : World} : ∀ (vs : List Value) (o : Nat) {w : World}, Below B a w → Below B a (w.setCells b o vs)
  | [], _, _, h => h
  | v :: r, o, w, h => below_setCells hb r (o + 1) (h.setCell (p := ⟨b, o, none⟩) hb v)
def splc (cs : Array Value) (o : Nat) : List Value → Array Value
  | [] => cs
  | v :: r => splc (cs.setIfInBounds o v) (o + 1) r
theorem splc_size : ∀ (vs : List Value) (cs : Array Value) (o : Nat), (splc cs o vs).size = cs.size
  | [], _, _ => rfl
  | v :: r, cs, o => by rw [splc, splc_size r]; simp
theorem splc_get : ∀ (vs : List Value) (cs : Array Value) (o j : Nat), (splc cs o vs)[j]? = if o ≤ j ∧ j < o + vs.length ∧ j < cs.size then vs[j - o]? else cs[j]?
  | [], cs, o, j => by
    rw [splc, if_neg]
    intro h; simp at h; omega
  | v :: r, cs, o, j => by
    rw [splc, splc_get r, Array.size_setIfInBounds]
    by_cases h1 : o = j
    · subst h1
      rw [if_neg (by omega), Array.getElem?_setIfInBounds, if_pos rfl]
      by_cases h2 : o < cs.size
      · rw [if_pos h2, if_pos (by simp [h2])]; simp
      · rw [if_neg h2, if_neg (by omega), Array.getElem?_eq_none (by omega)]
    · rw [Array.getElem?_setIfInBounds, if_neg h1]
      by_cases h2 : o + 1 ≤ j ∧ j < o + 1 + r.length ∧ j < cs.size
      · rw [if_pos h2, if_pos (by simp only [List.length_cons]; omega)]
        rw [show j - o = (j - (o + 1)) + 1 by omega, List.getElem?_cons_succ]
      · rw [if_neg h2, if_neg (by simp only [List.length_cons]; omega)]
theorem splc_all (vs : List Value) (cs : Array Value) (h : vs.length = cs.size) : splc cs 0 vs = vs.toArray := by
  apply Array.ext_getElem?
  intro j
  rw [splc_get]
  by_cases hj : j < cs.size
  · rw [if_pos (by omega)]; simp
  · rw [if_neg (by omega), Array.getElem?_eq_none (by omega), Array.getElem?_eq_none (by simp; omega)]
theorem heap_setCells_at (b : Nat) (t : TypeId) : ∀ (vs : List Value) (o : Nat) (w : World) (cs : Array Value), w.heap[b]? = some (.cells cs t (0, 0)) →
    (w.setCells b o vs).heap[b]? = some (.cells (splc cs o vs) t (0, 0))
  | [], _, _, _, h => h
  | v :: r, o, w, cs, h => heap_setCells_at b t r (o + 1) _ _ (heap_setCell_same w b o cs t v h)
theorem heap_setCells_ne (b k : Nat) (hk : k ≠ b) : ∀ (vs : List Value) (o : Nat) (w : World), (w.setCells b o vs).heap[k]? = w.heap[k]?
  | [], _, _ => rfl
  | v :: r, o, w => by
    rw [World.setCells, heap_setCells_ne b k hk r, heap_setCell_other _ _ _ _ (by simpa using hk)]
theorem size_setCells (b : Nat) : ∀ (vs : List Value) (o : Nat) (w : World), (w.setCells b o vs).heap.size = w.heap.size
  | [], _, _ => rfl
  | v :: r, o, w => by
    rw [World.setCells, size_setCells b r]; simp
theorem there_of_row {w : World} {b : Nat} {cs : Array Value} {t : TypeId} (h : w.heap[b]? = some (.cells cs t (0, 0))) : w.there b 0 cs.size := by
  intro j hj
  refine ⟨?_, frozen_of_row w _ _ _ _ h⟩
  rw [cell_of_row w _ _ _ _ _ h, Nat.zero_add, Array.getElem?_eq_getElem hj]; rfl
end Go.Proofs.Ytggoaelbglhehaa
