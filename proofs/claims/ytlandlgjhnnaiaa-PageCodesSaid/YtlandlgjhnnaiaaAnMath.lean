/- Numbers of a fixed length in bytes, the lowest first; pieces of a block; a superblock's bytes. No Go in this text. -/
import Derived.Test.YtlandlgjhnnaiaaSumMath
import Derived.Laws.CopyOwn
set_option linter.unusedVariables false
set_option linter.unusedSimpArgs false
namespace Go.Proofs.Ytlandlgjhnnaiaa
open Go.RowKit SumMath
def leB : Nat → Int → List UInt8
  | 0, _ => []
  | n + 1, v => UInt8.ofNat (v % 256).toNat :: leB n (v / 256)
def leN : List UInt8 → Nat
  | [] => 0
  | x :: r => x.toNat + 256 * leN r
def getI (l : List UInt8) : Int := IntKind.i64.wrap (leN l)
theorem leB_len : ∀ (n : Nat) (v : Int), (leB n v).length = n
  | 0, _ => rfl
  | n + 1, v => by rw [leB, List.length_cons, leB_len n]
theorem leN_lt : ∀ l : List UInt8, leN l < 256 ^ l.length
  | [] => by simp [leN]
  | x :: r => by
    have h1 := leN_lt r
    have h2 := x.toNat_lt
    rw [leN, List.length_cons, Nat.pow_succ]
    omega
theorem emod_256 (v k : Int) (hk : 0 < k) : v % 256 + ((256 : Nat) : Int) * (v / 256 % k) = v % (k * ((256 : Nat) : Int)) := by
  have e1 := Int.emod_add_mul_ediv v 256
  have e2 := Int.emod_add_mul_ediv (v / 256) k
  have l1 := Int.emod_nonneg (v / 256) (show k ≠ 0 by omega)
  have l2 := Int.emod_lt_of_pos (v / 256) hk
  generalize hr : v / 256 % k = r at *
  generalize hq : v / 256 / k = q at *
  generalize hm : v % 256 = m at *
  have hm0 : 0 ≤ m ∧ m < 256 := by omega
  have e3 : v = (m + 256 * r) + (k * 256) * q := by
    rw [← e1, ← e2, Int.mul_add, Int.mul_comm k 256, Int.mul_assoc]; omega
  have e4 : k * ((256 : Nat) : Int) = k * 256 := rfl
  rw [e4]
  conv => rhs; rw [e3]
  rw [Int.add_mul_emod_self_left, Int.emod_eq_of_lt (by omega) (by omega)]
  rfl
theorem leN_leB : ∀ (n : Nat) (v : Int), (leN (leB n v) : Int) = v % ((256 ^ n : Nat) : Int)
  | 0, v => by simp [leB, leN]
  | n + 1, v => by
    have ih := leN_leB n (v / 256)
    have h1 : ((UInt8.ofNat (v % 256).toNat).toNat : Int) = v % 256 := by rw [UInt8.toNat_ofNat']; omega
    rw [leB, leN, Nat.pow_succ, Int.natCast_add, h1, Int.natCast_mul, ih]
    have h2 : (0 : Int) < ((256 ^ n : Nat) : Int) := by
      have : 0 < 256 ^ n := Nat.pow_pos (by decide)
      omega
    rw [Int.natCast_mul]
    generalize ((256 ^ n : Nat) : Int) = k at h2 ⊢
    exact emod_256 v k h2
theorem leB_leN : ∀ l : List UInt8, leB l.length (leN l : Nat) = l
  | [] => rfl
  | x :: r => by
    have ih := leB_leN r
    have h2 := x.toNat_lt
    rw [List.length_cons, leB, leN]
    have e1 : (((x.toNat + 256 * leN r : Nat) : Int) % 256).toNat = x.toNat := by omega
    have e2 : ((x.toNat + 256 * leN r : Nat) : Int) / 256 = (leN r : Nat) := by omega
    rw [e1, e2, ih, UInt8.ofNat_toNat]
theorem leB_get : ∀ (n : Nat) (v : Int) (i : Nat), i < n → (leB n v).getD i 0 = UInt8.ofNat ((v / ((256 ^ i : Nat) : Int)) % 256).toNat
  | n + 1, v, 0, _ => by simp [leB]
  | n + 1, v, i + 1, h => by
    have ih := leB_get n (v / 256) i (by omega)
    rw [leB, List.getD_cons_succ, ih, Nat.pow_succ]
    congr 3
    rw [show ((256 ^ i * 256 : Nat) : Int) = 256 * ((256 ^ i : Nat) : Int) by rw [Int.natCast_mul, Int.mul_comm]; rfl, Int.ediv_ediv_of_nonneg (by omega)]
theorem wrap_i64_nat (n : Nat) (h : n < 9223372036854775808) : IntKind.i64.wrap (n : Int) = n := by
  simp [IntKind.wrap, IntKind.bits, IntKind.signed]; omega
theorem getI_leB (n : Nat) (v : Int) (h0 : 0 ≤ v) (h1 : v < ((256 ^ n : Nat) : Int)) (h2 : v < 9223372036854775808) : getI (leB n v) = v := by
  have h := leN_leB n v
  rw [Int.emod_eq_of_lt h0 h1] at h
  unfold getI
  rw [h]
  obtain ⟨m, rfl⟩ := Int.eq_ofNat_of_zero_le h0
  exact wrap_i64_nat m (by omega)
/-! ### pieces -/
def seg {α : Type} (l : List α) (at_ n : Nat) : List α := (l.drop at_).take n
theorem seg_len {α : Type} (l : List α) (at_ n : Nat) (h : at_ + n ≤ l.length) : (seg l at_ n).length = n := by
  unfold seg; rw [List.length_take, List.length_drop]; omega
theorem seg_get {α : Type} (l : List α) (at_ n i : Nat) : (seg l at_ n)[i]? = if i < n then l[at_ + i]? else none := by
  unfold seg
  rw [List.getElem?_take]
  split
  · rw [List.getElem?_drop]
  · rfl
theorem spl_get {α : Type} (M X : List α) (off i : Nat) (h : off + X.length ≤ M.length) : (splice M off X)[i]? = if off ≤ i ∧ i < off + X.length then X[i - off]? else M[i]? := by
  have hl : (M.take off).length = off := by rw [List.length_take]; omega
  unfold splice
  by_cases h1 : i < off
  · rw [List.getElem?_append_left (by omega), if_neg (by omega), List.getElem?_take, if_pos h1]
  · rw [List.getElem?_append_right (by omega), hl]
    by_cases h2 : i < off + X.length
    · rw [List.getElem?_append_left (by omega), if_pos (by omega)]
    · rw [List.getElem?_append_right (by omega), if_neg (by omega), List.getElem?_drop]
      congr 1; omega
theorem spl_len {α : Type} (M X : List α) (off : Nat) (h : off + X.length ≤ M.length) : (splice M off X).length = M.length := length_splice M off X h
theorem seg_same {α : Type} (M X : List α) (off : Nat) (h : off + X.length ≤ M.length) : seg (splice M off X) off X.length = X := by
  apply List.ext_getElem?
  intro i
  rw [seg_get]
  by_cases hi : i < X.length
  · rw [if_pos hi, spl_get _ _ _ _ h, if_pos (by omega)]; congr 1; omega
  · rw [if_neg hi, List.getElem?_eq_none (by omega)]
theorem seg_other {α : Type} (M X : List α) (off at_ n : Nat) (h : off + X.length ≤ M.length) (hd : at_ + n ≤ off ∨ off + X.length ≤ at_) : seg (splice M off X) at_ n = seg M at_ n := by
  apply List.ext_getElem?
  intro i
  rw [seg_get, seg_get]
  by_cases hi : i < n
  · rw [if_pos hi, if_pos hi, spl_get _ _ _ _ h, if_neg (by omega)]
  · rw [if_neg hi, if_neg hi]
/-- one byte more of a piece is laid -/
theorem spl_step {α : Type} (M X : List α) (off j : Nat) (d : α) (h : off + X.length ≤ M.length) (hj : j < X.length) : (splice M off (X.take j)).set (off + j) (X.getD j d) = splice M off (X.take (j + 1)) := by
  have h1 : (X.take j).length = j := by rw [List.length_take]; omega
  have h2 : (X.take (j + 1)).length = j + 1 := by rw [List.length_take]; omega
  apply List.ext_getElem?
  intro i
  rw [List.getElem?_set, spl_len _ _ _ (by omega), spl_get _ _ _ _ (by omega), spl_get _ _ _ _ (by omega), h1, h2]
  by_cases e : off + j = i
  · subst e
    rw [if_pos rfl, if_pos (by omega), if_pos (by omega), List.getElem?_take, if_pos (by omega), show off + j - off = j by omega, List.getElem?_eq_getElem hj, List.getD_eq_getElem?_getD, List.getElem?_eq_getElem hj]; rfl
  · rw [if_neg e]
    by_cases h3 : off ≤ i ∧ i < off + j
    · rw [if_pos h3, if_pos (by omega), List.getElem?_take, List.getElem?_take, if_pos (by omega), if_pos (by omega)]
    · rw [if_neg h3, if_neg (by omega)]
theorem spl_nil {α : Type} (M : List α) (off : Nat) : splice M off ([] : List α) = M := by simp [splice]
/-! ### a superblock -/
structure Sp where
  gen : Int
  epoch : Int
  blocks : Int
  log : Int
  stamp : Int
  at_ : Int
  root : Int
  count : Int
  version : Int
def zSp : Sp := ⟨0, 0, 0, 0, 0, 0, 0, 0, 0⟩
def topS : Int := 1152921500311879680
structure Vld (s : Sp) (n : Int) : Prop where
  blocks : s.blocks = n
  lo : 64 ≤ n
  hi : n ≤ 4096
  log : 8 ≤ s.log ∧ s.log ≤ 512
  room : 2 + s.log + 40 ≤ n
  gen : 1 ≤ s.gen ∧ s.gen ≤ 1152921500311879680
  epoch : 1 ≤ s.epoch ∧ s.epoch ≤ 1152921500311879680
  stamp : 1 ≤ s.stamp ∧ s.stamp ≤ 1152921500311879680
  version : 0 ≤ s.version ∧ s.version ≤ 1152921500311879680
  at_ : s.at_ = (s.stamp - 1) % s.log
  root : (s.root = 0 ∧ s.count = 0) ∨ (2 + s.log ≤ s.root ∧ s.root ≤ n - 1 ∧ 1 ≤ s.count ∧ s.count ≤ 1152921500311879680)
instance (s : Sp) (n : Int) : Decidable (Vld s n) := decidable_of_iff (s.blocks = n ∧ 64 ≤ n ∧ n ≤ 4096 ∧ (8 ≤ s.log ∧ s.log ≤ 512) ∧ 2 + s.log + 40 ≤ n ∧ (1 ≤ s.gen ∧ s.gen ≤ 1152921500311879680) ∧ (1 ≤ s.epoch ∧ s.epoch ≤ 1152921500311879680) ∧ (1 ≤ s.stamp ∧ s.stamp ≤ 1152921500311879680) ∧ (0 ≤ s.version ∧ s.version ≤ 1152921500311879680) ∧ s.at_ = (s.stamp - 1) % s.log ∧ ((s.root = 0 ∧ s.count = 0) ∨ (2 + s.log ≤ s.root ∧ s.root ≤ n - 1 ∧ 1 ≤ s.count ∧ s.count ≤ 1152921500311879680)))
  ⟨fun ⟨a, b, c, d, e, f, g, h, i, j, k⟩ => ⟨a, b, c, d, e, f, g, h, i, j, k⟩, fun ⟨a, b, c, d, e, f, g, h, i, j, k⟩ => ⟨a, b, c, d, e, f, g, h, i, j, k⟩⟩
def flds (s : Sp) : List (Nat × Nat × Int) := [(4, 4, 1), (8, 8, s.gen), (16, 8, s.epoch), (24, 4, s.blocks), (28, 4, s.log), (32, 8, s.stamp), (40, 4, s.at_), (44, 4, s.root), (48, 8, s.count), (56, 8, s.version), (504, 8, s.gen)]
def laidF (M : List UInt8) (l : List (Nat × Nat × Int)) : List UInt8 := l.foldl (fun M f => splice M f.1 (leB f.2.1 f.2.2)) M
def magB : List UInt8 := [66, 83, 65, 82]
def magL : List UInt8 := splice (List.replicate 512 0) 0 magB
def headL (s : Sp) : List UInt8 := laidF magL (flds s)
def sumS (b : List UInt8) : BitVec 32 := crc (crc 0#32 (b.take 500)) (b.drop 504)
def encL (s : Sp) : List UInt8 := splice (headL s) 500 (leB 4 ((sumS (headL s)).toNat : Nat))
def decS (L : List UInt8) : Sp := ⟨getI (seg L 8 8), getI (seg L 16 8), getI (seg L 24 4), getI (seg L 28 4), getI (seg L 32 8), getI (seg L 40 4), getI (seg L 44 4), getI (seg L 48 8), getI (seg L 56 8)⟩
def decG (L : List UInt8) : Sp × Int := if L.length ≠ 512 then (zSp, 61) else if Vld (decS L) (decS L).blocks ∧ encL (decS L) = L then (decS L, 0) else (zSp, 2)
theorem laidF_len : ∀ (l : List (Nat × Nat × Int)) (M : List UInt8), (∀ f ∈ l, f.1 + f.2.1 ≤ M.length) → (laidF M l).length = M.length
  | [], M, _ => rfl
  | f :: r, M, h => by
    have h1 := h f (by simp)
    have e : (splice M f.1 (leB f.2.1 f.2.2)).length = M.length := spl_len _ _ _ (by rw [leB_len]; exact h1)
    have ih := laidF_len r (splice M f.1 (leB f.2.1 f.2.2)) (fun g hg => by rw [e]; exact h g (by simp [hg]))
    exact ih.trans e
theorem magL_len : magL.length = 512 := by unfold magL; rw [spl_len _ _ _ (by rw [List.length_replicate]; show 0 + 4 ≤ 512; omega), List.length_replicate]
theorem flds_in (s : Sp) : ∀ f ∈ flds s, f.1 + f.2.1 ≤ 512 := by
  intro f hf
  simp only [flds, List.mem_cons, List.not_mem_nil, or_false] at hf
  rcases hf with rfl | rfl | rfl | rfl | rfl | rfl | rfl | rfl | rfl | rfl | rfl <;> (dsimp only; omega)
theorem headL_len (s : Sp) : (headL s).length = 512 := by
  unfold headL
  rw [laidF_len _ _ (fun f hf => by rw [magL_len]; exact flds_in s f hf), magL_len]
theorem encL_len (s : Sp) : (encL s).length = 512 := by
  unfold encL
  rw [spl_len _ _ _ (by rw [headL_len, leB_len]; omega), headL_len]
/-- a piece that no field of the list touches -/
theorem laidF_other (at_ n : Nat) : ∀ (l : List (Nat × Nat × Int)) (M : List UInt8), M.length = 512 → (∀ f ∈ l, f.1 + f.2.1 ≤ 512 ∧ (at_ + n ≤ f.1 ∨ f.1 + f.2.1 ≤ at_)) → seg (laidF M l) at_ n = seg M at_ n
  | [], M, _, _ => rfl
  | f :: r, M, hM, h => by
    have h1 := h f (by simp)
    have hl : f.1 + (leB f.2.1 f.2.2).length ≤ M.length := by rw [leB_len, hM]; exact h1.1
    have e : (splice M f.1 (leB f.2.1 f.2.2)).length = 512 := (spl_len _ _ _ hl).trans hM
    have ih := laidF_other at_ n r (splice M f.1 (leB f.2.1 f.2.2)) e (fun g hg => h g (by simp [hg]))
    show seg (laidF (splice M f.1 (leB f.2.1 f.2.2)) r) at_ n = _
    rw [ih]
    exact seg_other _ _ _ _ _ hl (by rw [leB_len]; exact h1.2)
theorem laidF_cons (M : List UInt8) (f : Nat × Nat × Int) (r : List (Nat × Nat × Int)) : laidF M (f :: r) = laidF (splice M f.1 (leB f.2.1 f.2.2)) r := rfl
theorem laidF_append (M : List UInt8) (l r : List (Nat × Nat × Int)) : laidF M (l ++ r) = laidF (laidF M l) r := List.foldl_append ..
/-- the field that was laid, none behind it touching it -/
theorem laidF_at (at_ n : Nat) (v : Int) (l r : List (Nat × Nat × Int)) (M : List UInt8) (hM : M.length = 512) (hl : ∀ f ∈ l, f.1 + f.2.1 ≤ 512) (h0 : at_ + n ≤ 512) (hr : ∀ f ∈ r, f.1 + f.2.1 ≤ 512 ∧ (at_ + n ≤ f.1 ∨ f.1 + f.2.1 ≤ at_)) : seg (laidF M (l ++ (at_, n, v) :: r)) at_ n = leB n v := by
  have e1 : (laidF M l).length = 512 := (laidF_len l M (fun f hf => by rw [hM]; exact hl f hf)).trans hM
  have h2 : at_ + (leB n v).length ≤ (laidF M l).length := by rw [leB_len, e1]; exact h0
  have h3 := seg_same (laidF M l) (leB n v) at_ h2
  rw [leB_len] at h3
  rw [laidF_append, laidF_cons, laidF_other at_ n r _ ((spl_len _ _ _ h2).trans e1) hr]
  exact h3
theorem encL_seg (s : Sp) (at_ n : Nat) (h : at_ + n ≤ 500 ∨ 504 ≤ at_) : seg (encL s) at_ n = seg (headL s) at_ n :=
  seg_other _ _ _ _ _ (by rw [headL_len, leB_len]; omega) (by rw [leB_len]; omega)
theorem flds_split (s : Sp) (i : Nat) (h : i < 11) : flds s = (flds s).take i ++ (flds s).getD i (0, 0, 0) :: (flds s).drop (i + 1) := by
  rw [List.getD_eq_getElem?_getD, List.getElem?_eq_getElem (by simpa [flds] using h)]
  simp
/-- each field but the sum is read back -/
theorem enc_fld (s : Sp) (i : Nat) (at_ n : Nat) (v : Int) (hi : i < 11) (hf : (flds s).getD i (0, 0, 0) = (at_, n, v)) (h0 : at_ + n ≤ 500 ∨ (504 ≤ at_ ∧ at_ + n ≤ 512)) (hr : ∀ f ∈ (flds s).drop (i + 1), at_ + n ≤ f.1 ∨ f.1 + f.2.1 ≤ at_) : seg (encL s) at_ n = leB n v := by
  rw [encL_seg s at_ n (by omega), headL, flds_split s i hi, hf]
  exact laidF_at at_ n v _ _ _ magL_len (fun f h => flds_in s f (List.mem_of_mem_take h)) (by omega) (fun f h => ⟨flds_in s f (List.mem_of_mem_drop h), hr f h⟩)
theorem dec_enc (s : Sp) (n : Int) (h : Vld s n) : decS (encL s) = s := by
  have hb := h.blocks
  have h1 := h.lo
  have h2 := h.hi
  have h3 := h.log
  have h4 := h.room
  have h5 := h.gen
  have h6 := h.epoch
  have h7 := h.stamp
  have h8 := h.version
  have h9 : 0 ≤ s.at_ ∧ s.at_ < 512 := by
    rw [h.at_]
    have e1 := Int.emod_nonneg (s.stamp - 1) (show s.log ≠ 0 by omega)
    have e2 := Int.emod_lt_of_pos (s.stamp - 1) (show 0 < s.log by omega)
    omega
  have h10 := h.root
  have f1 := enc_fld s 1 8 8 s.gen (by decide) rfl (by decide) (by intro f hf; simp [flds] at hf; rcases hf with rfl | rfl | rfl | rfl | rfl | rfl | rfl | rfl | rfl <;> (dsimp only; omega))
  have f2 := enc_fld s 2 16 8 s.epoch (by decide) rfl (by decide) (by intro f hf; simp [flds] at hf; rcases hf with rfl | rfl | rfl | rfl | rfl | rfl | rfl | rfl <;> (dsimp only; omega))
  have f3 := enc_fld s 3 24 4 s.blocks (by decide) rfl (by decide) (by intro f hf; simp [flds] at hf; rcases hf with rfl | rfl | rfl | rfl | rfl | rfl | rfl <;> (dsimp only; omega))
  have f4 := enc_fld s 4 28 4 s.log (by decide) rfl (by decide) (by intro f hf; simp [flds] at hf; rcases hf with rfl | rfl | rfl | rfl | rfl | rfl <;> (dsimp only; omega))
  have f5 := enc_fld s 5 32 8 s.stamp (by decide) rfl (by decide) (by intro f hf; simp [flds] at hf; rcases hf with rfl | rfl | rfl | rfl | rfl <;> (dsimp only; omega))
  have f6 := enc_fld s 6 40 4 s.at_ (by decide) rfl (by decide) (by intro f hf; simp [flds] at hf; rcases hf with rfl | rfl | rfl | rfl <;> (dsimp only; omega))
  have f7 := enc_fld s 7 44 4 s.root (by decide) rfl (by decide) (by intro f hf; simp [flds] at hf; rcases hf with rfl | rfl | rfl <;> (dsimp only; omega))
  have f8 := enc_fld s 8 48 8 s.count (by decide) rfl (by decide) (by intro f hf; simp [flds] at hf; rcases hf with rfl | rfl <;> (dsimp only; omega))
  have f9 := enc_fld s 9 56 8 s.version (by decide) rfl (by decide) (by intro f hf; simp [flds] at hf; rcases hf with rfl; dsimp only; omega)
  have p8 : ((256 ^ 8 : Nat) : Int) = 18446744073709551616 := by decide
  have p4 : ((256 ^ 4 : Nat) : Int) = 4294967296 := by decide
  unfold decS
  rw [f1, f2, f3, f4, f5, f6, f7, f8, f9]
  rw [getI_leB 8 s.gen (by omega) (by omega) (by omega), getI_leB 8 s.epoch (by omega) (by omega) (by omega), getI_leB 4 s.blocks (by omega) (by omega) (by omega), getI_leB 4 s.log (by omega) (by omega) (by omega), getI_leB 8 s.stamp (by omega) (by omega) (by omega), getI_leB 4 s.at_ (by omega) (by omega) (by omega), getI_leB 4 s.root (by omega) (by omega) (by omega), getI_leB 8 s.count (by omega) (by omega) (by omega), getI_leB 8 s.version (by omega) (by omega) (by omega)]
theorem decG_enc (s : Sp) (h : Vld s s.blocks) : decG (encL s) = (s, 0) := by
  have h1 := dec_enc s _ h
  unfold decG
  rw [if_neg (by rw [encL_len]; simp), if_pos ⟨by rw [h1]; exact h, by rw [h1]⟩, h1]
theorem decG_ok {L : List UInt8} (h : (decG L).2 = 0) : L.length = 512 ∧ Vld (decG L).1 (decG L).1.blocks ∧ encL (decG L).1 = L := by
  unfold decG at h ⊢
  split at h
  · simp at h
  · rename_i h1
    split at h
    · rename_i h2
      rw [if_neg h1, if_pos h2]
      exact ⟨by simpa using h1, h2.1, h2.2⟩
    · simp at h
end Go.Proofs.Ytlandlgjhnnaiaa
