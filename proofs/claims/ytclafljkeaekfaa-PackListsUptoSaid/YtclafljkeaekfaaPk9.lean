/- The walk of right. -/
import Derived.Test.YtclafljkeaekfaaPk8
set_option linter.unusedVariables false
set_option linter.unusedSimpArgs false
set_option maxRecDepth 100000
namespace Go.Proofs.Ytclafljkeaekfaa
open Go.RowKit
def rk (kind : Int) : Nat := (kind.tmod 6).natAbs
def es : ByteArray := ⟨#[]⟩
def rgt (x : ValV) : ValV :=
  match rk x.kind with
  | 0 => ⟨0, x.u, 0, ⟨#[]⟩⟩
  | 1 => ⟨1, 0, x.i, ⟨#[]⟩⟩
  | 2 => ⟨2, 0, x.i % 2, ⟨#[]⟩⟩
  | 3 => ⟨3, x.u % 256, 0, ⟨#[]⟩⟩
  | 4 => ⟨4, 0, 0, x.s⟩
  | _ => ⟨5, 0, x.i % 8192 % 4097, ⟨#[]⟩⟩
theorem rk_lt (k : Int) : rk k < 6 := by unfold rk; rw [Int.natAbs_tmod]; exact Nat.mod_lt _ (by decide)
theorem sz_val : (Try.prog.info? 27).map (·.size) = some 4 := by kernel_rfl
theorem u64_and255 (v : Nat) : bits .and .u64 (v : Int) 255 = ((v % 256 : Nat) : Int) := by
  show IntKind.u64.wrap ((BitVec.ofInt 64 (v : Int) &&& BitVec.ofInt 64 255).toNat : Nat) = _
  have e : BitVec.ofInt 64 255 = BitVec.ofNat 64 (2 ^ 8 - 1) := by decide
  rw [e, BitVec.toNat_and, BitVec.toNat_ofInt, BitVec.toNat_ofNat, Nat.mod_eq_of_lt (show 2 ^ 8 - 1 < 2 ^ 64 by decide), Nat.and_two_pow_sub_one_eq_mod, u64_wrap]
  omega
theorem i64_andm (j : Nat) (hj : j ≤ 20) (n : Int) : bits .and .i64 n ((2 ^ j - 1 : Nat) : Int) = n % ((2 ^ j : Nat) : Int) := by
  show IntKind.i64.wrap ((BitVec.ofInt 64 n &&& BitVec.ofInt 64 ((2 ^ j - 1 : Nat) : Int)).toNat : Nat) = _
  have hp : 2 ^ j ≤ 2 ^ 20 := Nat.pow_le_pow_right (by omega) hj
  have hp1 : 0 < 2 ^ j := Nat.pow_pos (by omega)
  have hd : (2 : Nat) ^ 64 = 2 ^ j * 2 ^ (64 - j) := by rw [← Nat.pow_add]; congr 1; omega
  have e : (BitVec.ofInt 64 ((2 ^ j - 1 : Nat) : Int)).toNat = 2 ^ j - 1 := by
    rw [BitVec.toNat_ofInt]; omega
  have h : (BitVec.ofInt 64 n &&& BitVec.ofInt 64 ((2 ^ j - 1 : Nat) : Int)).toNat = (n % ((2 ^ j : Nat) : Int)).toNat := by
    rw [BitVec.toNat_and, e, BitVec.toNat_ofInt, Nat.and_two_pow_sub_one_eq_mod]
    have h1 : ((n % ((2 ^ 64 : Nat) : Int)).toNat % 2 ^ j : Nat) = (n % ((2 ^ 64 : Nat) : Int) % ((2 ^ j : Nat) : Int)).toNat := by
      have h3 : 0 ≤ n % ((2 ^ 64 : Nat) : Int) := Int.emod_nonneg _ (by decide)
      obtain ⟨a, ha⟩ := Int.eq_ofNat_of_zero_le h3
      rw [ha]
      simp
      rfl
    rw [h1, Int.emod_emod_of_dvd]
    exact ⟨((2 ^ (64 - j) : Nat) : Int), by rw [hd]; simp⟩
  rw [h]
  have h4 : 0 ≤ n % ((2 ^ j : Nat) : Int) := Int.emod_nonneg _ (by omega)
  have h5 : n % ((2 ^ j : Nat) : Int) < ((2 ^ j : Nat) : Int) := Int.emod_lt_of_pos _ (by omega)
  rw [Int.toNat_of_nonneg h4]
  exact IntWalk.i64_in _ (by omega)
set_option maxHeartbeats 2000000 in
theorem l2_right (x : ValV) (hx : x.ok) (w : World) :
    Calls Try.prog 44 #[x.val] w fun e w' => e = .returned (rgt x).val ∧ Below w.heap.size w w' := by
  obtain ⟨k, u, i, s⟩ := x
  unfold ValV.val
  dsimp only
  have hi1 : bits .and .i64 i 1 = i % 2 := by simpa using i64_andm 1 (by omega) i
  have hi2 : bits .and .i64 i 8191 = i % 8192 := by simpa using i64_andm 13 (by omega) i
  have hu := u64_and255 u
  have hu2 : ((u % 256 : Nat) : Int) = (u : Int) % 256 := by omega
  have hb := rk_lt k
  unfold rk at hb
  obtain ⟨r, hr⟩ : ∃ r, k.tmod 6 = r := ⟨_, rfl⟩
  rw [hr] at hb
  have HB := Lib.hid (fun o => ((Below.refl w.heap.size w).alloc (Nat.le_refl _) (.cells #[.int .i64 k, .int .u64 u, .int .i64 i, .string s] 27)).alloc (by simp) o)
  have hm1 : 0 ≤ i % 8192 ∧ i % 8192 < 8192 := by omega
  clear hx
  rcases (show r = 0 ∨ r = 1 ∨ r = -1 ∨ r = 2 ∨ r = -2 ∨ r = 3 ∨ r = -3 ∨ r = 4 ∨ r = -4 ∨ r = 5 ∨ r = -5 by omega) with rfl | rfl | rfl | rfl | rfl | rfl | rfl | rfl | rfl | rfl | rfl
  all_goals (
    have HG := Lib.hid (show rgt ⟨k, u, i, s⟩ = _ by unfold rgt rk; rw [hr])
    go_enter Try.func44, Try.ntmps44
    go_wp2
    (try simp only [Exit.inBlock, Exit.then])
    refine bodyPost_ret (results_cell_row rfl _ _ (w.heap.size + 1) 27 _ (0, 0) _ rfl (heap_alloc2_new _ _ _) Try.underlying27 rfl sz_val) rfl ⟨?_, HB.out _⟩
    rw [HG.out]
    simp [hu2])
end Go.Proofs.Ytclafljkeaekfaa
