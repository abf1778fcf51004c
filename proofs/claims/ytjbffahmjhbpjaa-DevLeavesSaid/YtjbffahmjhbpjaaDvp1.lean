/- DevApart, its plain part: the states of the device; append that tells of the elder row. -/
import Derived.Test.YtjbffahmjhbpjaaKd
import Derived.IntWalk
set_option linter.unusedVariables false
set_option linter.unusedSimpArgs false
set_option maxRecDepth 100000
namespace Go.Proofs.Ytjbffahmjhbpjaa
open Go.RowKit
theorem i64_andm (j : Nat) (hj : j ≤ 20) (n : Int) : bits .and .i64 n ((2 ^ j - 1 : Nat) : Int) = n % ((2 ^ j : Nat) : Int) := by
  show IntKind.i64.wrap ((BitVec.ofInt 64 n &&& BitVec.ofInt 64 ((2 ^ j - 1 : Nat) : Int)).toNat : Nat) = _
  have hp : 2 ^ j ≤ 2 ^ 20 := Nat.pow_le_pow_right (by omega) hj
  have hp1 : 0 < 2 ^ j := Nat.pow_pos (by omega)
  have hd : (2 : Nat) ^ 64 = 2 ^ j * 2 ^ (64 - j) := by rw [← Nat.pow_add]; congr 1; omega
  have e : (BitVec.ofInt 64 ((2 ^ j - 1 : Nat) : Int)).toNat = 2 ^ j - 1 := by
    rw [BitVec.toNat_ofInt]; omega
  have h : (BitVec.ofInt 64 n &&& BitVec.ofInt 64 ((2 ^ j - 1 : Nat) : Int)).toNat = (n % ((2 ^ j : Nat) : Int)).toNat := by
    rw [BitVec.toNat_and, e, BitVec.toNat_ofInt, Nat.and_two_pow_sub_one_eq_mod]
    have h1 : ((n % ((2 ^ 64 : Nat) : Int)).toNat % 2 ^ j : Nat) = (n % ((2 ^ 64 : Nat) : Int) % ((2 ^ j : Nat) : Int)).toNat := by
      have h3 : 0 ≤ n % ((2 ^ 64 : Nat) : Int) := Int.emod_nonneg _ (by decide)
      obtain ⟨a, ha⟩ := Int.eq_ofNat_of_zero_le h3
      rw [ha]
      simp
      rfl
    rw [h1, Int.emod_emod_of_dvd]
    exact ⟨((2 ^ (64 - j) : Nat) : Int), by rw [hd]; simp⟩
  rw [h]
  have h4 : 0 ≤ n % ((2 ^ j : Nat) : Int) := Int.emod_nonneg _ (by omega)
  have h5 : n % ((2 ^ j : Nat) : Int) < ((2 ^ j : Nat) : Int) := Int.emod_lt_of_pos _ (by omega)
  rw [Int.toNat_of_nonneg h4]
  exact IntWalk.i64_in _ (by omega)
theorem i64_and63 (n : Int) : ∃ k : Nat, k < 64 ∧ bits .and .i64 n 63 = (k : Int) ∧ (k : Int) = n % 64 := by
  have h := i64_andm 6 (by omega) n
  refine ⟨(n % 64).toNat, by omega, ?_, by omega⟩
  have e : ((2 ^ 6 - 1 : Nat) : Int) = 63 := rfl
  rw [e] at h
  rw [h, show ((2 ^ 6 : Nat) : Int) = 64 from rfl]
  omega
theorem u8_plus (c : UInt8) (m : Nat) (hm : m < 256) : IntKind.u8.wrap ((c.toNat : Int) + (m : Int)) = ((c + UInt8.ofNat m).toNat : Int) := by
  have h1 : (c + UInt8.ofNat m).toNat = (c.toNat + m) % 256 := by
    rw [UInt8.toNat_add, UInt8.toNat_ofNat', Nat.mod_eq_of_lt (show m < 2 ^ 8 by omega)]
  rw [h1]
  show (IntKind.u8).wrap _ = _
  simp only [IntKind.wrap, IntKind.signed, IntKind.bits]
  simp
/-! ### the device's states -/
def apF (c : UInt8) : List UInt8 := List.replicate 512 c
theorem apF_len (c : UInt8) : (apF c).length = 512 := List.length_replicate
def apD1 (c : UInt8) (k : Nat) : DS := ⟨64, liveM, [⟨k, apF c⟩], 0, false, false, 0, 2, 1⟩
def apM2 (c : UInt8) (k2 : Nat) : List UInt8 := splice liveM (k2 * 512 + 510) [c, c]
def apD2 (c : UInt8) (k k2 rd : Nat) : DS := ⟨64, apM2 c k2, [⟨k, apF c⟩], 0, false, false, rd, 2, 1⟩
def apM5 (c : UInt8) (k k2 : Nat) : List UInt8 := splice (apM2 c k2) (k * 512) (apF c)
def apD5 (c : UInt8) (k k2 rd : Nat) : DS := ⟨64, apM5 c k k2, [], 0, false, false, rd, 2, 2⟩
theorem splice_len {α : Type} (M X : List α) (off : Nat) (h : off + X.length ≤ M.length) : (splice M off X).length = M.length := by
  simp [splice]; omega
theorem splice_get {α : Type} (M X : List α) (off i : Nat) (h : off + X.length ≤ M.length) : (splice M off X)[i]? = if off ≤ i ∧ i < off + X.length then X[i - off]? else M[i]? := by
  unfold splice
  by_cases h1 : i < off
  · rw [if_neg (by omega), List.getElem?_append_left (by simp; omega), List.getElem?_take, if_pos h1]
  · rw [List.getElem?_append_right (by simp; omega), List.length_take, Nat.min_eq_left (by omega)]
    by_cases h2 : i < off + X.length
    · rw [if_pos (by omega), List.getElem?_append_left (by omega)]
    · rw [if_neg (by omega), List.getElem?_append_right (by omega), List.getElem?_drop]
      congr 1; omega
theorem liveM_len : liveM.length = 64 * 512 := by
  unfold liveM
  rw [splice_len _ _ _ (by rw [fiveL_len, zM_len]; decide), zM_len]
theorem apM2_len (c : UInt8) (k2 : Nat) (h : k2 < 64) : (apM2 c k2).length = 64 * 512 := by
  unfold apM2
  rw [splice_len _ _ _ (by rw [liveM_len]; simp; omega), liveM_len]
theorem apM5_len (c : UInt8) (k k2 : Nat) (hk : k < 64) (h : k2 < 64) : (apM5 c k k2).length = 64 * 512 := by
  unfold apM5
  rw [splice_len _ _ _ (by rw [apM2_len c k2 h, apF_len]; omega), apM2_len c k2 h]
theorem ap_wr (c : UInt8) (k : Nat) (hk : k < 64) : wrD liveD k (apF c) = (0, apD1 c k) := by
  unfold wrD
  rw [if_neg (by show ¬ ¬ ((0 : Int) ≤ (k : Int) ∧ (k : Int) < ((64 : Nat) : Int)); omega), if_neg (fun h => h (apF_len c))]
  rfl
theorem ap_ed (c : UInt8) (k k2 : Nat) (h2 : k2 < 64) : edD (apD1 c k) k2 510 [c, c] = (0, apD2 c k k2 0) := by
  unfold edD
  rw [if_neg (by show ¬ ¬ ((0 : Int) ≤ (k2 : Int) ∧ (k2 : Int) < ((64 : Nat) : Int)); omega), if_neg (by show ¬ ((510 : Int) < 0 ∨ (512 : Int) < 510 ∨ (512 : Int) - 510 < ((2 : Nat) : Int)); omega)]
  rfl
theorem ap_rd (c : UInt8) (k k2 rd : Nat) : rdB (apD2 c k k2 rd) k = apF c := by
  show rdC [⟨k, apF c⟩] k _ = _
  rw [rdC, rdC, if_pos rfl]
theorem ap_fl (c : UInt8) (k k2 rd : Nat) : flD (apD2 c k k2 rd) = (0, apD5 c k k2 rd) := by
  have h : (apF c).take 512 = apF c := List.take_of_length_le (by rw [apF_len]; exact Nat.le_refl _)
  have h2 : layA (fun _ => 512) 0 [⟨k, apF c⟩] (apM2 c k2) = apM5 c k k2 := by
    show splice (apM2 c k2) (k * 512) ((apF c).take 512) = _
    rw [h]; rfl
  unfold flD
  rw [show actD (apD2 c k k2 rd) = (true, apD2 c k k2 rd) from rfl, if_pos rfl]
  show (0, (⟨64, layA (fun _ => 512) 0 [⟨k, apF c⟩] (apM2 c k2), [], 0, false, false, rd, 2, 2⟩ : DS)) = _
  rw [h2]; rfl
theorem blkM_get (M : List UInt8) (k i : Nat) (hi : i < 512) : (blkM M k)[i]? = M[k * 512 + i]? := by
  unfold blkM
  rw [List.getElem?_take, if_pos hi, List.getElem?_drop]
theorem blkM_len (M : List UInt8) (k : Nat) (h : k * 512 + 512 ≤ M.length) : (blkM M k).length = 512 := by
  unfold blkM; rw [List.length_take, List.length_drop]; omega
theorem ap_raw (c : UInt8) (k k2 : Nat) (hk : k < 64) (h2 : k2 < 64) : blkM (apM5 c k k2) k = apF c := by
  apply List.ext_getElem?
  intro i
  by_cases hi : i < 512
  · rw [blkM_get _ _ _ hi, apM5, splice_get _ _ _ _ (by rw [apM2_len c k2 h2, apF_len]; omega), if_pos (by rw [apF_len]; omega)]
    congr 1; omega
  · rw [List.getElem?_eq_none (by rw [blkM_len _ _ (by rw [apM5_len c k k2 hk h2]; omega)]; omega), List.getElem?_eq_none (by rw [apF_len]; omega)]
theorem ap_rd5 (c : UInt8) (k k2 rd : Nat) (hk : k < 64) (h2 : k2 < 64) : rdB (apD5 c k k2 rd) k = apF c := ap_raw c k k2 hk h2
theorem ap_z (c : UInt8) (k k2 i : Nat) (hk : k < 64) (h2 : k2 < 64) (hne : k ≠ k2) (hi : i = 510 ∨ i = 511) : (blkM (apM5 c k k2) k2).getD i 0 = c := by
  rw [List.getD_eq_getElem?_getD, blkM_get _ _ _ (by omega), apM5, splice_get _ _ _ _ (by rw [apM2_len c k2 h2, apF_len]; omega), if_neg (by rw [apF_len]; omega), apM2,
    splice_get _ _ _ _ (by rw [liveM_len]; simp; omega), if_pos (by simp; omega)]
  rcases hi with rfl | rfl
  · rw [show k2 * 512 + 510 - (k2 * 512 + 510) = 0 by omega]; rfl
  · rw [show k2 * 512 + 511 - (k2 * 512 + 510) = 1 by omega]; rfl
/-! ### append of ints that tells of the elder row -/
theorem Kp.back {w : World} {S : List Nat} {x : Nat × Obj} {R : List (Nat × Obj)} (h : Kp w S (x :: R)) : Kp w S (R ++ [x]) := by
  have hp : (R ++ [x]).Perm (x :: R) := List.perm_append_comm
  exact ⟨fun p hp' => h.all p (hp.mem_iff.1 hp'), fun p hp' => h.out p (hp.mem_iff.1 hp'), (hp.map Prod.fst).nodup_iff.2 h.nd⟩
theorem Kp.mem {w : World} {S : List Nat} {R : List (Nat × Obj)} (h : Kp w S R) {k : Nat} {o : Obj} (hm : (k, o) ∈ R) : w.heap[k]? = some o := h.all _ hm
theorem Kp.grown {w w' : World} {S : List Nat} {R : List (Nat × Obj)} (h : Kp w S R) (i : Nat) {k : Nat} {o o' : Obj} (hi : R[i]? = some (k, o)) (hg : w.grownBy w' (some k)) (ho : w'.heap[k]? = some o') : Kp w' S (R.set i (k, o')) :=
  h.upd i hi ⟨hg.os, hg.tape, hg.output, hg.size, fun j hj hn => hg.block j hj (fun e => hn (by injection e with e; simp [e]))⟩ ho
/-- append(p, y), p a row of one int: p keeps its int; the answer's row holds both. -/
theorem run_appI1_keep {W : World} (ty : TypeId) {k c : Nat} {o : Obj} (x y : Int) (hk : W.heap[k]? = some o) (hr : RowN o 1 c [x]) (B : Nat) (hB : W.heap[B]? = some (.cells #[.int .i64 y] 3 (0, 0))) :
    ∃ v1 w1 kh ch oh op, (Builtin.append_ #[38, 38] ty #[.slice (some ⟨k, 0, none⟩) 1 c, .slice (some ⟨B, 0, none⟩) 1 1]).run Try.prog W = .ok v1 w1 ∧ v1 = .slice (some ⟨kh, 0, none⟩) 2 ch ∧ w1.heap[kh]? = some oh ∧ RowN oh 2 ch [x, y] ∧
      w1.heap[k]? = some op ∧ RowN op 1 c [x] ∧ Only [k] W w1 ∧ ((kh = k ∧ oh = op) ∨ W.heap.size ≤ kh) := by
  obtain ⟨i0, hi, hzz⟩ := Option.map_eq_some_iff.1 info_int
  simp only [Prod.mk.injEq] at hzz
  obtain ⟨hz0, hz1, hz2⟩ := hzz
  have ht := Try.underlying38
  have HO : W.ownsRow 0 3 1 (.slice (some ⟨k, 0, none⟩) 1 c) 1 (iv_ [x]) := hr.own hk
  have hcells : ∀ j u, (iv_ [y])[j]? = some u → W.cell? ((⟨B, 0, none⟩ : Addr).add j) = some u := by
    intro j u hu
    rw [Addr.add_mid, Nat.zero_add, cell_of_row _ _ _ _ _ _ hB]
    simpa [iv_] using hu
  by_cases hroom : 1 + 1 ≤ c
  · obtain ⟨w1, hrun, h5, h6⟩ := run_append_fits (P := Try.prog) W 0 38 ty 3 i0 1 ht hi hz1 k 1 c (iv_ [x]) HO ⟨B, 0, none⟩ 1 1 (iv_ [y]) (by rw [iv_length]; simp) hcells (iv_one [y]) hroom
    obtain ⟨kh, ch, oh, he, _, hh, hrow⟩ := OwnI.row_of (w := w1) (base := 0) (n := 2) (l := [x, y]) (v := .slice (some ⟨k, 0, none⟩) 2 c) h5 (by omega)
    injection he with e1 e2 e3
    injection e1 with e1
    injection e1 with e1
    subst e1 e3
    refine ⟨_, w1, k, c, oh, oh, hrun, rfl, hh, hrow, hh, ?_, ⟨h6.os, h6.tape, h6.output, h6.size, fun j hj hn => h6.block j hj (fun e => hn (by injection e with e; simp [e]))⟩, .inl ⟨rfl, rfl⟩⟩
    obtain ⟨cur, rfl, g1, g2, g3, g4, g5⟩ := hrow
    refine ⟨cur, rfl, rfl, by omega, g3, g4, ?_⟩
    have := congrArg (List.take 1) g5
    rw [List.take_take] at this
    exact this
  · have hgr := run_append_grow (P := Try.prog) W 38 ty 3 i0 (.int .i64 0) ht hi hz0 ⟨k, 0, none⟩ 1 c (iv_ [x]) (by rw [hz1]; rfl) (World.ownsRow.cells HO (g := k) rfl) ⟨B, 0, none⟩ 1 1 (iv_ [y]) (by rw [iv_length, hz1]; rfl) hcells (by omega) (by have := hr; obtain ⟨_, _, _, _, h, _⟩ := this; omega) (by rw [hz2]; exact growslice_fits_wide (by omega) (by omega))
    obtain ⟨v1, w1, hrun, h2, h3, _, h5⟩ := run_append_own_at (P := Try.prog) W 0 38 ty 3 i0 (.int .i64 0) 1 8 ht hi hz0 hz1 hz2 rfl (by omega) _ 1 (iv_ [x]) HO ⟨B, 0, none⟩ 1 1 (iv_ [y]) (by rw [iv_length]; simp) hcells
      (iv_one [y]) (by simp only [maxLen]; omega) (by omega) (Nat.zero_le _)
    have hw : v1.ownBlock = some W.heap.size ∧ w1.heap[k]? = W.heap[k]? ∧ W.grownBy w1 none := by
      rw [hrun] at hgr
      injection hgr with e1 e2
      refine ⟨by rw [e1]; rfl, ?_, ?_⟩
      · rw [e2]; exact heap_alloc_old W.drew _ (lt_of_block hk)
      · rw [e2]; exact ⟨rfl, rfl, rfl, by simp, fun k hk _ => heap_alloc_old W.drew _ hk⟩
    obtain ⟨kh, ch, oh, he, _, hh, hrow⟩ := OwnI.row_of (w := w1) (base := 0) (n := 2) (l := [x, y]) (v := v1) h2 (by omega)
    refine ⟨v1, w1, kh, ch, oh, o, hrun, he, hh, hrow, hw.2.1.trans hk, hr, ⟨hw.2.2.os, hw.2.2.tape, hw.2.2.output, hw.2.2.size, fun j hj _ => hw.2.2.block j hj (by simp)⟩, .inr ?_⟩
    have := hw.1
    rw [he] at this
    injection this with this
    exact Nat.le_of_eq this.symm
section
variable {ops : Array Oper} {rest : List Oper} {o : Oper} {a : Act} {Q : Exit → Act → World → Prop}
theorem wp_appI1_keep {W : World} {k c : Nat} {ob : Obj} (x y : Int) (hk : W.heap[k]? = some ob) (hr : RowN ob 1 c [x]) (s z : Operand) (hgd : o.guard = none)
    (ho : o.op = .call { callee := .builtin .append, args := #[s, z], argTypes := #[38, 38] }) (hs : a.eval s = .slice (some ⟨k, 0, none⟩) 1 c) (hx : a.eval z = .slice (some ⟨W.heap.size, 0, none⟩) 1 1)
    (h : ∀ w1 kh ch oh op, w1.heap[kh]? = some oh → RowN oh 2 ch [x, y] → w1.heap[k]? = some op → RowN op 1 c [x] → Only [k] (W.alloc (.cells #[.int .i64 y] 3)) w1 → ((kh = k ∧ oh = op) ∨ (W.alloc (.cells #[.int .i64 y] 3)).heap.size ≤ kh) → wpList Try.prog ops Q rest (a.put o.dst (.slice (some ⟨kh, 0, none⟩) 2 ch)) w1) :
    wpList Try.prog ops Q (o :: rest) a (W.alloc (.cells #[.int .i64 y] 3)) := by
  obtain ⟨v1, w1, kh, ch, oh, op, hrun, rfl, h1, h2, h3, h4, h5, h6⟩ := run_appI1_keep o.type (W := W.alloc (.cells #[.int .i64 y] 3)) x y ((Below.heap_alloc W _ k (lt_of_block hk)).trans hk) hr W.heap.size (heap_alloc_new W _)
  refine wpList_plain hgd fun K hK => ?_
  unfold Oper.wp execOp
  simp only [ho, resolve, invoke, builtin, Sem.run_bind, Sem.run_pure, Result.andThen_ok, List.map_toArray, List.map_cons, List.map_nil, hs, hx, hrun]
  exact hK _ _ (h w1 kh ch oh op h1 h2 h3 h4 h5 h6)
end
section
variable {w0 w w' : World} {b g : Nat} {vc : Value} {D : DS} {R : List (Nat × Obj)}
theorem St.cons (h : St w0 w b g vc D R) {k : Nat} {o : Obj} (hne : ∀ p ∈ R, p.1 ≠ k) (hS : k ∉ dvS b g vc) (hge : w0.heap.size ≤ k) (ho : w.heap[k]? = some o) : St w0 w b g vc D ((k, o) :: R) := by
  refine ⟨h.dv, ⟨fun p hp => ?_, fun p hp => ?_, ?_⟩, h.bl, h.sl, fun p hp => ?_⟩
  · rcases List.mem_cons.1 hp with rfl | hp
    · exact ho
    · exact h.kp.all p hp
  · rcases List.mem_cons.1 hp with rfl | hp
    · exact hS
    · exact h.kp.out p hp
  · rw [List.map_cons, List.nodup_cons]
    refine ⟨fun hm => ?_, h.kp.nd⟩
    obtain ⟨p, hp, he⟩ := List.mem_map.1 hm
    exact hne p hp he
  · rcases List.mem_cons.1 hp with rfl | hp
    · exact hge
    · exact h.rl p hp
theorem St.growH {R0 : List (Nat × Obj)} {k kh : Nat} {o oh op : Obj} (h : St w0 w b g vc D (R0 ++ [(k, o)])) (hO : Only [k] w w') (hop : w'.heap[k]? = some op) (hoh : w'.heap[kh]? = some oh) (hc : (kh = k ∧ oh = op) ∨ w.heap.size ≤ kh) :
    ∃ Rh, St w0 w' b g vc D (R0 ++ Rh) ∧ (kh, oh) ∈ Rh ∧ (k, op) ∈ Rh := by
  have h1 := h.upd R0.length (by rw [List.getElem?_append_right (Nat.le_refl _), Nat.sub_self]; rfl) hO hop
  rw [List.set_append_right _ _ (Nat.le_refl _), Nat.sub_self, List.set_cons_zero] at h1
  rcases hc with ⟨rfl, rfl⟩ | hc
  · exact ⟨_, h1, by simp, by simp⟩
  · have h2 := (h1.cons (k := kh) (fun p hp e => by
      rcases List.mem_append.1 hp with hp | hp
      · have h3 := lt_of_block (h.kp.all p (List.mem_append_left _ hp)); omega
      · rw [List.mem_singleton.1 hp] at e
        have h3 := lt_of_block (h.kp.all (k, o) (by simp))
        have h4 : k = kh := e
        have h5 : k < w.heap.size := h3
        omega) (fun hm => by have := h.dv.lt kh hm; omega) (Nat.le_trans h.bl.size hc) hoh).back
    rw [List.append_assoc] at h2
    exact ⟨_, h2, by simp, by simp⟩
variable {c : UInt8} {k k2 rd : Nat}
theorem ap_Read2 (hrd : rd < 100) (hk : k < 64) (h : St w0 w b g vc (apD2 c k k2 rd) R) :
    Calls Try.prog 19 #[.pointer (some ⟨b, 0, none⟩), .int .i64 k] w fun e w' => ∃ j o, e = .returned (.tuple #[.slice (some ⟨j, 0, none⟩) 512 512, .int .i64 0]) ∧ RowB o 512 512 (apF c) ∧ St w0 w' b g vc (apD2 c k k2 (rd + 1)) ((j, o) :: R) := by
  have h1 := st_Read k h hk rfl (by show rd < 9223372036854775807; omega) (by show 1 ≤ 100000000000; omega)
  rw [ap_rd] at h1
  exact h1
theorem ap_Pend2 (h : St w0 w b g vc (apD2 c k k2 rd) R) :
    Calls Try.prog 20 #[.pointer (some ⟨b, 0, none⟩)] w fun e w' => ∃ j q o, e = .returned (.slice (some ⟨j, 0, none⟩) 1 q) ∧ RowN o 1 q [(k : Int)] ∧ St w0 w' b g vc (apD2 c k k2 rd) ((j, o) :: R) :=
  st_Pending h (by show 1 ≤ 100000000000; omega) (by show 0 < 1; omega)
theorem ap_Flush2 (h : St w0 w b g vc (apD2 c k k2 rd) R) :
    Calls Try.prog 21 #[.pointer (some ⟨b, 0, none⟩)] w fun e w' => e = .returned (.int .i64 0) ∧ ∃ vc', St w0 w' b g vc' (apD5 c k k2 rd) R := by
  have h1 := st_Flush h (by show 0 < 9223372036854775808; omega) (by show 1 ≤ 100000000000; omega) (by show 1 < 9223372036854775807; omega)
  rw [ap_fl] at h1
  exact h1
theorem ap_Raw5 (hk : k < 64) (h2 : k2 < 64) (h : St w0 w b g vc (apD5 c k k2 rd) R) :
    Calls Try.prog 22 #[.pointer (some ⟨b, 0, none⟩), .int .i64 k] w fun e w' => ∃ j o, e = .returned (.tuple #[.slice (some ⟨j, 0, none⟩) 512 512, .int .i64 0]) ∧ RowB o 512 512 (apF c) ∧ St w0 w' b g vc (apD5 c k k2 rd) ((j, o) :: R) := by
  have h1 := st_Raw k h hk
  rw [show (apD5 c k k2 rd).M = apM5 c k k2 from rfl, ap_raw c k k2 hk h2] at h1
  exact h1
theorem ap_Raw5z (h2 : k2 < 64) (h : St w0 w b g vc (apD5 c k k2 rd) R) :
    Calls Try.prog 22 #[.pointer (some ⟨b, 0, none⟩), .int .i64 k2] w fun e w' => ∃ j o, e = .returned (.tuple #[.slice (some ⟨j, 0, none⟩) 512 512, .int .i64 0]) ∧ RowB o 512 512 (blkM (apM5 c k k2) k2) ∧ St w0 w' b g vc (apD5 c k k2 rd) ((j, o) :: R) := st_Raw k2 h h2
theorem ap_Medium5 (h : St w0 w b g vc (apD5 c k k2 rd) R) :
    Calls Try.prog 23 #[.pointer (some ⟨b, 0, none⟩)] w fun e w' => ∃ j q o, e = .returned (.slice (some ⟨j, 0, none⟩) 32768 q) ∧ RowB o 32768 q (apM5 c k k2) ∧ St w0 w' b g vc (apD5 c k k2 rd) ((j, o) :: R) := st_Medium h
theorem ap_Read5 (hrd : rd < 100) (hk : k < 64) (h2 : k2 < 64) (h : St w0 w b g vc (apD5 c k k2 rd) R) :
    Calls Try.prog 19 #[.pointer (some ⟨b, 0, none⟩), .int .i64 k] w fun e w' => ∃ j o, e = .returned (.tuple #[.slice (some ⟨j, 0, none⟩) 512 512, .int .i64 0]) ∧ RowB o 512 512 (apF c) ∧ St w0 w' b g vc (apD5 c k k2 (rd + 1)) ((j, o) :: R) := by
  have h1 := st_Read k h hk rfl (by show rd < 9223372036854775807; omega) (by show 0 ≤ 100000000000; omega)
  rw [ap_rd5 c k k2 rd hk h2] at h1
  exact h1
/-- append(a, y): a's row keeps its bytes -/
theorem St.appK {W W' : World} {i q n : Nat} {o : Obj} {l l2 : List UInt8} {m : Nat} {v1 : Value} (h : St w0 W b g vc D R) (hi : R[i]? = some (q, o)) (hO1 : Own W' 0 v1 m l2) (hm : 0 < m) (hO : Own W' 0 (.slice (some ⟨q, 0, none⟩) n k) n l) (hn : 0 < n) (hG : W.grownBy W' (some q)) :
    ∃ A c1 o', v1 = .slice A m c1 ∧ RowB o' n k l ∧ St w0 W' b g vc D (R.set i (q, o')) := by
  obtain ⟨q', c', o', e, _, ho, hr⟩ := hO.row_of hn
  injection e with e1 e2 e3
  injection e1 with e1
  injection e1 with e1
  subst e1 e3
  obtain ⟨g1, c1, rfl, _⟩ := hO1.form hm
  exact ⟨_, c1, o', rfl, hr, h.grown i hi hG ho⟩
end
theorem fillO_step (M : List UInt8) (j : Nat) (x : UInt8) (h : j < M.length) : (List.replicate j x ++ M.drop j).set j x = List.replicate (j + 1) x ++ M.drop (j + 1) := by
  rw [List.set_append_right _ _ (by simp), List.length_replicate, Nat.sub_self, List.drop_eq_getElem_cons h, List.set_cons_zero, List.replicate_succ', List.append_assoc]
  rfl
theorem fillO_end (M : List UInt8) (x : UInt8) (n : Nat) (h : M.length = n) : List.replicate n x ++ M.drop n = List.replicate n x := by
  rw [List.drop_eq_nil_of_le (by omega), List.append_nil]
theorem rep_getD (n i : Nat) (x : UInt8) (h : i < n) : (List.replicate n x).getD i 0 = x := by
  rw [List.getD_eq_getElem?_getD, List.getElem?_replicate, if_pos h]; rfl
end Go.Proofs.Ytjbffahmjhbpjaa
