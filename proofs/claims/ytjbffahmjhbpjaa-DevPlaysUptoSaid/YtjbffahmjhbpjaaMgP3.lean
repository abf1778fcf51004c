/- The reference's device, as rows beside a state: what it holds; copied. -/
import Derived.Test.YtjbffahmjhbpjaaMgP2
import Derived.Laws.Rows
import Derived.Deep.RegionHeld3
/- The reference's device, as rows beside a state: what it holds; copied. -/
set_option linter.unusedVariables false
set_option linter.unusedSimpArgs false
set_option maxRecDepth 100000
namespace Go.Proofs.Ytjbffahmjhbpjaa
open Go.RowKit
/-- a laying: so many bytes at a place of a block -/
structure Ly where
  blk : Nat
  at_ : Nat
  B : List UInt8
instance : Inhabited Ly := ⟨⟨0, 0, []⟩⟩
def lyvs (L : List (Ly × Value)) : List Value := L.flatMap fun p => [.int .i64 p.1.blk, .int .i64 p.1.at_, p.2]
theorem lyvs_len : ∀ L : List (Ly × Value), (lyvs L).length = L.length * 3
  | [] => rfl
  | f :: r => by
    have h := lyvs_len r
    unfold lyvs at h ⊢
    rw [List.flatMap_cons, List.length_append, h, List.length_cons]
    simp only [List.length_cons, List.length_nil]; omega
theorem lyvs_snoc (L : List (Ly × Value)) (p : Ly × Value) : lyvs (L ++ [p]) = lyvs L ++ [.int .i64 p.1.blk, .int .i64 p.1.at_, p.2] := by simp [lyvs]
theorem lyvs_get : ∀ (L : List (Ly × Value)) (i : Nat), i < L.length → (lyvs L)[i * 3]? = some (.int .i64 (L.getD i default).1.blk) ∧ (lyvs L)[i * 3 + 1]? = some (.int .i64 (L.getD i default).1.at_) ∧ (lyvs L)[i * 3 + 2]? = some (L.getD i default).2
  | [], i, h => by simp at h
  | f :: r, 0, _ => ⟨rfl, rfl, rfl⟩
  | f :: r, i + 1, h => by
    have ih := lyvs_get r i (by simpa using h)
    unfold lyvs at ih ⊢
    rw [List.flatMap_cons, show (i + 1) * 3 = i * 3 + 1 + 1 + 1 by omega]
    simpa using ih
/-- a laying's bytes lie in a row of K -/
structure LyOk (K : List (Nat × Obj)) (N : Nat) (p : Ly × Value) : Prop where
  blk : p.1.blk < N
  fit : p.1.at_ + p.1.B.length ≤ 512
  row : (p.2 = .slice none 0 0 ∧ p.1.B = []) ∨ ∃ k o c, p.2 = .slice (some ⟨k, 0, none⟩) p.1.B.length c ∧ (k, o) ∈ K ∧ RowB o p.1.B.length c p.1.B
theorem LyOk.mono {K K' : List (Nat × Obj)} {N : Nat} {p : Ly × Value} (h : LyOk K N p) (hk : ∀ q ∈ K, q ∈ K') : LyOk K' N p :=
  ⟨h.blk, h.fit, by
    rcases h.row with h1 | ⟨k, o, c, h1, h2, h3⟩
    · exact .inl h1
    · exact .inr ⟨k, o, c, h1, hk _ h2, h3⟩⟩
/-- what the reads of a laying's bytes see -/
theorem LyOk.rd {K : List (Nat × Obj)} {N : Nat} {p : Ly × Value} (h : LyOk K N p) {w : World} (hk : ∀ q ∈ K, w.heap[q.1]? = some q.2) : ∃ A c, p.2 = .slice A p.1.B.length c ∧ Rd w A p.1.B.length c p.1.B := by
  have hf := h.fit
  rcases h.row with ⟨h1, h2⟩ | ⟨k, o, c, h1, h2, h3⟩
  · rw [h2]
    exact ⟨none, 0, h1, Rd.nil w⟩
  · exact ⟨_, c, h1, h3.rd (hk (k, o) h2) (by omega)⟩
/-- layings over a medium -/
def plays (L : List Ly) (M : List UInt8) : List UInt8 := L.foldl (fun M x => splice M (x.blk * 512 + x.at_) x.B) M
theorem plays_snoc (L : List Ly) (x : Ly) (M : List UInt8) : plays (L ++ [x]) M = splice (plays L M) (x.blk * 512 + x.at_) x.B := by simp [plays]
/-- layings over one block -/
def plB (k : Nat) (L : List Ly) (M : List UInt8) : List UInt8 := L.foldl (fun M x => if x.blk = k then splice M x.at_ x.B else M) M
theorem plB_snoc (k : Nat) (L : List Ly) (x : Ly) (M : List UInt8) : plB k (L ++ [x]) M = if x.blk = k then splice (plB k L M) x.at_ x.B else plB k L M := by simp [plB]
structure LyFit (N : Nat) (x : Ly) : Prop where
  blk : x.blk < N
  fit : x.at_ + x.B.length ≤ 512
theorem splice_lenL {α : Type} (M X : List α) (off : Nat) (h : off + X.length ≤ M.length) : (splice M off X).length = M.length := by
  simp [splice]; omega
theorem blk_end {N k : Nat} (h : k < N) : k * 512 + 512 ≤ N * 512 := by have : (k + 1) * 512 ≤ N * 512 := Nat.mul_le_mul_right _ h; omega
theorem plays_len {N : Nat} : ∀ (L : List Ly) (M : List UInt8), (∀ x ∈ L, LyFit N x) → M.length = N * 512 → (plays L M).length = N * 512
  | [], M, _, h => h
  | x :: r, M, hl, h => by
    have hx := hl x (by simp)
    have h1 := blk_end hx.blk
    have h2 := hx.fit
    exact plays_len r (splice M (x.blk * 512 + x.at_) x.B) (fun y hy => hl y (by simp [hy])) (by rw [splice_lenL _ _ _ (by omega), h])
theorem plB_len (k : Nat) {N : Nat} : ∀ (L : List Ly) (M : List UInt8), (∀ x ∈ L, LyFit N x) → M.length = 512 → (plB k L M).length = 512
  | [], M, _, h => h
  | x :: r, M, hl, h => by
    have h2 := (hl x (by simp)).fit
    refine plB_len k r (if x.blk = k then splice M x.at_ x.B else M) (fun y hy => hl y (by simp [hy])) ?_
    split
    · rw [splice_lenL _ _ _ (by omega), h]
    · exact h
theorem blk_splice {N : Nat} (M : List UInt8) (x : Ly) (k : Nat) (hk : k < N) (hM : M.length = N * 512) (hx : LyFit N x) : blkM (splice M (x.blk * 512 + x.at_) x.B) k = if x.blk = k then splice (blkM M k) x.at_ x.B else blkM M k := by
  have h1 := blk_end hx.blk
  have h2 := hx.fit
  have hbl : (blkM M k).length = 512 := blkM_len M k (by rw [hM]; exact blk_end hk)
  by_cases he : x.blk = k
  · subst he
    rw [if_pos rfl]
    apply List.ext_getElem?
    intro i
    by_cases hi : i < 512
    · rw [blkM_get _ _ _ hi, splice_get _ _ _ _ (by omega), splice_get _ _ _ _ (by omega), blkM_get _ _ _ hi]
      by_cases h3 : x.at_ ≤ i ∧ i < x.at_ + x.B.length
      · rw [if_pos (by omega), if_pos h3]; congr 1; omega
      · rw [if_neg (by omega), if_neg h3]
    · rw [List.getElem?_eq_none (by unfold blkM; rw [List.length_take]; omega), List.getElem?_eq_none (by rw [splice_lenL _ _ _ (by omega)]; omega)]
  · rw [if_neg he]
    refine blkM_splice_out M x.B _ k (by omega) ?_
    rcases (by omega : x.blk < k ∨ k < x.blk) with h | h
    · left; omega
    · right; omega
theorem plays_blk {N : Nat} (k : Nat) (hk : k < N) : ∀ (L : List Ly) (M : List UInt8), (∀ x ∈ L, LyFit N x) → M.length = N * 512 → blkM (plays L M) k = plB k L (blkM M k)
  | [], M, _, _ => rfl
  | x :: r, M, hl, h => by
    have hx := hl x (by simp)
    have h1 := blk_end hx.blk
    have h2 := hx.fit
    have ih := plays_blk k hk r (splice M (x.blk * 512 + x.at_) x.B) (fun y hy => hl y (by simp [hy])) (by rw [splice_lenL _ _ _ (by omega), h])
    show blkM (plays r (splice M (x.blk * 512 + x.at_) x.B)) k = plB k r (if x.blk = k then splice (blkM M k) x.at_ x.B else blkM M k)
    rw [ih, blk_splice M x k hk h hx]
/-! ### the reference's struct -/
def rfO (N : Nat) (base vl vc : Value) (armed : Bool) (left : Int) (off : Bool) (rd wr fl : Nat) : Obj := .cells #[.int .i64 N, base, vl, vc, .bool armed, .int .i64 left, .bool off, .int .i64 rd, .int .i64 wr, .int .i64 fl] 93
/-- the bytes it began with -/
def BaseOk (base : Value) (K : List (Nat × Obj)) (N : Nat) (M0 : List UInt8) : Prop :=
  M0.length = N * 512 ∧ ((base = .slice none 0 0 ∧ M0 = List.replicate (N * 512) 0) ∨ ∃ k o c, base = .slice (some ⟨k, 0, none⟩) (N * 512) c ∧ (k, o) ∈ K ∧ RowB o (N * 512) c M0)
def lyPd (x : Ly) : Pd := ⟨x.blk, x.B⟩
/-- what the reference's device holds, in the state D -/
structure RfOk (r : Nat) (D : DS) where
  L : List (Ly × Value)
  C : List (Ly × Value)
  vl : Value
  vc : Value
  base : Value
  M0 : List UInt8
  left : Int
  Ql : List (Nat × Obj)
  Qc : List (Nat × Obj)
  K : List (Nat × Obj)
  ql : QV 96 3 vl L.length (lyvs L) Ql
  qc : QV 96 3 vc C.length (lyvs C) Qc
  bs : BaseOk base K D.n M0
  lo : ∀ p ∈ L, LyOk K D.n p
  co : ∀ p ∈ C, LyOk K D.n p ∧ p.1.at_ = 0 ∧ p.1.B.length = 512
  hM : D.M = plays (L.map Prod.fst) M0
  hC : D.C = C.map fun p => lyPd p.1
  hl : D.armed = true → left = D.left
  sm : 64 ≤ D.n ∧ D.n ≤ 4096
/-- its rows -/
def RfOk.rows {r : Nat} {D : DS} (h : RfOk r D) : List (Nat × Obj) := (r, rfO D.n h.base h.vl h.vc D.armed h.left D.down D.rd D.wr D.fl) :: (h.Ql ++ (h.Qc ++ h.K))
/-! ### copied -/
theorem rf_copied (w : World) (A : Option Addr) (n c : Nat) (l : List UInt8) (hr : Rd w A n c l) (hn : n ≤ 140737488355328) :
    Calls Try.prog 52 #[.slice A n c] w fun e w' => ∃ u, e = .returned u ∧ Own w' w.heap.size u n l ∧ Below w.heap.size w w' := by
  have HR := Lib.hid hr
  have hl := Lib.hid hr.len
  clear hr
  go_enter Try.func52, Try.ntmps52
  go_wp2_with fail
  go_loopw [3, 4] (fun v x wx => ∃ k : Nat, k ≤ n ∧ x = .int .i64 k ∧ Own wx w.heap.size v k (l.take k) ∧ Below w.heap.size w wx) (fun _ x _ => n - (intOf x).toNat)
  case atStart => exact ⟨0, by omega, rfl, Own.nil _ _, Below.refl _ _⟩
  case round =>
    obtain ⟨k, hk, rfl, hO, hB⟩ := hrel
    have HO := Lib.hid hO
    have HB := Lib.hid hB
    have hz := hB.size
    clear hO hB
    by_cases hkn : k < n
    · obtain ⟨b, o, rfl, hc⟩ := (HR.out.ext HB.out).at_ (by omega)
      have hcell := hc k hkn
      obtain ⟨y, hy⟩ : ∃ y, y = l.getD k 0 := ⟨_, rfl⟩
      rw [← hy] at hcell
      have HST := Lib.hid (show l.take (k + 1) = l.take k ++ [y] by rw [hy]; exact take_snoc l k 0 (by rw [hl.out]; exact hkn))
      have hki : (0 : Int) ≤ (k : Int) ∧ (k : Int) < (n : Int) := by omega
      clear hc hy
      go_wp2_with (at_builtin; refine wp_app1 (w0 := w) w.heap.size y HO.out HB.out hz (by omega) _ _ rfl rfl rfl rfl ?_; intro v1 w1 hO1 hB1 hG1 hA1; have HO1 := Lib.hid hO1; have HB1 := Lib.hid hB1; clear hO1 hB1 hG1 hA1)
      go_roundw
      case rel => exact ⟨k + 1, by omega, by go_num, by rw [HST.out]; exact HO1.out, HB1.out⟩
      case measure => simp [intOf]; omega
    · obtain rfl : k = n := by omega
      have HT := Lib.hid (show l.take k = l from List.take_of_length_le (by rw [hl.out]; exact Nat.le_refl _))
      rw [HT.out] at HO
      go_wp2
      go_ret
      exact ⟨_, rfl, HO.out, HB.out⟩
end Go.Proofs.Ytjbffahmjhbpjaa
/- The reference's device: there, act, Down, Blocks, Arm, New. -/
set_option linter.unusedVariables false
set_option linter.unusedSimpArgs false
set_option maxRecDepth 100000
namespace Go.Proofs.Ytjbffahmjhbpjaa
open Go.RowKit
section
variable {w0 w : World} {b g : Nat} {vp : Value} {Dp D : DS} {r : Nat} {T : List (Nat × Obj)}
theorem RfOk.cells (h : RfOk r D) (hS : St w0 w b g vp Dp (h.rows ++ T)) : w.cell? ⟨r, 0, none⟩ = some (.int .i64 D.n) ∧ w.cell? ⟨r, 1, none⟩ = some h.base ∧ w.cell? ⟨r, 2, none⟩ = some h.vl ∧ w.cell? ⟨r, 3, none⟩ = some h.vc ∧ w.cell? ⟨r, 4, none⟩ = some (.bool D.armed) ∧ w.cell? ⟨r, 5, none⟩ = some (.int .i64 h.left) ∧
    w.cell? ⟨r, 6, none⟩ = some (.bool D.down) ∧ w.cell? ⟨r, 7, none⟩ = some (.int .i64 D.rd) ∧ w.cell? ⟨r, 8, none⟩ = some (.int .i64 D.wr) ∧ w.cell? ⟨r, 9, none⟩ = some (.int .i64 D.fl) := by
  have h0 : w.heap[r]? = some (rfO D.n h.base h.vl h.vc D.armed h.left D.down D.rd D.wr D.fl) := hS.mem (by simp [RfOk.rows])
  have hc : ∀ j, w.cell? ⟨r, j, none⟩ = (#[.int .i64 D.n, h.base, h.vl, h.vc, .bool D.armed, .int .i64 h.left, .bool D.down, .int .i64 D.rd, .int .i64 D.wr, .int .i64 D.fl] : Array Value)[j]? := fun j => cell_of_row w r j _ _ _ h0
  exact ⟨hc 0, hc 1, hc 2, hc 3, hc 4, hc 5, hc 6, hc 7, hc 8, hc 9⟩
theorem RfOk.free (h : RfOk r D) (hS : St w0 w b g vp Dp (h.rows ++ T)) (j : Nat) : w.frozen? ⟨r, j, none⟩ = false := by
  have h0 : w.heap[r]? = some (rfO D.n h.base h.vl h.vc D.armed h.left D.down D.rd D.wr D.fl) := hS.mem (by simp [RfOk.rows])
  exact frozen_of_row w r j _ _ h0
/-- a cell of the struct is written: numbers only -/
theorem RfOk.set (h : RfOk r D) (hS : St w0 w b g vp Dp (h.rows ++ T)) (j : Nat) (u : Value) (D' : DS) (left' : Int) (hn : D'.n = D.n) (hM : D'.M = D.M) (hC : D'.C = D.C) (hl : D'.armed = true → left' = D'.left)
    (hst : (#[.int .i64 D.n, h.base, h.vl, h.vc, .bool D.armed, .int .i64 h.left, .bool D.down, .int .i64 D.rd, .int .i64 D.wr, .int .i64 D.fl] : Array Value).setIfInBounds j u = #[.int .i64 D.n, h.base, h.vl, h.vc, .bool D'.armed, .int .i64 left', .bool D'.down, .int .i64 D'.rd, .int .i64 D'.wr, .int .i64 D'.fl]) :
    ∃ h' : RfOk r D', (h'.L = h.L ∧ h'.C = h.C) ∧ St w0 (w.setCell ⟨r, j, none⟩ u) b g vp Dp (h'.rows ++ T) := by
  have h0 : w.heap[r]? = some (rfO D.n h.base h.vl h.vc D.armed h.left D.down D.rd D.wr D.fl) := hS.mem (by simp [RfOk.rows])
  have h1 : (w.setCell ⟨r, j, none⟩ u).heap[r]? = some (rfO D'.n h.base h.vl h.vc D'.armed left' D'.down D'.rd D'.wr D'.fl) := by
    rw [heap_setCell_same w r j _ _ u h0, hst, hn]; rfl
  have h2 := hS.store 0 j u (k := r) (o := rfO D.n h.base h.vl h.vc D.armed h.left D.down D.rd D.wr D.fl) rfl h1
  refine ⟨⟨h.L, h.C, h.vl, h.vc, h.base, h.M0, left', h.Ql, h.Qc, h.K, h.ql, h.qc, by rw [hn]; exact h.bs, by rw [hn]; exact h.lo, by rw [hn]; exact h.co, by rw [hM]; exact h.hM, by rw [hC]; exact h.hC, hl, by rw [hn]; exact h.sm⟩, ⟨rfl, rfl⟩, h2⟩
end
theorem rf_there {w0 w : World} {b g : Nat} {vp : Value} {Dp D : DS} {r : Nat} {T : List (Nat × Obj)} (num : Int) (h : RfOk r D) (hS : St w0 w b g vp Dp (h.rows ++ T)) :
    Calls Try.prog 50 #[.pointer (some ⟨r, 0, none⟩), .int .i64 num] w fun e w' => e = .returned (.bool (decide (0 ≤ num ∧ num < D.n))) ∧ w' = w := by
  have c0 := (h.cells hS).1
  clear h hS
  rcases (by omega : num < 0 ∨ (0 ≤ num ∧ num < (D.n : Int)) ∨ (0 ≤ num ∧ ¬ num < (D.n : Int))) with h1 | ⟨h1, h2⟩ | ⟨h1, h2⟩
  · rw [decide_eq_false (p := 0 ≤ num ∧ num < (D.n : Int)) (by omega)]
    have e1 : ¬ 0 ≤ num := by omega
    clear h1
    go_enter Try.func50, Try.ntmps50
    go_wp2
    go_ret
    exact ⟨rfl, rfl⟩
  · rw [decide_eq_true (p := 0 ≤ num ∧ num < (D.n : Int)) (by omega)]
    go_enter Try.func50, Try.ntmps50
    go_wp2
    go_ret
    exact ⟨by simp [h2], rfl⟩
  · rw [decide_eq_false (p := 0 ≤ num ∧ num < (D.n : Int)) (by omega)]
    go_enter Try.func50, Try.ntmps50
    go_wp2
    go_ret
    exact ⟨by simp [h2], rfl⟩
theorem rf_act {w0 w : World} {b g : Nat} {vp : Value} {Dp D : DS} {r : Nat} {T : List (Nat × Obj)} (h : RfOk r D) (hS : St w0 w b g vp Dp (h.rows ++ T)) (hl : D.left < 9223372036854775808) :
    Calls Try.prog 51 #[.pointer (some ⟨r, 0, none⟩)] w fun e w' => e = .returned (.bool (actD D).1) ∧ ∃ h' : RfOk r (actD D).2, (h'.L = h.L ∧ h'.C = h.C) ∧ St w0 w' b g vp Dp (h'.rows ++ T) := by
  obtain ⟨-, -, -, -, c4, c5, c6, -, -, -⟩ := h.cells hS
  have f5 := h.free hS 5
  have f6 := h.free hS 6
  have HE := Lib.hid (show ∃ h' : RfOk r D, (h'.L = h.L ∧ h'.C = h.C) ∧ St w0 w b g vp Dp (h'.rows ++ T) from ⟨h, ⟨rfl, rfl⟩, hS⟩)
  have HSET := Lib.hid (fun j u D' left' a1 a2 a3 a4 a5 => h.set hS j u D' left' a1 a2 a3 a4 a5)
  cases hd : D.down with
  | true =>
    rw [hd] at c6
    by_cases ha : D.armed = true ∧ D.left = 0
    · have HA := Lib.hid (show actD D = (false, D) by unfold actD; rw [if_pos ha, ← hd])
      rw [HA.out]
      clear hS hd ha
      go_enter Try.func51, Try.ntmps51
      go_wp2
      go_ret
      exact ⟨rfl, HE.out⟩
    · have HA := Lib.hid (show actD D = (false, D) by unfold actD; rw [if_neg ha, if_pos hd])
      rw [HA.out]
      clear hS hd ha
      go_enter Try.func51, Try.ntmps51
      go_wp2
      go_ret
      exact ⟨rfl, HE.out⟩
  | false =>
    rw [hd] at c6
    cases ha : D.armed with
    | false =>
      rw [ha] at c4
      have HA := Lib.hid (show actD D = (true, D) by unfold actD; rw [if_neg (by simp [ha]), if_neg (by simp [hd]), if_neg (by simp [ha])])
      rw [HA.out]
      clear hS hd ha
      go_enter Try.func51, Try.ntmps51
      go_wp2
      go_ret
      exact ⟨rfl, HE.out⟩
    | true =>
      rw [ha] at c4
      rw [h.hl ha] at c5
      by_cases h0 : D.left = 0
      · have e0 : ((D.left : Int) == 0) = true := by simp [h0]
        have HA := Lib.hid (show actD D = (false, { D with down := true }) by unfold actD; rw [if_pos ⟨ha, h0⟩])
        have HS := Lib.hid (HSET.out 6 (.bool true) { D with down := true } h.left rfl rfl rfl h.hl rfl)
        rw [HA.out]
        clear hS hd ha h0
        go_enter Try.func51, Try.ntmps51
        go_wp2
        go_ret
        exact ⟨rfl, HS.out⟩
      · have e0 : ((D.left : Int) == 0) = false := by simp [h0]
        have HA := Lib.hid (show actD D = (true, { D with left := D.left - 1 }) by unfold actD; rw [if_neg (by simp [h0]), if_neg (by simp [hd]), if_pos ha])
        have hw : IntKind.i64.wrap ((D.left : Int) - 1) = ((D.left - 1 : Nat) : Int) := by rw [IntWalk.i64_in _ (by omega)]; omega
        have HS := Lib.hid (HSET.out 5 (.int .i64 ((D.left - 1 : Nat) : Int)) { D with left := D.left - 1 } ((D.left - 1 : Nat) : Int) rfl rfl rfl (fun _ => rfl) rfl)
        rw [HA.out]
        clear hS hd ha h0
        go_enter Try.func51, Try.ntmps51
        go_wp2
        go_ret
        exact ⟨rfl, HS.out⟩
end Go.Proofs.Ytjbffahmjhbpjaa
/- The reference's device: Arm, Down, Blocks, Counts, New. -/
set_option linter.unusedVariables false
set_option linter.unusedSimpArgs false
set_option maxRecDepth 100000
namespace Go.Proofs.Ytjbffahmjhbpjaa
open Go.RowKit
section
variable {w0 w w' : World} {b g : Nat} {vp : Value} {Dp D : DS} {r : Nat} {T : List (Nat × Obj)}
theorem RfOk.heap (h : RfOk r D) (hS : St w0 w b g vp Dp (h.rows ++ T)) : w.heap[r]? = some (rfO D.n h.base h.vl h.vc D.armed h.left D.down D.rd D.wr D.fl) := hS.mem (by simp [RfOk.rows])
theorem RfOk.setW (h : RfOk r D) (hS : St w0 w b g vp Dp (h.rows ++ T)) (D' : DS) (left' : Int) (hn : D'.n = D.n) (hM : D'.M = D.M) (hC : D'.C = D.C) (hl : D'.armed = true → left' = D'.left) (hO : Only [r] w w')
    (h1 : w'.heap[r]? = some (rfO D'.n h.base h.vl h.vc D'.armed left' D'.down D'.rd D'.wr D'.fl)) : ∃ h' : RfOk r D', (h'.L = h.L ∧ h'.C = h.C) ∧ St w0 w' b g vp Dp (h'.rows ++ T) := by
  have h2 := hS.upd 0 (k := r) (o := rfO D.n h.base h.vl h.vc D.armed h.left D.down D.rd D.wr D.fl) rfl hO h1
  exact ⟨⟨h.L, h.C, h.vl, h.vc, h.base, h.M0, left', h.Ql, h.Qc, h.K, h.ql, h.qc, by rw [hn]; exact h.bs, by rw [hn]; exact h.lo, by rw [hn]; exact h.co, by rw [hM]; exact h.hM, by rw [hC]; exact h.hC, hl, by rw [hn]; exact h.sm⟩, ⟨rfl, rfl⟩, h2⟩
theorem rf_Down (h : RfOk r D) (hS : St w0 w b g vp Dp (h.rows ++ T)) :
    Calls Try.prog 56 #[.pointer (some ⟨r, 0, none⟩)] w fun e w' => e = .returned (.bool D.down) ∧ w' = w := by
  obtain ⟨-, -, -, -, -, -, c6, -, -, -⟩ := h.cells hS
  clear hS
  go_enter Try.func56, Try.ntmps56
  go_wp2
  go_ret
  exact ⟨rfl, rfl⟩
theorem rf_Blocks (h : RfOk r D) (hS : St w0 w b g vp Dp (h.rows ++ T)) :
    Calls Try.prog 58 #[.pointer (some ⟨r, 0, none⟩)] w fun e w' => e = .returned (.int .i64 D.n) ∧ w' = w := by
  obtain ⟨c0, -⟩ := h.cells hS
  clear hS
  go_enter Try.func58, Try.ntmps58
  go_wp2
  go_ret
  exact ⟨rfl, rfl⟩
theorem rf_Counts (h : RfOk r D) (hS : St w0 w b g vp Dp (h.rows ++ T)) :
    Calls Try.prog 57 #[.pointer (some ⟨r, 0, none⟩)] w fun e w' => e = .returned (cntV D) ∧ Below w.heap.size w w' := by
  obtain ⟨-, -, -, -, -, -, -, c7, c8, c9⟩ := h.cells hS
  have hb : r < w.heap.size := lt_of_block (h.heap hS)
  clear hS
  go_enter Try.func57, Try.ntmps57
  go_wp2
  (try simp only [Exit.inBlock, Exit.then])
  exact bodyPost_ret (results_cell_row rfl _ _ w.heap.size 57 _ (0, 0) _ rfl (heap_alloc_new w _) Try.underlying57 rfl sz_cnt) rfl ⟨rfl, (Below.refl _ w).alloc (Nat.le_refl _) _⟩
theorem rf_Arm (k : Int) (h : RfOk r D) (hS : St w0 w b g vp Dp (h.rows ++ T)) :
    Calls Try.prog 44 #[.pointer (some ⟨r, 0, none⟩), .int .i64 k] w fun e w' => e = .returned (.int .i64 (armD D k).1) ∧ ∃ h' : RfOk r (armD D k).2, (h'.L = h.L ∧ h'.C = h.C) ∧ St w0 w' b g vp Dp (h'.rows ++ T) := by
  obtain ⟨-, -, -, -, c4, c5, c6, -, -, -⟩ := h.cells hS
  have f4 := h.free hS 4
  have f5 := h.free hS 5
  have HE := Lib.hid (show ∃ h' : RfOk r D, (h'.L = h.L ∧ h'.C = h.C) ∧ St w0 w b g vp Dp (h'.rows ++ T) from ⟨h, ⟨rfl, rfl⟩, hS⟩)
  by_cases h0 : k < 0
  · have HA := Lib.hid (show armD D k = (1, D) from if_pos h0)
    rw [HA.out]
    clear hS
    go_enter Try.func44, Try.ntmps44
    go_wp2
    go_ret
    exact ⟨rfl, HE.out⟩
  · obtain ⟨m, rfl⟩ : ∃ m : Nat, k = m := ⟨k.toNat, by omega⟩
    cases hd : D.down with
    | true =>
      have HA := Lib.hid (show armD D m = (6, D) by unfold armD; rw [if_neg h0, if_pos hd])
      rw [HA.out]
      rw [hd] at c6
      clear hS hd
      go_enter Try.func44, Try.ntmps44
      go_wp2
      go_ret
      exact ⟨rfl, HE.out⟩
    | false =>
      have HA := Lib.hid (show armD D m = (0, { D with armed := true, left := m }) by unfold armD; rw [if_neg h0, if_neg (by simp [hd]), Int.toNat_natCast])
      have hh := h.heap hS
      have HW := Lib.hid (h.setW hS (w' := (w.setCell ⟨r, 4, none⟩ (.bool true)).setCell ⟨r, 5, none⟩ (.int .i64 m)) { D with armed := true, left := m } m rfl rfl rfl (fun _ => rfl) (((Only.refl [r] w).setCell (by simp) _).setCell (by simp) _) (by
        rw [heap_setCell_same _ r 5 _ _ _ (heap_setCell_same w r 4 _ _ (.bool true) hh)]; rfl))
      rw [HA.out]
      rw [hd] at c6
      clear hS hd hh
      go_enter Try.func44, Try.ntmps44
      go_wp2
      go_ret
      exact ⟨rfl, HW.out⟩
end
def newRf (n r : Nat) (h : 64 ≤ n ∧ n ≤ 4096) : RfOk r (newD n) :=
  ⟨[], [], .slice none 0 0, .slice none 0 0, .slice none 0 0, List.replicate (n * 512) 0, 0, [], [], [], QV.nil _ _, QV.nil _ _, ⟨List.length_replicate, .inl ⟨rfl, rfl⟩⟩, by simp, by simp, rfl, rfl, (fun h => by cases h), h⟩
theorem rf_New_ok (n : Nat) (h1 : 64 ≤ n) (h2 : n ≤ 4096) (w : World) :
    Calls Try.prog 41 #[.int .i64 n] w fun e w' => e = .returned (.tuple #[.pointer (some ⟨w.heap.size, 0, none⟩), .int .i64 0]) ∧ w' = w.alloc (rfO n (.slice none 0 0) (.slice none 0 0) (.slice none 0 0) false 0 false 0 0 0) := by
  have d1 : (64 : Int) ≤ (n : Int) := by omega
  have d2 : (n : Int) ≤ 4096 := by omega
  go_enter Try.func41, Try.ntmps41
  go_wp2
  go_ret2
  exact ⟨rfl, rfl⟩
theorem rf_New_bad (k : Int) (h : k < 64 ∨ 4096 < k) (w : World) :
    Calls Try.prog 41 #[.int .i64 k] w fun e w' => e = .returned (.tuple #[.pointer none, .int .i64 1]) ∧ w' = w := by
  by_cases h1 : k < 64
  · go_enter Try.func41, Try.ntmps41
    go_wp2
    go_ret2
    simp
  · have h2 : 4096 < k := by omega
    go_enter Try.func41, Try.ntmps41
    go_wp2
    go_ret2
    simp
end Go.Proofs.Ytjbffahmjhbpjaa
/- The reference's device: played, medium. -/
set_option linter.unusedVariables false
set_option linter.unusedSimpArgs false
set_option maxRecDepth 100000
namespace Go.Proofs.Ytjbffahmjhbpjaa
open Go.RowKit
theorem splice_step {α : Type} (M X : List α) (off j : Nat) (d : α) (h : off + X.length ≤ M.length) (hj : j < X.length) : (splice M off (X.take j)).set (off + j) (X.getD j d) = splice M off (X.take (j + 1)) := by
  have hl : ∀ m, (X.take m).length = min m X.length := fun m => List.length_take
  apply List.ext_getElem?
  intro i
  rw [List.getElem?_set, splice_get _ _ _ _ (by rw [hl]; omega), splice_get _ _ _ _ (by rw [hl]; omega), hl, hl]
  have hlen : (splice M off (X.take j)).length = M.length := splice_lenL _ _ _ (by rw [hl]; omega)
  by_cases h1 : off + j = i
  · subst h1
    rw [if_pos rfl, if_pos (by rw [hlen]; omega), if_pos (by omega), List.getElem?_take, if_pos (by omega), show off + j - off = j by omega, List.getD_eq_getElem?_getD, List.getElem?_eq_getElem hj]
    rfl
  · rw [if_neg h1]
    by_cases h2 : off ≤ i ∧ i < off + j
    · rw [if_pos (by omega), if_pos (by omega), List.getElem?_take, List.getElem?_take, if_pos (by omega), if_pos (by omega)]
    · rw [if_neg (by omega), if_neg (by omega)]
theorem splice_nil {α : Type} (M : List α) (off : Nat) : splice M off ([] : List α) = M := by simp [splice]
section
variable {w0 w : World} {b g : Nat} {vp : Value} {Dp : DS}
/-- the cells of a row of layings -/
theorem ly_cells {X : List (Nat × Obj)} {vl : Value} {L : List (Ly × Value)} {Ql : List (Nat × Obj)} (hS : St w0 w b g vp Dp X) (hq : QV 96 3 vl L.length (lyvs L) Ql) (hX : ∀ p ∈ Ql, p ∈ X) (i : Nat) (hi : i < L.length) :
    ∃ kl c, vl = .slice (some ⟨kl, 0, none⟩) L.length c ∧ w.cell? ⟨kl, i * 3, none⟩ = some (.int .i64 (L.getD i default).1.blk) ∧ w.cell? ⟨kl, i * 3 + 1, none⟩ = some (.int .i64 (L.getD i default).1.at_) ∧ w.cell? ⟨kl, i * 3 + 2, none⟩ = some (L.getD i default).2 := by
  have ho := hq.owns (fun p hp => hS.kp.all p (hX p hp))
  rcases hq with ⟨_, h0, _⟩ | ⟨kl, c, o, rfl, _, _⟩
  · omega
  · obtain ⟨g0, g1, g2⟩ := lyvs_get L i hi
    have h0 := World.ownsRow.cells ho (g := kl) rfl (i * 3) _ g0
    have h1 := World.ownsRow.cells ho (g := kl) rfl (i * 3 + 1) _ g1
    have h2 := World.ownsRow.cells ho (g := kl) rfl (i * 3 + 2) _ g2
    rw [Addr.add_mid, Nat.zero_add] at h0 h1 h2
    exact ⟨kl, c, rfl, h0, h1, h2⟩
theorem getD_mem {α : Type} (l : List α) (i : Nat) (d : α) (h : i < l.length) : l.getD i d ∈ l := by
  rw [List.getD_eq_getElem?_getD, List.getElem?_eq_getElem h]; exact List.getElem_mem h
theorem map_take_snoc {α β : Type} (f : α → β) (l : List α) (i : Nat) (d : α) (h : i < l.length) : (l.take (i + 1)).map f = (l.take i).map f ++ [f (l.getD i d)] := by
  rw [List.take_succ_eq_append_getElem h, List.getD_eq_getElem?_getD, List.getElem?_eq_getElem h, List.map_append]; rfl
set_option maxHeartbeats 1000000 in
theorem rf_played {X K Ql : List (Nat × Obj)} {kb cb N k : Nat} {ob : Obj} {cur : List UInt8} {vl : Value} {L : List (Ly × Value)} (hS : St w0 w b g vp Dp ((kb, ob) :: X)) (hr : RowB ob 512 cb cur) (hq : QV 96 3 vl L.length (lyvs L) Ql) (hX : ∀ p ∈ Ql, p ∈ X) (hK : ∀ p ∈ K, p ∈ X) (hl : ∀ p ∈ L, LyOk K N p) (hLn : L.length ≤ 100000000000) :
    Calls Try.prog 59 #[.slice (some ⟨kb, 0, none⟩) 512 cb, vl, .int .i64 k] w fun e w' => e = .returned (.slice (some ⟨kb, 0, none⟩) 512 cb) ∧ ∃ ob', RowB ob' 512 cb (plB k (L.map Prod.fst) cur) ∧ St w0 w' b g vp Dp ((kb, ob') :: X) := by
  obtain ⟨A, c, rfl⟩ := hq.slice
  have HS := Lib.hid hS
  have HR := Lib.hid hr
  have HQ := Lib.hid hq
  have HX := Lib.hid hX
  have HK := Lib.hid hK
  have HL := Lib.hid hl
  clear hS hr hq hX hK hl
  go_enter Try.func59, Try.ntmps59
  go_wp2_with fail
  go_loopw [7, 8] (fun x _ wx => ∃ i : Nat, ∃ o', i ≤ L.length ∧ x = .int .i64 i ∧ RowB o' 512 cb (plB k ((L.take i).map Prod.fst) cur) ∧ St w0 wx b g vp Dp ((kb, o') :: X)) (fun x _ _ => L.length - (intOf x).toNat)
  case atStart => exact ⟨0, ob, by omega, rfl, HR.out, HS.out⟩
  case round =>
    obtain ⟨i, o', hi, rfl, hr, hT⟩ := hrel
    have HR1 := Lib.hid hr
    have HT := Lib.hid hT
    clear hr hT
    by_cases hin : i < L.length
    · obtain ⟨kl, c9, hv, g0, g1, g2⟩ := ly_cells (HT.out.sub (List.sublist_cons_self _ _)) HQ.out HX.out i hin
      injection hv with e1 e2 e3
      subst e1 e3
      obtain ⟨p, hp⟩ : ∃ p, p = L.getD i default := ⟨_, rfl⟩
      rw [← hp] at g0 g1 g2
      have HP := Lib.hid (HL.out p (by rw [hp]; exact getD_mem L i default hin))
      have HST := Lib.hid (show plB k ((L.take (i + 1)).map Prod.fst) cur = if p.1.blk = k then splice (plB k ((L.take i).map Prod.fst) cur) p.1.at_ p.1.B else plB k ((L.take i).map Prod.fst) cur by rw [map_take_snoc _ L i default hin, plB_snoc, ← hp])
      have HG := Lib.hid (fun (W : World) (R9 : List (Nat × Obj)) (h9 : St w0 W b g vp Dp R9) (hx : ∀ q ∈ X, q ∈ R9) => ly_cells h9 HQ.out (fun q hq => hx q (HX.out q hq)) i hin)
      rw [← hp] at HG
      have hii : (0 : Int) ≤ (i : Int) ∧ (i : Int) < (L.length : Int) ∧ (L.length : Int) ≤ 100000000000 := by omega
      obtain ⟨⟨blk, at_, BB⟩, sv⟩ := p
      have hpf : at_ + BB.length ≤ 512 := HP.out.fit
      dsimp only at g0 g1 g2
      clear hp
      by_cases hbk : blk = k
      · subst hbk
        obtain ⟨cc, hcc⟩ : ∃ cc, cc = plB blk ((L.take i).map Prod.fst) cur := ⟨_, rfl⟩
        rw [← hcc] at HR1
        have HST2 := Lib.hid (show plB blk ((L.take (i + 1)).map Prod.fst) cur = splice cc at_ BB by rw [HST.out, if_pos rfl, ← hcc])
        have hcl : cc.length = 512 := HR1.out.len
        have HCL := Lib.hid hcl
        have hsv : ∃ Ab cb2, sv = .slice Ab BB.length cb2 := by
          rcases HP.out.row with ⟨h1, h2⟩ | ⟨k9, o9, c9, h1, _⟩
          · have h1' : sv = .slice none 0 0 := h1
            have h2' : BB = [] := h2
            rw [h1', h2']; exact ⟨none, 0, rfl⟩
          · exact ⟨_, c9, h1⟩
        obtain ⟨Ab, cb2, rfl⟩ := hsv
        clear hcc hcl
        go_wp2_with fail
        clear g0 g1 g2
        go_loopw [8] (fun x wx => ∃ j : Nat, ∃ o', j ≤ BB.length ∧ x = .int .i64 j ∧ RowB o' 512 cb (splice cc at_ (BB.take j)) ∧ St w0 wx b g vp Dp ((kb, o') :: X)) (fun x _ => BB.length - (intOf x).toNat)
        case atStart => exact ⟨0, o', by omega, rfl, by rw [List.take_zero, splice_nil]; exact HR1.out, HT.out⟩
        case round =>
          obtain ⟨j, o2, hj, rfl, hr2, hT2⟩ := hrel
          have HR2 := Lib.hid hr2
          have HT2 := Lib.hid hT2
          clear hr2 hT2
          obtain ⟨kl2, c2, hv2, g0, g1, g2⟩ := HG.out wr _ HT2.out (fun q hq => List.mem_cons_of_mem _ hq)
          injection hv2 with e1 e2 e3
          injection e1 with e1
          injection e1 with e1
          subst e1 e3
          (try dsimp only at g0 g1 g2)
          by_cases hjn : j < BB.length
          · rcases HP.out.row with ⟨h1, h2⟩ | ⟨kx, ox, cx, h1, hm, hrx⟩
            · have h2' : BB = [] := h2
              rw [h2'] at hjn
              exact absurd hjn (Nat.not_lt_zero j)
            · have h1' : Value.slice Ab BB.length cb2 = .slice (some ⟨kx, 0, none⟩) BB.length cx := h1
              injection h1' with e1 e2 e3
              subst e1 e3
              have hrx2 : RowB ox BB.length cb2 BB := hrx
              have HRX := Lib.hid hrx2
              have hmX := HK.out _ hm
              have g3 := hrx2.cell (HT2.out.mem (List.mem_cons_of_mem _ hmX)) j hjn
              obtain ⟨y, hy⟩ : ∃ y, y = BB.getD j 0 := ⟨_, rfl⟩
              rw [← hy] at g3
              have hcell := HT2.out.cell 0 rfl HR2.out (at_ + j) (by omega)
              have hfree := HR2.out.free (HT2.out.get 0 rfl) (at_ + j)
              generalize (splice cc at_ (BB.take j)).getD (at_ + j) 0 = y0 at hcell
              have hTd := HT2.out.drewN 1
              obtain ⟨o3, ho3, hr3⟩ := HR2.out.store (hTd.get 0 rfl) (at_ + j) y
              rw [hy, splice_step cc BB at_ j 0 (by rw [HCL.out]; omega) hjn] at hr3
              have hTs := hTd.store 0 (at_ + j) _ rfl ho3
              have HN := Lib.hid (And.intro hr3 hTs)
              obtain ⟨kl3, c3, hv3, t0, t1, t2⟩ := HG.out _ _ hTs (fun q hq => List.mem_cons_of_mem _ hq)
              injection hv3 with e1 e2 e3
              injection e1 with e1
              injection e1 with e1
              subst e1 e3
              have t3 := hrx2.cell (hTs.mem (List.mem_cons_of_mem _ hmX)) j hjn
              rw [← hy] at t3
              have hw1 : IntKind.i64.wrap ((at_ : Int) + (j : Int)) = (at_ : Int) + (j : Int) := IntWalk.i64_in _ (by omega)
              have hw2 : (0 : Int) ≤ (at_ : Int) + (j : Int) ∧ (at_ : Int) + (j : Int) < 512 ∧ (0 : Int) ≤ (j : Int) ∧ (j : Int) < (BB.length : Int) := by omega
              have hw3 : ((at_ : Int) + (j : Int)).toNat = at_ + j := by omega
              (try dsimp only at t0 t1 t2)
              clear ho3 hr3 hTs hTd hy hrx hrx2 h1 hm hmX
              go_wp2_with fail
              go_region_held3 (fun w' => w'.cell? ⟨kl, i * 3 + 1, none⟩ = some (.int .i64 (at_ : Int)) ∧ w'.cell? ⟨kl, i * 3 + 2, none⟩ = some (.slice (some ⟨kx, 0, none⟩) BB.length cb2) ∧ w'.cell? ⟨kx, j, none⟩ = some (.int .u8 (y.toNat : Int)))
                (first | exact ⟨t1, t2, t3⟩ | exact ⟨g1, g2, g3⟩) (fail)
              rename_i hHeld
              clear hHeld g0 g1 g2 g3 t0 t1 t2 t3 hw1 hw3
              go_wp2
              go_roundw
              case rel => exact ⟨j + 1, o3, by omega, by go_num, HN.out.1, HN.out.2⟩
              case measure => simp [intOf]; omega
          · obtain rfl : j = BB.length := by omega
            rw [List.take_length] at HR2
            go_wp2
            go_roundw
            case rel => exact ⟨i + 1, o2, by omega, by go_num, by rw [HST2.out]; exact HR2.out, HT2.out⟩
            case measure => simp [intOf]; omega
      · have hbn : ((blk : Int) != (k : Int)) = true := by simp; omega
        have HST2 := Lib.hid (show plB k ((L.take (i + 1)).map Prod.fst) cur = plB k ((L.take i).map Prod.fst) cur by rw [HST.out, if_neg hbk])
        clear hbk
        go_wp2
        go_roundw
        case rel => exact ⟨i + 1, o', by omega, by go_num, by rw [HST2.out]; exact HR1.out, HT.out⟩
        case measure => simp [intOf]; omega
    · obtain rfl : i = L.length := by omega
      rw [List.take_length] at HR1
      go_wp2
      go_ret
      exact ⟨rfl, o', HR1.out, HT.out⟩
end
end Go.Proofs.Ytjbffahmjhbpjaa
/- The reference's device: medium, Raw, Read. -/
set_option linter.unusedVariables false
set_option linter.unusedSimpArgs false
set_option maxRecDepth 100000
namespace Go.Proofs.Ytjbffahmjhbpjaa
open Go.RowKit
theorem lay_stepR (X M : List UInt8) (j : Nat) (hX : j < X.length) (hM : j < M.length) : (X.take j ++ M.drop j).set j (X.getD j 0) = X.take (j + 1) ++ M.drop (j + 1) := by
  rw [List.set_append_right _ _ (by rw [List.length_take]; omega), List.length_take, Nat.min_eq_left (by omega), Nat.sub_self, List.drop_eq_getElem_cons hM, List.set_cons_zero, take_snoc X j 0 hX, List.append_assoc]
  rfl
section
variable {w0 w : World} {b g : Nat} {vp : Value} {Dp D : DS} {r : Nat} {T : List (Nat × Obj)}
theorem LyOk.fits {K : List (Nat × Obj)} {N : Nat} {p : Ly × Value} (h : LyOk K N p) : LyFit N p.1 := ⟨h.blk, h.fit⟩
theorem RfOk.lfit (h : RfOk r D) : ∀ x ∈ h.L.map Prod.fst, LyFit D.n x := fun x hx => by
  obtain ⟨p, hp, rfl⟩ := List.mem_map.1 hx
  exact (h.lo p hp).fits
theorem RfOk.mlen (h : RfOk r D) : D.M.length = D.n * 512 := by rw [h.hM]; exact plays_len _ _ h.lfit h.bs.1
theorem RfOk.mblk (h : RfOk r D) (k : Nat) (hk : k < D.n) : blkM D.M k = plB k (h.L.map Prod.fst) (blkM h.M0 k) := by rw [h.hM]; exact plays_blk k hk _ _ h.lfit h.bs.1
theorem blkM_rep (N k : Nat) (h : k < N) : blkM (List.replicate (N * 512) 0) k = List.replicate 512 0 := by
  have := blk_end h
  unfold blkM
  rw [List.drop_replicate, List.take_replicate, Nat.min_eq_left (by omega)]
set_option maxHeartbeats 1000000 in
theorem rf_medium (k : Nat) (h : RfOk r D) (hS : St w0 w b g vp Dp (h.rows ++ T)) (hk : k < D.n) (hLn : h.L.length ≤ 100000000000) :
    Calls Try.prog 60 #[.pointer (some ⟨r, 0, none⟩), .int .i64 k] w fun e w' => ∃ j o, e = .returned (.slice (some ⟨j, 0, none⟩) 512 512) ∧ RowB o 512 512 (blkM D.M k) ∧ St w0 w' b g vp Dp ((j, o) :: (h.rows ++ T)) := by
  have hmk := mk512
  have hsm := h.sm
  have hkk : (0 : Int) ≤ (k : Int) ∧ (k : Int) < (D.n : Int) ∧ (D.n : Int) ≤ 4096 := by omega
  have hB0 : Below w.heap.size w (w.alloc (.cells (zc 512) 5)) := (Below.refl _ w).alloc (Nat.le_refl _) _
  have hO0 : Own (w.alloc (.cells (zc 512) 5)) w.heap.size (.slice (some ⟨w.heap.size, 0, none⟩) 512 512) 512 (List.replicate 512 0) := Own.row (Nat.le_refl _) (by simp) (by omega) (by rw [← zc_bv]; exact heap_alloc_new w _)
  obtain ⟨j0, o0, he, hj0, ho0, hr0⟩ := row512 (o := .cells #[] 0 (0, 0)) hO0 ⟨_, rfl⟩
  injection he with e1 e2 e3
  injection e1 with e1
  injection e1 with e1
  subst e1
  have HT0 := Lib.hid (hS.new hB0 (Nat.le_refl _) ho0)
  have HR0 := Lib.hid hr0
  have HMB := Lib.hid (h.mblk k hk)
  have HCL := Lib.hid (fun (W : World) (o : Obj) (q : Nat) (h9 : St w0 W b g vp Dp ((q, o) :: (h.rows ++ T))) => h.cells (T := T) (h9.sub (List.sublist_cons_self _ _)))
  have HPL := Lib.hid (fun (W : World) (o : Obj) (q : Nat) (cur : List UInt8) (h9 : St w0 W b g vp Dp ((q, o) :: (h.rows ++ T))) (hr9 : RowB o 512 512 cur) => rf_played (k := k) h9 hr9 h.ql (by intro p hp; simp [RfOk.rows, hp]) (K := h.K) (by intro p hp; simp [RfOk.rows, hp]) h.lo hLn)
  obtain ⟨-, c1, -⟩ := HCL.out _ _ _ HT0.out
  obtain ⟨q, hq⟩ : ∃ q, q = w.heap.size := ⟨_, rfl⟩
  rw [← hq] at HT0
  have HQ := Lib.hid hq
  rcases h.bs.2 with ⟨hb, hM0⟩ | ⟨kb, ob, cb, hb, hmb, hrb⟩
  · rw [hb] at c1
    have HPF := Lib.hid (HPL.out _ _ _ _ HT0.out HR0.out)
    rw [show List.replicate 512 0 = blkM h.M0 k by rw [hM0, blkM_rep D.n k hk], ← HMB.out] at HPF
    obtain ⟨-, -, c2, -⟩ := HCL.out _ _ _ HT0.out
    rw [hq] at HPF HT0
    clear hS hB0 hO0 ho0 hr0 hM0 hb hq
    go_enter Try.func60, Try.ntmps60
    go_wp2_with fail
    clear hmk
    go_loopw [6] (fun x wx => x = .int .i64 0 ∧ wx = w.alloc (.cells (zc 512) 5)) (fun x _ => 0)
    case atStart => exact ⟨rfl, rfl⟩
    case round =>
      obtain ⟨rfl, rfl⟩ := hrel
      go_wp2_with fail
      refine HPF.out.mono ?_
      rintro e w3 ⟨rfl, o3, hr3, hT3⟩
      have HE := Lib.hid (And.intro hr3 hT3)
      clear hr3 hT3
      go_wp2
      go_ret
      exact ⟨_, o3, rfl, HE.out.1, HE.out.2⟩
  · rw [hb] at c1
    have HRB := Lib.hid hrb
    have HMM := Lib.hid (show ∀ (o : Obj), (kb, ob) ∈ (q, o) :: (h.rows ++ T) from fun o => by simp [RfOk.rows, hmb])
    have HBL := Lib.hid (show (blkM h.M0 k).length = 512 from blkM_len _ _ (by rw [h.bs.1]; exact blk_end hk))
    have HBB := Lib.hid (show h.base = .slice (some ⟨kb, 0, none⟩) (D.n * 512) cb from hb)
    clear hS hB0 hO0 ho0 hr0 hb hmb hrb
    have HM0 := Lib.hid h.bs.1
    go_enter Try.func60, Try.ntmps60
    go_wp2_with fail
    rw [← hq]
    clear hmk hq c1
    go_loopw [6] (fun x wx => ∃ i : Nat, ∃ o', i ≤ 512 ∧ x = .int .i64 i ∧ RowB o' 512 512 ((blkM h.M0 k).take i ++ (List.replicate 512 0).drop i) ∧ St w0 wx b g vp Dp ((q, o') :: (h.rows ++ T))) (fun x _ => 512 - (intOf x).toNat)
    case atStart => exact ⟨0, o0, by omega, rfl, HR0.out, by rw [HQ.out] at HT0 ⊢; exact HT0.out⟩
    case round =>
      obtain ⟨i, o', hi, rfl, hr, hT⟩ := hrel
      have HR := Lib.hid hr
      have HT := Lib.hid hT
      obtain ⟨-, c1, c2, -⟩ := HCL.out _ _ _ hT
      rw [HBB.out] at c1
      have hw1 : IntKind.i64.wrap ((k : Int) * 512) = (k : Int) * 512 := IntWalk.i64_in _ (by omega)
      by_cases hin : i < 512
      · have g1 := hT.kp.all _ (HMM.out o')
        have g2 := HRB.out.cell g1 (k * 512 + i) (by have := blk_end hk; omega)
        obtain ⟨y, hy⟩ : ∃ y, y = h.M0.getD (k * 512 + i) 0 := ⟨_, rfl⟩
        rw [← hy] at g2
        have hcell := hT.cell 0 rfl hr i (by omega)
        have hfree := hr.free (hT.get 0 rfl) i
        generalize ((blkM h.M0 k).take i ++ (List.replicate 512 0).drop i).getD i 0 = y0 at hcell
        obtain ⟨o2, ho2, hr2⟩ := hr.store (hT.get 0 rfl) i y
        have hyX : y = (blkM h.M0 k).getD i 0 := by rw [hy, List.getD_eq_getElem?_getD, List.getD_eq_getElem?_getD, blkM_get _ _ _ hin]
        rw [hyX, lay_stepR _ _ i (by rw [HBL.out]; exact hin) (by simp; omega)] at hr2
        have HN := Lib.hid (And.intro hr2 (hT.store 0 i _ rfl ho2))
        have hw2 : IntKind.i64.wrap ((k : Int) * 512 + (i : Int)) = (k : Int) * 512 + (i : Int) := IntWalk.i64_in _ (by omega)
        have hw3 : (0 : Int) ≤ (k : Int) * 512 + (i : Int) ∧ (k : Int) * 512 + (i : Int) < (D.n : Int) * 512 ∧ (0 : Int) ≤ (i : Int) ∧ (i : Int) < 512 := by omega
        have hw4 : ((k : Int) * 512 + (i : Int)).toNat = k * 512 + i := by omega
        have hw5 : (0 : Int) < (D.n : Int) * 512 ∧ (((D.n * 512 : Nat) : Nat) : Int) = (D.n : Int) * 512 := by omega
        clear hr hT g1 ho2 hr2 hy hyX c2
        go_wp2
        go_roundw
        case rel => exact ⟨i + 1, o2, by omega, by go_num, HN.out.1, HN.out.2⟩
        case measure => simp [intOf]; omega
      · obtain rfl : i = 512 := by omega
        have hfull : (blkM h.M0 k).take 512 ++ (List.replicate 512 (0 : UInt8)).drop 512 = blkM h.M0 k := by
          rw [List.take_of_length_le (by rw [HBL.out]; exact Nat.le_refl _), List.drop_eq_nil_of_le (by simp), List.append_nil]
        rw [hfull] at HR
        have HPF := Lib.hid (HPL.out _ _ _ _ hT HR.out)
        rw [← HMB.out] at HPF
        clear hr hT hfull
        go_wp2_with fail
        refine HPF.out.mono ?_
        rintro e w3 ⟨rfl, o3, hr3, hT3⟩
        have HE := Lib.hid (And.intro hr3 hT3)
        clear hr3 hT3
        go_wp2
        go_ret
        exact ⟨_, o3, rfl, HE.out.1, HE.out.2⟩
end
end Go.Proofs.Ytjbffahmjhbpjaa
/- The reference's device: Raw, Read. -/
set_option linter.unusedVariables false
set_option linter.unusedSimpArgs false
set_option maxRecDepth 100000
namespace Go.Proofs.Ytjbffahmjhbpjaa
open Go.RowKit
theorem splice_all (M X : List UInt8) (h : X.length = M.length) : splice M 0 X = X := by
  simp [splice, h]
theorem plB_cache (k : Nat) : ∀ (C : List (Ly × Value)) (cur : List UInt8), cur.length = 512 → (∀ p ∈ C, p.1.at_ = 0 ∧ p.1.B.length = 512) → plB k (C.map Prod.fst) cur = rdC (C.map fun p => lyPd p.1) k cur
  | [], cur, _, _ => rfl
  | p :: r, cur, hl, hc => by
    have hp := hc p (by simp)
    show plB k (r.map Prod.fst) (if p.1.blk = k then splice cur p.1.at_ p.1.B else cur) = rdC (r.map fun p => lyPd p.1) k (if p.1.blk = k then p.1.B else cur)
    rw [hp.1]
    by_cases he : p.1.blk = k
    · rw [if_pos he, if_pos he, splice_all _ _ (by rw [hp.2, hl])]
      exact plB_cache k r _ hp.2 (fun q hq => hc q (by simp [hq]))
    · rw [if_neg he, if_neg he]
      exact plB_cache k r _ hl (fun q hq => hc q (by simp [hq]))
section
variable {w0 w : World} {b g : Nat} {vp : Value} {Dp D : DS} {r : Nat} {T : List (Nat × Obj)}
theorem rf_Raw_bad (num : Int) (h : RfOk r D) (hS : St w0 w b g vp Dp (h.rows ++ T)) (hn : ¬ (0 ≤ num ∧ num < (D.n : Int))) :
    Calls Try.prog 54 #[.pointer (some ⟨r, 0, none⟩), .int .i64 num] w fun e w' => e = .returned (.tuple #[.slice none 0 0, .int .i64 60]) ∧ w' = w := by
  have HH := Lib.hid (rf_there num h hS)
  rw [decide_eq_false hn] at HH
  clear hS hn
  go_enter Try.func54, Try.ntmps54
  go_wp2_with fail
  refine HH.out.mono ?_
  rintro e w1 ⟨rfl, rfl⟩
  go_wp2
  go_ret2
  exact ⟨rfl, rfl⟩
theorem rf_Raw (k : Nat) (h : RfOk r D) (hS : St w0 w b g vp Dp (h.rows ++ T)) (hk : k < D.n) (hLn : h.L.length ≤ 100000000000) :
    Calls Try.prog 54 #[.pointer (some ⟨r, 0, none⟩), .int .i64 k] w fun e w' => ∃ j o, e = .returned (.tuple #[.slice (some ⟨j, 0, none⟩) 512 512, .int .i64 0]) ∧ RowB o 512 512 (blkM D.M k) ∧ St w0 w' b g vp Dp ((j, o) :: (h.rows ++ T)) := by
  have HH := Lib.hid (rf_there k h hS)
  rw [decide_eq_true (show 0 ≤ (k : Int) ∧ (k : Int) < (D.n : Int) by omega)] at HH
  have HM := Lib.hid (rf_medium k h hS hk hLn)
  clear hS hk
  go_enter Try.func54, Try.ntmps54
  go_wp2_with fail
  refine HH.out.mono ?_
  rintro e w1 ⟨rfl, rfl⟩
  go_wp2_with fail
  refine HM.out.mono ?_
  rintro e w2 ⟨j, o, rfl, hr, hT⟩
  have HE := Lib.hid (And.intro hr hT)
  clear hr hT
  go_wp2
  go_ret2
  exact ⟨_, o, rfl, HE.out.1, HE.out.2⟩
theorem rf_Read_bad (num : Int) (h : RfOk r D) (hS : St w0 w b g vp Dp (h.rows ++ T)) (hn : ¬ (0 ≤ num ∧ num < (D.n : Int))) :
    Calls Try.prog 53 #[.pointer (some ⟨r, 0, none⟩), .int .i64 num] w fun e w' => e = .returned (.tuple #[.slice none 0 0, .int .i64 60]) ∧ w' = w := by
  have HH := Lib.hid (rf_there num h hS)
  rw [decide_eq_false hn] at HH
  clear hS hn
  go_enter Try.func53, Try.ntmps53
  go_wp2_with fail
  refine HH.out.mono ?_
  rintro e w1 ⟨rfl, rfl⟩
  go_wp2
  go_ret2
  exact ⟨rfl, rfl⟩
theorem rf_Read_down (num : Int) (h : RfOk r D) (hS : St w0 w b g vp Dp (h.rows ++ T)) (hn : 0 ≤ num ∧ num < (D.n : Int)) (hd : D.down = true) :
    Calls Try.prog 53 #[.pointer (some ⟨r, 0, none⟩), .int .i64 num] w fun e w' => e = .returned (.tuple #[.slice none 0 0, .int .i64 6]) ∧ w' = w := by
  have HH := Lib.hid (rf_there num h hS)
  rw [decide_eq_true hn] at HH
  obtain ⟨-, -, -, -, -, -, c6, -, -, -⟩ := h.cells hS
  rw [hd] at c6
  clear hS hn hd
  go_enter Try.func53, Try.ntmps53
  go_wp2_with fail
  refine HH.out.mono ?_
  rintro e w1 ⟨rfl, rfl⟩
  go_wp2
  go_ret2
  exact ⟨rfl, rfl⟩
set_option maxHeartbeats 1000000 in
theorem rf_Read (k : Nat) (h : RfOk r D) (hS : St w0 w b g vp Dp (h.rows ++ T)) (hk : k < D.n) (hd : D.down = false) (hrd : D.rd < 9223372036854775807) (hLn : h.L.length ≤ 100000000000) (hCn : h.C.length ≤ 100000000000) :
    Calls Try.prog 53 #[.pointer (some ⟨r, 0, none⟩), .int .i64 k] w fun e w' => ∃ j o, e = .returned (.tuple #[.slice (some ⟨j, 0, none⟩) 512 512, .int .i64 0]) ∧ RowB o 512 512 (rdB D k) ∧ ∃ h' : RfOk r { D with rd := D.rd + 1 }, h'.L.length = h.L.length ∧ St w0 w' b g vp Dp ((j, o) :: (h'.rows ++ T)) := by
  have HH := Lib.hid (rf_there k h hS)
  rw [decide_eq_true (show 0 ≤ (k : Int) ∧ (k : Int) < (D.n : Int) by omega)] at HH
  obtain ⟨-, -, -, -, -, -, c6, c7, -, -⟩ := h.cells hS
  rw [hd] at c6
  have f7 := h.free hS 7
  have hh := h.heap hS
  let h' : RfOk r { D with rd := D.rd + 1 } := ⟨h.L, h.C, h.vl, h.vc, h.base, h.M0, h.left, h.Ql, h.Qc, h.K, h.ql, h.qc, h.bs, h.lo, h.co, h.hM, h.hC, h.hl, h.sm⟩
  have hT2 : St w0 (w.setCell ⟨r, 7, none⟩ (.int .i64 ((D.rd : Int) + 1))) b g vp Dp (h'.rows ++ T) := by
    have h2 := hS.upd 0 (k := r) (o := rfO D.n h.base h.vl h.vc D.armed h.left D.down D.rd D.wr D.fl) rfl ((Only.refl [r] w).setCell (by simp) (.int .i64 ((D.rd : Int) + 1))) (heap_setCell_same w r 7 _ _ _ hh)
    exact h2
  obtain ⟨W, hW⟩ : ∃ W, W = w.setCell ⟨r, 7, none⟩ (.int .i64 ((D.rd : Int) + 1)) := ⟨_, rfl⟩
  rw [← hW] at hT2
  have HT2 := Lib.hid hT2
  have HW := Lib.hid hW
  have hw7 : (0 : Int) ≤ (D.rd : Int) ∧ (D.rd : Int) < 9223372036854775807 := by omega
  have HM := Lib.hid (rf_medium k h' (hT2.drewN 1) hk hLn)
  have HCL := Lib.hid (fun (W9 : World) (R9 : List (Nat × Obj)) (h9 : St w0 W9 b g vp Dp R9) (hs : (h'.rows ++ T).Sublist R9) => (h'.cells (T := T) (h9.sub hs)).2.2.2.1)
  have d3 := HCL.out _ _ hT2 (List.Sublist.refl _)
  have HPL := Lib.hid (fun (W : World) (o : Obj) (q : Nat) (cur : List UInt8) (h9 : St w0 W b g vp Dp ((q, o) :: (h'.rows ++ T))) (hr9 : RowB o 512 512 cur) => rf_played (k := k) h9 hr9 h'.qc (by intro p hp; simp [RfOk.rows, hp]) (K := h'.K) (by intro p hp; simp [RfOk.rows, hp]) (fun p hp => (h'.co p hp).1) hCn)
  have HRD := Lib.hid (show plB k (h.C.map Prod.fst) (blkM D.M k) = rdB D k from by
    rw [plB_cache k h.C _ (blkM_len _ _ (by rw [h.mlen]; exact blk_end hk)) (fun p hp => (h.co p hp).2), rdB, h.hC])
  have HEX := Lib.hid (show ∀ (j : Nat) (o : Obj) (W9 : World), RowB o 512 512 (plB k (h'.C.map Prod.fst) (blkM D.M k)) → St w0 W9 b g vp Dp ((j, o) :: (h'.rows ++ T)) → RowB o 512 512 (rdB D k) ∧ ∃ h' : RfOk r { D with rd := D.rd + 1 }, h'.L.length = h.L.length ∧ St w0 W9 b g vp Dp ((j, o) :: (h'.rows ++ T)) from fun j o W9 h1 h2 => ⟨by rw [← HRD.out]; exact h1, h', rfl, h2⟩)
  have hvc : h'.vc = h.vc := rfl
  clear_value h'
  clear hS hk hd hh hT2 hvc
  go_enter Try.func53, Try.ntmps53
  go_wp2_with fail
  refine HH.out.mono ?_
  rintro e w1 ⟨rfl, rfl⟩
  rw [hW] at d3
  go_wp2_with fail
  rw [← hW]
  rw [← hW] at d3
  clear hW c6 c7 f7
  go_region_held3 (fun w' => w'.cell? ⟨r, 3, none⟩ = some h'.vc)
    (first | exact d5 | exact d4 | exact d3)
    (first | (go_at_call 60; refine HM.out.mono ?_; rintro e w4 ⟨j4, o4, rfl, hr4, hT4⟩; have HR4 := Lib.hid hr4; have HT4 := Lib.hid hT4; have d4 := HCL.out _ _ hT4 (List.sublist_cons_self _ _); clear hr4 hT4)
           | (go_at_call 59; refine (HPL.out _ _ _ _ HT4.out HR4.out).mono ?_; rintro e w5 ⟨rfl, o5, hr5, hT5⟩; have HE5 := Lib.hid (HEX.out _ _ _ hr5 hT5); have d5 := HCL.out _ _ hT5 (List.sublist_cons_self _ _); clear hr5 hT5))
  rename_i hHeld
  clear hHeld d3 d4 d5
  go_wp2
  go_ret2
  exact ⟨_, _, rfl, HE5.out.1, HE5.out.2⟩
end
end Go.Proofs.Ytjbffahmjhbpjaa
/- The reference's device: a laying more, in the cache or on the medium. -/
set_option linter.unusedVariables false
set_option linter.unusedSimpArgs false
set_option maxRecDepth 100000
namespace Go.Proofs.Ytjbffahmjhbpjaa
open Go.RowKit
theorem info_ly : (Try.prog.info? 96).map (fun i => (i.zero, i.size, i.bytes)) = some (some (.agg #[.int .i64 0, .int .i64 0, .slice none 0 0]), 3, 40) := by kernel_rfl
section
variable {ops : Array Oper} {o : Oper} {a : Act} {Q' : Exit → Act → World → Prop}
/-- append(v, e), one element, as a step of a region that draws: behind its box -/
theorem step_appQ {w0 W : World} {b g : Nat} {vc : Value} {D : DS} {tS t : TypeId} {i0 : TypeInfo} {z : Value} {sz bytes : Nat} {E : Prop} {Kp' : Act → World → Prop} (ht : Try.prog.underlying tS = some (.slice t)) (hi : Try.prog.info? t = some i0) (hz0 : i0.zero = some z) (hz1 : i0.size = sz) (hz2 : i0.bytes = bytes) (hzs : z.cells.size = sz) (hsz : 0 < sz)
    {v : Value} {n : Nat} {vs : List Value} {P Q T : List (Nat × Obj)} (hS : St w0 W b g vc D (P ++ (Q ++ T))) (hQ : QV t sz v n vs Q) (news : List Value) (hnl : news.length = sz) (h1 : ∀ u ∈ news, u.oneCell' = true) (hlim : (n + 1) * bytes ≤ 140737488355328) (hmax : n + 1 ≤ maxLen)
    (B : Nat) (hB : W.heap[B]? = some (.cells news.toArray t (0, 0)))
    (s x : Operand) (hgd : o.guard = none) (ho : o.op = .call { callee := .builtin .append, args := #[s, x], argTypes := #[tS, tS] }) (hs : a.eval s = v) (hx : a.eval x = .slice (some ⟨B, 0, none⟩) 1 1)
    (h : ∀ v1 w1 Q1, QV t sz v1 (n + 1) (vs ++ news) Q1 → St w0 w1 b g vc D (P ++ (Q1 ++ T)) → Kp' (a.put o.dst v1) w1) :
    if Region.wanted o (yielded ops a.tmps) = true then Oper.wp Try.prog o a W Kp' Q' else E := by
  have hw : Region.wanted o (yielded ops a.tmps) = true := by simp [Region.wanted, hgd]
  rw [if_pos hw]
  obtain ⟨v1, w1, hr, h3, h4, _, h5⟩ := run_append_own_at (P := Try.prog) W 0 tS o.type t i0 z sz bytes ht hi hz0 hz1 hz2 hzs hsz v n vs (hQ.owns (fun p hp => hS.kp.all p (by simp [hp]))) ⟨B, 0, none⟩ 1 1 news (by omega) (fun j u hu => by
    rw [Addr.add_mid, Nat.zero_add, cell_of_row _ _ _ _ _ _ hB]
    simpa using hu) h1 hmax hlim (Nat.zero_le _)
  obtain ⟨Q1, hq, hSt⟩ := hS.appQ hQ h3 h4 h5
  unfold Oper.wp execOp
  simp only [ho, resolve, invoke, builtin, Sem.run_bind, Sem.run_pure, Result.andThen_ok, List.map_toArray, List.map_cons, List.map_nil, hs, hx, hr]
  exact h v1 w1 Q1 hq hSt
end
/-- one alone may come up: what follows it is a letter, kept from the walk's simp -/
theorem wpAnyZ.oneK {P : Program} {md : Region.Mode} {ops : Array Oper} {Q : Exit → Act → World → Prop} {R T : World → Prop} {z i : Nat} {oi : Oper} {f : Nat} {l : Array Bool} {a : Act} {w : World} {E : Prop} (hr : Region.ready md ops l = [i]) (hi : ops[i]? = some oi) (hw : Region.wanted oi (yielded ops a.tmps) = true)
    (h : ∀ K : Act → World → Prop, Hid (∀ a' w', ((R w' ∧ ((l.setIfInBounds i true).getD z true = false → T w')) ∧ wpAnyZ P md ops Q R T z f (l.setIfInBounds i true) a' w') → K a' w') → if Region.wanted oi (yielded ops a.tmps) = true then Oper.wp P oi a w K Q else E) : wpAnyZ P md ops Q R T z (f + 1) l a w :=
  wpAnyZ.one (E := E) hr hi hw (h _ (Lib.hid fun _ _ h => h))
/-- bytes just made, as a laying's -/
theorem Own.ly {w : World} {base n : Nat} {v : Value} {l : List UInt8} (h : Own w base v n l) : (v = .slice none 0 0 ∧ l = []) ∨ ∃ k c o, v = .slice (some ⟨k, 0, none⟩) n c ∧ base ≤ k ∧ w.heap[k]? = some o ∧ RowB o n c l := by
  rcases h.2 with ⟨h1, h0⟩ | ⟨g, cap, cur, h1, hb, hh, h2, h3, h4, h5⟩
  · exact .inl ⟨h1, List.eq_nil_of_length_eq_zero (by rw [h.len, h0])⟩
  · exact .inr ⟨g, cap, _, h1, hb, hh, cur, rfl, by rw [bv_length, h.len], h2, h3, by omega, by rwa [Nat.mul_one] at h5⟩
section
variable {w0 w w' : World} {b g : Nat} {vp : Value} {Dp D : DS} {r : Nat} {T : List (Nat × Obj)}
/-- more rows for bytes -/
def RfOk.addK (h : RfOk r D) (Kn : List (Nat × Obj)) : RfOk r D :=
  ⟨h.L, h.C, h.vl, h.vc, h.base, h.M0, h.left, h.Ql, h.Qc, Kn ++ h.K, h.ql, h.qc,
    ⟨h.bs.1, by
      rcases h.bs.2 with h1 | ⟨k, o, c, h1, h2, h3⟩
      · exact .inl h1
      · exact .inr ⟨k, o, c, h1, List.mem_append_right _ h2, h3⟩⟩,
    fun p hp => (h.lo p hp).mono (fun q hq => List.mem_append_right _ hq), fun p hp => ⟨((h.co p hp).1).mono (fun q hq => List.mem_append_right _ hq), (h.co p hp).2⟩, h.hM, h.hC, h.hl, h.sm⟩
theorem RfOk.addK_rows (h : RfOk r D) (k : Nat) (o : Obj) (hS : St w0 w b g vp Dp ((k, o) :: (h.rows ++ T))) : St w0 w b g vp Dp ((h.addK [(k, o)]).rows ++ T) := by
  refine hS.perm ?_
  show ((k, o) :: ((r, rfO D.n h.base h.vl h.vc D.armed h.left D.down D.rd D.wr D.fl) :: (h.Ql ++ (h.Qc ++ h.K)) ++ T)).Perm (((r, rfO D.n h.base h.vl h.vc D.armed h.left D.down D.rd D.wr D.fl) :: (h.Ql ++ (h.Qc ++ ([(k, o)] ++ h.K)))) ++ T)
  have e1 : ((r, rfO D.n h.base h.vl h.vc D.armed h.left D.down D.rd D.wr D.fl) :: (h.Ql ++ (h.Qc ++ h.K)) ++ T) = ((r, rfO D.n h.base h.vl h.vc D.armed h.left D.down D.rd D.wr D.fl) :: (h.Ql ++ h.Qc)) ++ (h.K ++ T) := by simp [List.append_assoc]
  have e2 : (((r, rfO D.n h.base h.vl h.vc D.armed h.left D.down D.rd D.wr D.fl) :: (h.Ql ++ (h.Qc ++ ([(k, o)] ++ h.K)))) ++ T) = ((r, rfO D.n h.base h.vl h.vc D.armed h.left D.down D.rd D.wr D.fl) :: (h.Ql ++ h.Qc)) ++ ((k, o) :: (h.K ++ T)) := by simp [List.append_assoc]
  rw [e1, e2]
  exact List.perm_middle.symm
/-- bytes just copied: the device, with them among its rows; the bytes as a laying's at any place -/
theorem RfOk.copied (h : RfOk r D) (hS : St w0 w b g vp Dp (h.rows ++ T)) (hb : Below w.heap.size w w') {u : Value} {n : Nat} {l : List UInt8} (hO : Own w' w.heap.size u n l) :
    ∃ h' : RfOk r D, h'.L = h.L ∧ h'.C = h.C ∧ h'.vl = h.vl ∧ h'.vc = h.vc ∧ St w0 w' b g vp Dp (h'.rows ++ T) ∧ ∀ blk at_, blk < D.n → at_ + l.length ≤ 512 → LyOk h'.K D.n (⟨blk, at_, l⟩, u) := by
  have hl := hO.len
  rcases hO.ly with ⟨rfl, rfl⟩ | ⟨k, c, o, rfl, hk, ho, hr⟩
  · exact ⟨h, rfl, rfl, rfl, rfl, hS.below hb, fun blk at_ h1 h2 => ⟨h1, h2, .inl ⟨rfl, rfl⟩⟩⟩
  · refine ⟨h.addK [(k, o)], rfl, rfl, rfl, rfl, h.addK_rows k o (hS.new hb hk ho), fun blk at_ h1 h2 => ⟨h1, h2, .inr ⟨k, o, c, ?_, by simp [RfOk.addK], ?_⟩⟩⟩
    · show Value.slice (some ⟨k, 0, none⟩) n c = .slice (some ⟨k, 0, none⟩) l.length c
      rw [hl]
    · show RowB o l.length c l
      rw [hl]; exact hr
/-- behind the append and the store: one more in the cache -/
theorem RfOk.pushC (h : RfOk r D) {v1 : Value} {Q1 : List (Nat × Obj)} (p : Ly × Value) (hp : LyOk h.K D.n p) (h0 : p.1.at_ = 0) (h5 : p.1.B.length = 512) (hq : QV 96 3 v1 (h.C.length + 1) (lyvs h.C ++ [.int .i64 p.1.blk, .int .i64 p.1.at_, p.2]) Q1)
    (hS : St w0 w b g vp Dp (((r, rfO D.n h.base h.vl h.vc D.armed h.left D.down D.rd D.wr D.fl) :: h.Ql) ++ (Q1 ++ (h.K ++ T)))) :
    ∃ h' : RfOk r { D with C := D.C ++ [lyPd p.1] }, h'.L = h.L ∧ h'.C = h.C ++ [p] ∧ St w0 (w.setCell ⟨r, 3, none⟩ v1) b g vp Dp (h'.rows ++ T) := by
  have hh : w.heap[r]? = some (rfO D.n h.base h.vl h.vc D.armed h.left D.down D.rd D.wr D.fl) := hS.mem (by simp)
  have h2 := hS.upd 0 (k := r) (o := rfO D.n h.base h.vl h.vc D.armed h.left D.down D.rd D.wr D.fl) rfl ((Only.refl [r] w).setCell (by simp) v1) (heap_setCell_same w r 3 _ _ v1 hh)
  refine ⟨⟨h.L, h.C ++ [p], h.vl, v1, h.base, h.M0, h.left, h.Ql, Q1, h.K, h.ql, by rw [List.length_append, lyvs_snoc]; exact hq, h.bs, h.lo, fun q hq' => ?_, h.hM, by show D.C ++ _ = _; rw [h.hC]; simp, h.hl, h.sm⟩, rfl, rfl, ?_⟩
  · rcases List.mem_append.1 hq' with hq' | hq'
    · exact h.co q hq'
    · rw [List.mem_singleton.1 hq']; exact ⟨hp, h0, h5⟩
  · have e : (((r, rfO D.n h.base h.vl v1 D.armed h.left D.down D.rd D.wr D.fl) :: (h.Ql ++ (Q1 ++ h.K))) ++ T) = (((r, rfO D.n h.base h.vl h.vc D.armed h.left D.down D.rd D.wr D.fl) :: h.Ql) ++ (Q1 ++ (h.K ++ T))).set 0 (r, rfO D.n h.base h.vl v1 D.armed h.left D.down D.rd D.wr D.fl) := by simp [List.append_assoc]
    show St w0 (w.setCell ⟨r, 3, none⟩ v1) b g vp Dp (((r, rfO D.n h.base h.vl v1 D.armed h.left D.down D.rd D.wr D.fl) :: (h.Ql ++ (Q1 ++ h.K))) ++ T)
    rw [e]
    exact h2
/-- .. on the medium -/
theorem RfOk.pushL (h : RfOk r D) {v1 : Value} {Q1 : List (Nat × Obj)} (p : Ly × Value) (hp : LyOk h.K D.n p) (hq : QV 96 3 v1 (h.L.length + 1) (lyvs h.L ++ [.int .i64 p.1.blk, .int .i64 p.1.at_, p.2]) Q1)
    (hS : St w0 w b g vp Dp ([(r, rfO D.n h.base h.vl h.vc D.armed h.left D.down D.rd D.wr D.fl)] ++ (Q1 ++ (h.Qc ++ (h.K ++ T))))) :
    ∃ h' : RfOk r { D with M := splice D.M (p.1.blk * 512 + p.1.at_) p.1.B }, h'.L = h.L ++ [p] ∧ h'.C = h.C ∧ St w0 (w.setCell ⟨r, 2, none⟩ v1) b g vp Dp (h'.rows ++ T) := by
  have hh : w.heap[r]? = some (rfO D.n h.base h.vl h.vc D.armed h.left D.down D.rd D.wr D.fl) := hS.mem (by simp)
  have h2 := hS.upd 0 (k := r) (o := rfO D.n h.base h.vl h.vc D.armed h.left D.down D.rd D.wr D.fl) rfl ((Only.refl [r] w).setCell (by simp) v1) (heap_setCell_same w r 2 _ _ v1 hh)
  refine ⟨⟨h.L ++ [p], h.C, v1, h.vc, h.base, h.M0, h.left, Q1, h.Qc, h.K, by rw [List.length_append, lyvs_snoc]; exact hq, h.qc, h.bs, fun q hq' => ?_, h.co, by show splice D.M _ _ = _; rw [List.map_append, h.hM]; exact (plays_snoc _ _ _).symm, h.hC, h.hl, h.sm⟩, rfl, rfl, ?_⟩
  · rcases List.mem_append.1 hq' with hq' | hq'
    · exact h.lo q hq'
    · rw [List.mem_singleton.1 hq']; exact hp
  · have e : (((r, rfO D.n h.base v1 h.vc D.armed h.left D.down D.rd D.wr D.fl) :: (Q1 ++ (h.Qc ++ h.K))) ++ T) = ([(r, rfO D.n h.base h.vl h.vc D.armed h.left D.down D.rd D.wr D.fl)] ++ (Q1 ++ (h.Qc ++ (h.K ++ T)))).set 0 (r, rfO D.n h.base v1 h.vc D.armed h.left D.down D.rd D.wr D.fl) := by simp [List.append_assoc]
    show St w0 (w.setCell ⟨r, 2, none⟩ v1) b g vp Dp (((r, rfO D.n h.base v1 h.vc D.armed h.left D.down D.rd D.wr D.fl) :: (Q1 ++ (h.Qc ++ h.K))) ++ T)
    rw [e]
    exact h2
end
end Go.Proofs.Ytjbffahmjhbpjaa
/- The reference's device: Write, Edit. -/
set_option linter.unusedVariables false
set_option linter.unusedSimpArgs false
set_option maxRecDepth 100000
namespace Go.Proofs.Ytjbffahmjhbpjaa
open Go.RowKit
section
variable {w0 w : World} {b g : Nat} {vp : Value} {Dp D : DS} {r : Nat} {T : List (Nat × Obj)}
set_option maxHeartbeats 2000000 in
theorem rf_Write (num : Int) (A : Option Addr) (m c : Nat) (L : List UInt8) (h : RfOk r D) (hS : St w0 w b g vp Dp (h.rows ++ T)) (hr : ∀ W : World, Below w0.heap.size w0 W → (∀ p ∈ T, W.heap[p.1]? = some p.2) → Rd W A m c L) (hl : D.left < 9223372036854775808) (hCn : h.C.length ≤ 100000000) (hwr : D.wr < 9223372036854775807) :
    Calls Try.prog 42 #[.pointer (some ⟨r, 0, none⟩), .int .i64 num, .slice A m c] w fun e w' => e = .returned (.int .i64 (wrD D num L).1) ∧ ∃ h' : RfOk r (wrD D num L).2, h'.L.length = h.L.length ∧ h'.C.length ≤ h.C.length + 1 ∧ St w0 w' b g vp Dp (h'.rows ++ T) := by
  obtain ⟨ily, hily, hzz⟩ := Option.map_eq_some_iff.1 info_ly
  simp only [Prod.mk.injEq] at hzz
  obtain ⟨sz0, sz1, sz2⟩ := hzz
  have HILY := Lib.hid (And.intro hily (And.intro sz0 (And.intro sz1 sz2)))
  clear hily sz0 sz1 sz2
  have HH := Lib.hid (rf_there num h hS)
  have HA := Lib.hid (rf_act h hS hl)
  have HS := Lib.hid hS
  have HR := Lib.hid hr
  have hR0 := hr w hS.bl (fun p hp => hS.kp.all p (List.mem_append_right _ hp))
  have hlen := hR0.len
  have hmx := hR0.max
  clear hS hr hR0
  by_cases h1 : 0 ≤ num ∧ num < (D.n : Int)
  · rw [decide_eq_true h1] at HH
    by_cases h2 : m = 512
    · subst h2
      obtain ⟨k, rfl⟩ : ∃ k : Nat, num = k := ⟨num.toNat, by omega⟩
      cases hact : (actD D).1 with
      | false =>
        have HW := Lib.hid (show wrD D k L = (6, (actD D).2) by unfold wrD; rw [if_neg (by simpa using h1), if_neg (by omega), if_neg (by simp [hact])])
        rw [hact] at HA
        rw [HW.out]
        clear hlen hact
        go_enter Try.func42, Try.ntmps42
        go_wp2_with fail
        refine HH.out.mono ?_
        rintro e w1 ⟨rfl, rfl⟩
        go_wp2_with fail
        refine HA.out.mono ?_
        rintro e w2 ⟨rfl, h', hLC, hS2⟩
        have HE := Lib.hid (And.intro hLC hS2)
        clear hLC hS2
        go_wp2
        go_ret
        exact ⟨rfl, h', by rw [HE.out.1.1], by rw [HE.out.1.2]; omega, HE.out.2⟩
      | true =>
        obtain ⟨D2, hD2⟩ : ∃ D2, D2 = (actD D).2 := ⟨_, rfl⟩
        have hk := actD_keeps D
        obtain ⟨D2', hD2'⟩ : ∃ D2', D2' = ({ D2 with wr := D2.wr + 1 } : DS) := ⟨_, rfl⟩
        have HD2' := Lib.hid hD2'
        have hkn : k < D2'.n := by rw [hD2']; show k < D2.n; rw [hD2, hk.2.2.1]; omega
        have HW := Lib.hid (show wrD D k L = (0, { D2' with C := D2'.C ++ [lyPd ⟨k, 0, L⟩] }) by unfold wrD; rw [if_neg (by simpa using h1), if_neg (by omega), if_pos hact, Int.toNat_natCast, hD2', hD2]; rfl)
        clear hD2'
        have HN := Lib.hid (show D2.n = D.n ∧ D2.wr = D.wr by rw [hD2]; exact ⟨hk.2.2.1, hk.2.2.2.2.1⟩)
        rw [hact, ← hD2] at HA
        rw [HW.out]
        have hww : (0 : Int) ≤ (D2.wr : Int) ∧ (D2.wr : Int) < 9223372036854775807 := by have := HN.out.2; omega
        clear hact hD2 hk
        go_enter Try.func42, Try.ntmps42
        go_wp2_with fail
        refine HH.out.mono ?_
        rintro e w1 ⟨rfl, rfl⟩
        go_wp2_with fail
        refine HA.out.mono ?_
        rintro e w2 ⟨rfl, h1', hLC1, hS1⟩
        obtain ⟨-, -, -, -, -, -, -, -, c8, -⟩ := h1'.cells hS1
        have f8 := h1'.free hS1 8
        obtain ⟨h2, hLC2, hS2⟩ := h1'.set hS1 8 (.int .i64 ((D2.wr : Int) + 1)) D2' h1'.left (by rw [HD2'.out]) (by rw [HD2'.out]) (by rw [HD2'.out]) (by rw [HD2'.out]; exact h1'.hl) (by rw [HD2'.out]; simp)
        obtain ⟨W, hW⟩ : ∃ W, W = w2.setCell ⟨r, 8, none⟩ (.int .i64 ((D2.wr : Int) + 1)) := ⟨_, rfl⟩
        rw [← hW] at hS2
        have HS2 := Lib.hid hS2
        have HLC := Lib.hid (show h2.L = h.L ∧ h2.C = h.C from ⟨hLC2.1.trans hLC1.1, hLC2.2.trans hLC1.2⟩)
        have hT : W.drew.cell? ⟨r, 3, none⟩ = some h2.vc := (h2.cells (hS2.drewN 1)).2.2.2.1
        have HCP := Lib.hid (rf_copied W.drew A 512 c L (HR.out _ (hS2.drewN 1).bl (fun p hp => (hS2.drewN 1).kp.all p (List.mem_append_right _ hp))) (by omega))
        clear hS1 hS2 hLC1 hLC2
        go_wp2_with fail
        rw [← hW]
        clear hW c8 f8
        refine wp_region_z (fun w' => True) (fun w' => w'.cell? ⟨r, 3, none⟩ = some h2.vc) 10 (by kernel_rfl) ?_
        refine wpAnyZ.takeN (i := 0) (v := .pointer (some ⟨r, 0, none⟩)) rfl (by kernel_rfl) (by kernel_rfl) (by kernel_rfl) (by decide) (fun _ _ _ h => h) (by rfl) (fun w => ?zy) trivial (fun _ => hT) ?_
        case zy => go_simp
        (try simp only [Act.put, List.getElem_toArray, List.getElem_cons_zero, List.getElem_cons_succ, List.setIfInBounds_toArray, List.set_cons_zero, List.set_cons_succ])
        refine wpAnyZ.takeN (i := 1) (v := .pointer (some ⟨r, 0, none⟩)) rfl (by kernel_rfl) (by kernel_rfl) (by kernel_rfl) (by decide) (fun _ _ _ h => h) (by rfl) (fun w => ?zy) trivial (fun _ => hT) ?_
        case zy => go_simp
        (try simp only [Act.put, List.getElem_toArray, List.getElem_cons_zero, List.getElem_cons_succ, List.setIfInBounds_toArray, List.set_cons_zero, List.set_cons_succ])
        refine wpAnyZ.takeN (i := 2) (v := .pointer (some ⟨r, 0, none⟩)) rfl (by kernel_rfl) (by kernel_rfl) (by kernel_rfl) (by decide) (fun _ _ _ h => h) (by rfl) (fun w => ?zy) trivial (fun _ => hT) ?_
        case zy => go_simp
        (try simp only [Act.put, List.getElem_toArray, List.getElem_cons_zero, List.getElem_cons_succ, List.setIfInBounds_toArray, List.set_cons_zero, List.set_cons_succ])
        refine wpAnyZ.takeN (i := 3) (v := .pointer (some ⟨r, 3, none⟩)) rfl (by kernel_rfl) (by kernel_rfl) (by kernel_rfl) (by decide) (fun _ _ _ h => h) (by rfl) (fun w => ?zy) trivial (fun _ => hT) ?_
        case zy => go_simp
        (try simp only [Act.put, List.getElem_toArray, List.getElem_cons_zero, List.getElem_cons_succ, List.setIfInBounds_toArray, List.set_cons_zero, List.set_cons_succ])
        refine wpAnyZ.take (i := 4) (v := h2.vc) (U := fun w' => w'.cell? ⟨r, 3, none⟩ = some h2.vc) rfl (by kernel_rfl) (by kernel_rfl) (by kernel_rfl) (by decide) (fun _ _ _ h => h) (.inr ⟨fun _ h => h, by kernel_rfl⟩) (.inl (by kernel_rfl)) (.inl ⟨by rfl, fun w hw => ?zy⟩) hT trivial (fun _ => hT) ?_
        case zy => (dsimp only at hw; go_simp)
        (try simp only [Act.put, List.getElem_toArray, List.getElem_cons_zero, List.getElem_cons_succ, List.setIfInBounds_toArray, List.set_cons_zero, List.set_cons_succ])
        refine wpAnyZ.takeN (i := 5) (v := .int .i64 (k : Int)) rfl (by kernel_rfl) (by kernel_rfl) (by kernel_rfl) (by decide) (fun _ _ _ h => h) (by rfl) (fun w => ?zy) trivial (fun _ => hT) ?_
        case zy => go_simp
        (try simp only [Act.put, List.getElem_toArray, List.getElem_cons_zero, List.getElem_cons_succ, List.setIfInBounds_toArray, List.set_cons_zero, List.set_cons_succ])
        refine wpAnyZ.takeN (i := 6) (v := .slice A 512 c) rfl (by kernel_rfl) (by kernel_rfl) (by kernel_rfl) (by decide) (fun _ _ _ h => h) (by rfl) (fun w => ?zy) trivial (fun _ => hT) ?_
        case zy => go_simp
        (try simp only [Act.put, List.getElem_toArray, List.getElem_cons_zero, List.getElem_cons_succ, List.setIfInBounds_toArray, List.set_cons_zero, List.set_cons_succ])
        refine wpAnyZ.oneK (i := 7) (E := False) (by kernel_rfl) rfl (by rfl) (fun K hK => ?_)
        go_simp
        refine HCP.out.mono ?_
        rintro e w4 ⟨u, rfl, hO4, hB4⟩
        obtain ⟨Au, cu, rfl, _⟩ := hO4.rd (by omega)
        obtain ⟨h3, hL3, hC3, hvl3, hvc3, hS3, hly⟩ := h2.copied (HS2.out.drewN 1) hB4 hO4
        have HS3 := Lib.hid hS3
        have HLY := Lib.hid hly
        have HL3 := Lib.hid (And.intro hL3 (And.intro hC3 (And.intro hvl3 hvc3)))
        have hcell3 := h3.cells hS3
        have hT : w4.cell? ⟨r, 3, none⟩ = some h2.vc := by rw [← HL3.out.2.2.2]; exact hcell3.2.2.2.1
        clear hO4 hB4 hS3 hly hL3 hC3 hvl3 hvc3 hcell3
        go_wp2_with fail
        refine hK.out _ _ ⟨⟨trivial, fun _ => hT⟩, ?_⟩
        clear hK
        (try simp only [Act.put, List.getElem_toArray, List.getElem_cons_zero, List.getElem_cons_succ, List.setIfInBounds_toArray, List.set_cons_zero, List.set_cons_succ])
        refine wpAnyZ.takeN (i := 8) (v := .agg #[.int .i64 (k : Int), .int .i64 (0), .slice Au 512 cu]) rfl (by kernel_rfl) (by kernel_rfl) (by kernel_rfl) (by decide) (fun _ _ _ h => h) (by rfl) (fun w => ?zy) trivial (fun _ => hT) ?_
        case zy => go_simp
        (try simp only [Act.put, List.getElem_toArray, List.getElem_cons_zero, List.getElem_cons_succ, List.setIfInBounds_toArray, List.set_cons_zero, List.set_cons_succ])
        refine wpAnyZ.oneK (i := 9) (E := False) (by kernel_rfl) rfl (by rfl) (fun K hK => ?_)
        go_simp
        have HS5 := Lib.hid (HS3.out.alloc (.cells #[.int .i64 (k : Int), .int .i64 (0), .slice Au 512 cu] 96))
        have hT5 : (w4.alloc (.cells #[.int .i64 (k : Int), .int .i64 (0), .slice Au 512 cu] 96)).cell? ⟨r, 3, none⟩ = some h2.vc := by rw [← HL3.out.2.2.2]; exact (h3.cells HS5.out).2.2.2.1
        refine hK.out _ _ ⟨⟨trivial, fun _ => hT5⟩, ?_⟩
        clear hK
        (try simp only [Act.put, List.getElem_toArray, List.getElem_cons_zero, List.getElem_cons_succ, List.setIfInBounds_toArray, List.set_cons_zero, List.set_cons_succ])
        have HS5b := Lib.hid (show St w0 (w4.alloc (.cells #[.int .i64 (k : Int), .int .i64 (0), .slice Au 512 cu] 96)) b g vp Dp (((r, rfO D2'.n h3.base h3.vl h3.vc D2'.armed h3.left D2'.down D2'.rd D2'.wr D2'.fl) :: h3.Ql) ++ (h3.Qc ++ (h3.K ++ T))) from by
          have h9 := HS5.out
          unfold RfOk.rows at h9
          simp only [List.cons_append, List.append_assoc, List.nil_append] at h9 ⊢
          exact h9)
        have HQ3 := Lib.hid (show QV 96 3 h2.vc h3.C.length (lyvs h3.C) h3.Qc from by rw [← HL3.out.2.2.2]; exact h3.qc)
        have hcn : h3.C.length ≤ 100000000 := by rw [HL3.out.2.1, HLC.out.2]; exact hCn
        refine wpAnyZ.oneK (i := 10) (E := False) (by kernel_rfl) rfl (by rfl) (fun K hK => ?_)
        refine step_appQ Try.underlying91 HILY.out.1 HILY.out.2.1 HILY.out.2.2.1 HILY.out.2.2.2 rfl (by omega) (P := ((r, rfO D2'.n h3.base h3.vl h3.vc D2'.armed h3.left D2'.down D2'.rd D2'.wr D2'.fl) :: h3.Ql)) (Q := h3.Qc) (T := (h3.K ++ T)) HS5b.out HQ3.out [.int .i64 (k : Int), .int .i64 (0), .slice Au 512 cu] rfl (by intro u hu; simp at hu; rcases hu with rfl | rfl | rfl <;> rfl) (by omega) (by simp only [maxLen]; omega) w4.heap.size (heap_alloc_new w4 _) _ _ rfl rfl rfl rfl ?_
        intro v1 w6 Q1 hq1 hS6
        obtain ⟨A1, c1, rfl⟩ := hq1.slice
        have hh6 : w6.heap[r]? = some (rfO D2'.n h3.base h3.vl h3.vc D2'.armed h3.left D2'.down D2'.rd D2'.wr D2'.fl) := hS6.mem (by simp)
        have hcell6 : w6.cell? ⟨r, 3, none⟩ = some h3.vc := cell_of_row w6 r 3 _ _ _ hh6
        have hfree6 := frozen_of_row w6 r 3 _ _ hh6
        have HPU := Lib.hid (h3.pushC (⟨k, 0, L⟩, .slice Au 512 cu) (HLY.out k 0 hkn (by omega)) rfl hlen hq1 hS6)
        refine hK.out _ _ ⟨⟨trivial, (fun h => (have h9 : (true : Bool) = false := h; by cases h9))⟩, ?_⟩
        clear hK hT hT5 hq1 hS6 hh6 hcn
        (try simp only [Act.put, List.getElem_toArray, List.getElem_cons_zero, List.getElem_cons_succ, List.setIfInBounds_toArray, List.set_cons_zero, List.set_cons_succ])
        refine wpAnyZ.takeN (i := 11) (v := .pointer (some ⟨r, 0, none⟩)) rfl (by kernel_rfl) (by kernel_rfl) (by kernel_rfl) (by decide) (fun _ _ _ h => h) (by rfl) (fun w => ?zy) trivial (fun h => (have h9 : (true : Bool) = false := h; by cases h9)) ?_
        case zy => go_simp
        (try simp only [Act.put, List.getElem_toArray, List.getElem_cons_zero, List.getElem_cons_succ, List.setIfInBounds_toArray, List.set_cons_zero, List.set_cons_succ])
        refine wpAnyZ.takeN (i := 12) (v := .pointer (some ⟨r, 3, none⟩)) rfl (by kernel_rfl) (by kernel_rfl) (by kernel_rfl) (by decide) (fun _ _ _ h => h) (by rfl) (fun w => ?zy) trivial (fun h => (have h9 : (true : Bool) = false := h; by cases h9)) ?_
        case zy => go_simp
        (try simp only [Act.put, List.getElem_toArray, List.getElem_cons_zero, List.getElem_cons_succ, List.setIfInBounds_toArray, List.set_cons_zero, List.set_cons_succ])
        refine wpAnyZ.oneK (i := 13) (E := False) (by kernel_rfl) rfl (by rfl) (fun K hK => ?_)
        go_simp
        refine hK.out _ _ ⟨⟨trivial, (fun h => (have h9 : (true : Bool) = false := h; by cases h9))⟩, ?_⟩
        clear hK hcell6 hfree6
        refine wpAnyZ.done (by kernel_rfl) ?_ _

        go_wp2
        go_ret
        obtain ⟨h9, hL9, hC9, hS9⟩ := HPU.out
        exact ⟨rfl, h9, by rw [hL9, HL3.out.1, HLC.out.1], by rw [hC9, HL3.out.2.1, HLC.out.2]; simp, hS9⟩
    · have HW := Lib.hid (show wrD D num L = (61, D) by unfold wrD; rw [if_neg (by simpa using h1), if_pos (by omega)])
      have e1 : ((m : Int) != 512) = true := by simp; omega
      rw [HW.out]
      clear hlen h2
      go_enter Try.func42, Try.ntmps42
      go_wp2_with fail
      refine HH.out.mono ?_
      rintro e w1 ⟨rfl, rfl⟩
      go_wp2
      go_ret
      exact ⟨rfl, h, rfl, by omega, HS.out⟩
  · rw [decide_eq_false h1] at HH
    have HW := Lib.hid (show wrD D num L = (60, D) by unfold wrD; rw [if_pos h1])
    rw [HW.out]
    clear hlen h1
    go_enter Try.func42, Try.ntmps42
    go_wp2_with fail
    refine HH.out.mono ?_
    rintro e w1 ⟨rfl, rfl⟩
    go_wp2
    go_ret
    exact ⟨rfl, h, rfl, by omega, HS.out⟩
end
end Go.Proofs.Ytjbffahmjhbpjaa
/- The reference's device: Edit. -/
set_option linter.unusedVariables false
set_option linter.unusedSimpArgs false
set_option maxRecDepth 100000
namespace Go.Proofs.Ytjbffahmjhbpjaa
open Go.RowKit
section
variable {w0 w : World} {b g : Nat} {vp : Value} {Dp D : DS} {r : Nat} {T : List (Nat × Obj)}
set_option maxHeartbeats 2000000 in
theorem rf_Edit (num at_ : Int) (A : Option Addr) (m c : Nat) (L : List UInt8) (h : RfOk r D) (hS : St w0 w b g vp Dp (h.rows ++ T)) (hr : ∀ W : World, Below w0.heap.size w0 W → (∀ p ∈ T, W.heap[p.1]? = some p.2) → Rd W A m c L) (hat : -9223372036854775808 ≤ at_ ∧ at_ < 9223372036854775808) (hLn : h.L.length ≤ 100000000) :
    Calls Try.prog 46 #[.pointer (some ⟨r, 0, none⟩), .int .i64 num, .int .i64 at_, .slice A m c] w fun e w' => e = .returned (.int .i64 (edD D num at_ L).1) ∧ ∃ h' : RfOk r (edD D num at_ L).2, h'.L.length ≤ h.L.length + 1 ∧ h'.C.length = h.C.length ∧ St w0 w' b g vp Dp (h'.rows ++ T) := by
  obtain ⟨ily, hily, hzz⟩ := Option.map_eq_some_iff.1 info_ly
  simp only [Prod.mk.injEq] at hzz
  obtain ⟨sz0, sz1, sz2⟩ := hzz
  have HILY := Lib.hid (And.intro hily (And.intro sz0 (And.intro sz1 sz2)))
  clear hily sz0 sz1 sz2
  have HH := Lib.hid (rf_there num h hS)
  have HS := Lib.hid hS
  have hR0 := hr w hS.bl (fun p hp => hS.kp.all p (List.mem_append_right _ hp))
  have hlen := hR0.len
  have hmx := hR0.max
  have HR := Lib.hid hr
  by_cases h1 : 0 ≤ num ∧ num < (D.n : Int)
  · rw [decide_eq_true h1] at HH
    by_cases h2 : at_ < 0 ∨ 512 < at_ ∨ 512 - at_ < (m : Int)
    · have HW := Lib.hid (show edD D num at_ L = (1, D) by unfold edD; rw [if_neg (by simpa using h1), if_pos (by rw [hlen]; exact h2)])
      rw [HW.out]
      rcases (by omega : at_ < 0 ∨ (0 ≤ at_ ∧ 512 < at_) ∨ (0 ≤ at_ ∧ at_ ≤ 512 ∧ 512 - at_ < (m : Int))) with h3 | ⟨h3, h4⟩ | ⟨h3, h4, h5⟩
      · clear hlen h2 hS hr hR0 hmx
        go_enter Try.func46, Try.ntmps46
        go_wp2_with fail
        refine HH.out.mono ?_
        rintro e w1 ⟨rfl, rfl⟩
        go_wp2
        go_ret
        exact ⟨rfl, h, by omega, rfl, HS.out⟩
      · have h6 : ¬ at_ < 0 := by omega
        clear hlen h2 hS hr hR0 hmx
        go_enter Try.func46, Try.ntmps46
        go_wp2_with fail
        refine HH.out.mono ?_
        rintro e w1 ⟨rfl, rfl⟩
        go_wp2
        go_ret
        exact ⟨rfl, h, by omega, rfl, HS.out⟩
      · have h6 : ¬ at_ < 0 ∧ ¬ 512 < at_ := by omega
        have hw1 : IntKind.i64.wrap (512 - at_) = 512 - at_ := IntWalk.i64_in _ (by omega)
        clear hlen h2 hS hr hR0 hmx
        go_enter Try.func46, Try.ntmps46
        go_wp2_with fail
        refine HH.out.mono ?_
        rintro e w1 ⟨rfl, rfl⟩
        go_wp2
        go_ret
        exact ⟨rfl, h, by omega, rfl, HS.out⟩
    · obtain ⟨q, rfl⟩ : ∃ q : Nat, at_ = q := ⟨at_.toNat, by omega⟩
      obtain ⟨k, rfl⟩ : ∃ k : Nat, num = k := ⟨num.toNat, by omega⟩
      have HW := Lib.hid (show edD D k q L = (0, { D with M := splice D.M (k * 512 + q) L }) by unfold edD; rw [if_neg (by simpa using h1), if_neg (by rw [hlen]; exact h2), Int.toNat_natCast, Int.toNat_natCast])
      rw [HW.out]
      have h6 : ¬ (q : Int) < 0 ∧ ¬ 512 < (q : Int) ∧ ¬ (m : Int) > 512 - (q : Int) ∧ (q : Int) ≤ 512 ∧ (m : Int) ≤ 512 - (q : Int) := by omega
      have hw1 : IntKind.i64.wrap (512 - (q : Int)) = 512 - (q : Int) := IntWalk.i64_in _ (by omega)
      have hm5 : m ≤ 512 := by omega
      have hqm : q + L.length ≤ 512 := by omega
      obtain ⟨D2', hD2'⟩ : ∃ D2', D2' = D := ⟨_, rfl⟩
      subst hD2'
      have hkn : k < D2'.n := by omega
      have h2' := h
      obtain ⟨h2, hh2⟩ : ∃ h2, h2 = h := ⟨_, rfl⟩
      have HLC := Lib.hid (show h2.L = h.L ∧ h2.C = h.C by rw [hh2]; exact ⟨rfl, rfl⟩)
      have HS2 := Lib.hid (show St w0 w b g vp Dp (h2.rows ++ T) by rw [hh2]; exact hS)
      have hT : w.drew.cell? ⟨r, 2, none⟩ = some h2.vl := (h2.cells (HS2.out.drewN 1)).2.2.1
      have HCP := Lib.hid (rf_copied w.drew A m c L (HR.out _ (HS2.out.drewN 1).bl (fun p hp => (HS2.out.drewN 1).kp.all p (List.mem_append_right _ hp))) (by omega))
      clear hS hr hR0 h2' hh2
      go_enter Try.func46, Try.ntmps46
      go_wp2_with fail
      refine HH.out.mono ?_
      rintro e w1 ⟨rfl, rfl⟩
      go_wp2_with fail
      refine wp_region_z (fun w' => True) (fun w' => w'.cell? ⟨r, 2, none⟩ = some h2.vl) 11 (by kernel_rfl) ?_
      refine wpAnyZ.takeN (i := 0) (v := .pointer (some ⟨r, 0, none⟩)) rfl (by kernel_rfl) (by kernel_rfl) (by kernel_rfl) (by decide) (fun _ _ _ h => h) (by rfl) (fun w => ?zy) trivial (fun _ => hT) ?_
      case zy => go_simp
      (try simp only [Act.put, List.getElem_toArray, List.getElem_cons_zero, List.getElem_cons_succ, List.setIfInBounds_toArray, List.set_cons_zero, List.set_cons_succ])
      refine wpAnyZ.takeN (i := 1) (v := .pointer (some ⟨r, 0, none⟩)) rfl (by kernel_rfl) (by kernel_rfl) (by kernel_rfl) (by decide) (fun _ _ _ h => h) (by rfl) (fun w => ?zy) trivial (fun _ => hT) ?_
      case zy => go_simp
      (try simp only [Act.put, List.getElem_toArray, List.getElem_cons_zero, List.getElem_cons_succ, List.setIfInBounds_toArray, List.set_cons_zero, List.set_cons_succ])
      refine wpAnyZ.takeN (i := 2) (v := .pointer (some ⟨r, 0, none⟩)) rfl (by kernel_rfl) (by kernel_rfl) (by kernel_rfl) (by decide) (fun _ _ _ h => h) (by rfl) (fun w => ?zy) trivial (fun _ => hT) ?_
      case zy => go_simp
      (try simp only [Act.put, List.getElem_toArray, List.getElem_cons_zero, List.getElem_cons_succ, List.setIfInBounds_toArray, List.set_cons_zero, List.set_cons_succ])
      refine wpAnyZ.takeN (i := 3) (v := .pointer (some ⟨r, 2, none⟩)) rfl (by kernel_rfl) (by kernel_rfl) (by kernel_rfl) (by decide) (fun _ _ _ h => h) (by rfl) (fun w => ?zy) trivial (fun _ => hT) ?_
      case zy => go_simp
      (try simp only [Act.put, List.getElem_toArray, List.getElem_cons_zero, List.getElem_cons_succ, List.setIfInBounds_toArray, List.set_cons_zero, List.set_cons_succ])
      refine wpAnyZ.take (i := 4) (v := h2.vl) (U := fun w' => w'.cell? ⟨r, 2, none⟩ = some h2.vl) rfl (by kernel_rfl) (by kernel_rfl) (by kernel_rfl) (by decide) (fun _ _ _ h => h) (.inr ⟨fun _ h => h, by kernel_rfl⟩) (.inl (by kernel_rfl)) (.inl ⟨by rfl, fun w hw => ?zy⟩) hT trivial (fun _ => hT) ?_
      case zy => (dsimp only at hw; go_simp)
      (try simp only [Act.put, List.getElem_toArray, List.getElem_cons_zero, List.getElem_cons_succ, List.setIfInBounds_toArray, List.set_cons_zero, List.set_cons_succ])
      refine wpAnyZ.takeN (i := 5) (v := .int .i64 (k : Int)) rfl (by kernel_rfl) (by kernel_rfl) (by kernel_rfl) (by decide) (fun _ _ _ h => h) (by rfl) (fun w => ?zy) trivial (fun _ => hT) ?_
      case zy => go_simp
      (try simp only [Act.put, List.getElem_toArray, List.getElem_cons_zero, List.getElem_cons_succ, List.setIfInBounds_toArray, List.set_cons_zero, List.set_cons_succ])
      refine wpAnyZ.takeN (i := 6) (v := .int .i64 (q : Int)) rfl (by kernel_rfl) (by kernel_rfl) (by kernel_rfl) (by decide) (fun _ _ _ h => h) (by rfl) (fun w => ?zy) trivial (fun _ => hT) ?_
      case zy => go_simp
      (try simp only [Act.put, List.getElem_toArray, List.getElem_cons_zero, List.getElem_cons_succ, List.setIfInBounds_toArray, List.set_cons_zero, List.set_cons_succ])
      refine wpAnyZ.takeN (i := 7) (v := .slice A m c) rfl (by kernel_rfl) (by kernel_rfl) (by kernel_rfl) (by decide) (fun _ _ _ h => h) (by rfl) (fun w => ?zy) trivial (fun _ => hT) ?_
      case zy => go_simp
      (try simp only [Act.put, List.getElem_toArray, List.getElem_cons_zero, List.getElem_cons_succ, List.setIfInBounds_toArray, List.set_cons_zero, List.set_cons_succ])
      refine wpAnyZ.oneK (i := 8) (E := False) (by kernel_rfl) rfl (by rfl) (fun K hK => ?_)
      go_simp
      refine HCP.out.mono ?_
      rintro e w4 ⟨u, rfl, hO4, hB4⟩
      obtain ⟨Au, cu, rfl, _⟩ := hO4.rd (by omega)
      obtain ⟨h3, hL3, hC3, hvl3, hvc3, hS3, hly⟩ := h2.copied (HS2.out.drewN 1) hB4 hO4
      have HS3 := Lib.hid hS3
      have HLY := Lib.hid hly
      have HL3 := Lib.hid (And.intro hL3 (And.intro hC3 (And.intro hvl3 hvc3)))
      have hcell3 := h3.cells hS3
      have hT : w4.cell? ⟨r, 2, none⟩ = some h2.vl := by rw [← HL3.out.2.2.1]; exact hcell3.2.2.1
      clear hO4 hB4 hS3 hly hL3 hC3 hvl3 hvc3 hcell3
      go_wp2_with fail
      refine hK.out _ _ ⟨⟨trivial, fun _ => hT⟩, ?_⟩
      clear hK
      (try simp only [Act.put, List.getElem_toArray, List.getElem_cons_zero, List.getElem_cons_succ, List.setIfInBounds_toArray, List.set_cons_zero, List.set_cons_succ])
      refine wpAnyZ.takeN (i := 9) (v := .agg #[.int .i64 (k : Int), .int .i64 (q), .slice Au m cu]) rfl (by kernel_rfl) (by kernel_rfl) (by kernel_rfl) (by decide) (fun _ _ _ h => h) (by rfl) (fun w => ?zy) trivial (fun _ => hT) ?_
      case zy => go_simp
      (try simp only [Act.put, List.getElem_toArray, List.getElem_cons_zero, List.getElem_cons_succ, List.setIfInBounds_toArray, List.set_cons_zero, List.set_cons_succ])
      refine wpAnyZ.oneK (i := 10) (E := False) (by kernel_rfl) rfl (by rfl) (fun K hK => ?_)
      go_simp
      have HS5 := Lib.hid (HS3.out.alloc (.cells #[.int .i64 (k : Int), .int .i64 (q), .slice Au m cu] 96))
      have hT5 : (w4.alloc (.cells #[.int .i64 (k : Int), .int .i64 (q), .slice Au m cu] 96)).cell? ⟨r, 2, none⟩ = some h2.vl := by rw [← HL3.out.2.2.1]; exact (h3.cells HS5.out).2.2.1
      refine hK.out _ _ ⟨⟨trivial, fun _ => hT5⟩, ?_⟩
      clear hK
      (try simp only [Act.put, List.getElem_toArray, List.getElem_cons_zero, List.getElem_cons_succ, List.setIfInBounds_toArray, List.set_cons_zero, List.set_cons_succ])
      have HS5b := Lib.hid (show St w0 (w4.alloc (.cells #[.int .i64 (k : Int), .int .i64 (q), .slice Au m cu] 96)) b g vp Dp ([(r, rfO D2'.n h3.base h3.vl h3.vc D2'.armed h3.left D2'.down D2'.rd D2'.wr D2'.fl)] ++ (h3.Ql ++ (h3.Qc ++ (h3.K ++ T)))) from by
        have h9 := HS5.out
        unfold RfOk.rows at h9
        simp only [List.cons_append, List.append_assoc, List.nil_append] at h9 ⊢
        exact h9)
      have HQ3 := Lib.hid (show QV 96 3 h2.vl h3.L.length (lyvs h3.L) h3.Ql from by rw [← HL3.out.2.2.1]; exact h3.ql)
      have hcn : h3.L.length ≤ 100000000 := by rw [HL3.out.1, HLC.out.1]; exact hLn
      refine wpAnyZ.oneK (i := 11) (E := False) (by kernel_rfl) rfl (by rfl) (fun K hK => ?_)
      refine step_appQ Try.underlying91 HILY.out.1 HILY.out.2.1 HILY.out.2.2.1 HILY.out.2.2.2 rfl (by omega) (P := [(r, rfO D2'.n h3.base h3.vl h3.vc D2'.armed h3.left D2'.down D2'.rd D2'.wr D2'.fl)]) (Q := h3.Ql) (T := (h3.Qc ++ (h3.K ++ T))) HS5b.out HQ3.out [.int .i64 (k : Int), .int .i64 (q), .slice Au m cu] rfl (by intro u hu; simp at hu; rcases hu with rfl | rfl | rfl <;> rfl) (by omega) (by simp only [maxLen]; omega) w4.heap.size (heap_alloc_new w4 _) _ _ rfl rfl rfl rfl ?_
      intro v1 w6 Q1 hq1 hS6
      obtain ⟨A1, c1, rfl⟩ := hq1.slice
      have hh6 : w6.heap[r]? = some (rfO D2'.n h3.base h3.vl h3.vc D2'.armed h3.left D2'.down D2'.rd D2'.wr D2'.fl) := hS6.mem (by simp)
      have hcell6 : w6.cell? ⟨r, 2, none⟩ = some h3.vl := cell_of_row w6 r 2 _ _ _ hh6
      have hfree6 := frozen_of_row w6 r 2 _ _ hh6
      have HPU := Lib.hid (h3.pushL (⟨k, q, L⟩, .slice Au m cu) (HLY.out k q hkn hqm) hq1 hS6)
      refine hK.out _ _ ⟨⟨trivial, (fun h => (have h9 : (true : Bool) = false := h; by cases h9))⟩, ?_⟩
      clear hK hT hT5 hq1 hS6 hh6 hcn
      (try simp only [Act.put, List.getElem_toArray, List.getElem_cons_zero, List.getElem_cons_succ, List.setIfInBounds_toArray, List.set_cons_zero, List.set_cons_succ])
      refine wpAnyZ.takeN (i := 12) (v := .pointer (some ⟨r, 0, none⟩)) rfl (by kernel_rfl) (by kernel_rfl) (by kernel_rfl) (by decide) (fun _ _ _ h => h) (by rfl) (fun w => ?zy) trivial (fun h => (have h9 : (true : Bool) = false := h; by cases h9)) ?_
      case zy => go_simp
      (try simp only [Act.put, List.getElem_toArray, List.getElem_cons_zero, List.getElem_cons_succ, List.setIfInBounds_toArray, List.set_cons_zero, List.set_cons_succ])
      refine wpAnyZ.takeN (i := 13) (v := .pointer (some ⟨r, 2, none⟩)) rfl (by kernel_rfl) (by kernel_rfl) (by kernel_rfl) (by decide) (fun _ _ _ h => h) (by rfl) (fun w => ?zy) trivial (fun h => (have h9 : (true : Bool) = false := h; by cases h9)) ?_
      case zy => go_simp
      (try simp only [Act.put, List.getElem_toArray, List.getElem_cons_zero, List.getElem_cons_succ, List.setIfInBounds_toArray, List.set_cons_zero, List.set_cons_succ])
      refine wpAnyZ.oneK (i := 14) (E := False) (by kernel_rfl) rfl (by rfl) (fun K hK => ?_)
      go_simp
      refine hK.out _ _ ⟨⟨trivial, (fun h => (have h9 : (true : Bool) = false := h; by cases h9))⟩, ?_⟩
      clear hK hcell6 hfree6
      refine wpAnyZ.done (by kernel_rfl) ?_ _

      go_wp2
      go_ret
      obtain ⟨h9, hL9, hC9, hS9⟩ := HPU.out
      exact ⟨rfl, h9, by rw [hL9, HL3.out.1, HLC.out.1]; simp, by rw [hC9, HL3.out.2.1, HLC.out.2], hS9⟩
  · rw [decide_eq_false h1] at HH
    have HW := Lib.hid (show edD D num at_ L = (60, D) by unfold edD; rw [if_pos h1])
    rw [HW.out]
    clear hlen h1 hS hr hR0
    go_enter Try.func46, Try.ntmps46
    go_wp2_with fail
    refine HH.out.mono ?_
    rintro e w1 ⟨rfl, rfl⟩
    go_wp2
    go_ret
    exact ⟨rfl, h, by omega, rfl, HS.out⟩
end
end Go.Proofs.Ytjbffahmjhbpjaa
/- The reference's device: Flush. -/
set_option linter.unusedVariables false
set_option linter.unusedSimpArgs false
set_option maxRecDepth 100000
namespace Go.Proofs.Ytjbffahmjhbpjaa
open Go.RowKit
section
variable {w0 w : World} {b g : Nat} {vp : Value} {Dp D : DS} {r : Nat} {T : List (Nat × Obj)}
theorem ly_cellsW {w : World} {vl : Value} {L : List (Ly × Value)} {Ql : List (Nat × Obj)} (hq : QV 96 3 vl L.length (lyvs L) Ql) (hX : ∀ p ∈ Ql, w.heap[p.1]? = some p.2) (i : Nat) (hi : i < L.length) :
    ∃ kl c, vl = .slice (some ⟨kl, 0, none⟩) L.length c ∧ w.cell? ⟨kl, i * 3, none⟩ = some (.int .i64 (L.getD i default).1.blk) ∧ w.cell? ⟨kl, i * 3 + 1, none⟩ = some (.int .i64 (L.getD i default).1.at_) ∧ w.cell? ⟨kl, i * 3 + 2, none⟩ = some (L.getD i default).2 := by
  have ho := hq.owns hX
  rcases hq with ⟨_, h0, _⟩ | ⟨kl, c, o, rfl, _, _⟩
  · omega
  · obtain ⟨g0, g1, g2⟩ := lyvs_get L i hi
    have h0 := World.ownsRow.cells ho (g := kl) rfl (i * 3) _ g0
    have h1 := World.ownsRow.cells ho (g := kl) rfl (i * 3 + 1) _ g1
    have h2 := World.ownsRow.cells ho (g := kl) rfl (i * 3 + 2) _ g2
    rw [Addr.add_mid, Nat.zero_add] at h0 h1 h2
    exact ⟨kl, c, rfl, h0, h1, h2⟩
/-- the cache is let go -/
theorem RfOk.dropC (h : RfOk r D) (hS : St w0 w b g vp Dp (h.rows ++ T)) : ∃ h' : RfOk r { D with C := [] }, h'.L = h.L ∧ h'.C = [] ∧ St w0 (w.setCell ⟨r, 3, none⟩ (.slice none 0 0)) b g vp Dp (h'.rows ++ T) := by
  have hh := h.heap hS
  have h2 := hS.upd 0 (k := r) (o := rfO D.n h.base h.vl h.vc D.armed h.left D.down D.rd D.wr D.fl) rfl ((Only.refl [r] w).setCell (by simp) (.slice none 0 0)) (heap_setCell_same w r 3 _ _ _ hh)
  refine ⟨⟨h.L, [], h.vl, .slice none 0 0, h.base, h.M0, h.left, h.Ql, [], h.K, h.ql, QV.nil _ _, h.bs, h.lo, by simp, h.hM, rfl, h.hl, h.sm⟩, rfl, rfl, ?_⟩
  refine h2.sub ?_
  show ((r, rfO D.n h.base h.vl (.slice none 0 0) D.armed h.left D.down D.rd D.wr D.fl) :: (h.Ql ++ ([] ++ h.K)) ++ T).Sublist ((r, rfO D.n h.base h.vl (.slice none 0 0) D.armed h.left D.down D.rd D.wr D.fl) :: (h.Ql ++ (h.Qc ++ h.K)) ++ T)
  refine List.Sublist.append ?_ (List.Sublist.refl _)
  refine List.Sublist.cons_cons _ (List.Sublist.append (List.Sublist.refl _) ?_)
  exact List.sublist_append_right _ _
theorem layP_full (M : List UInt8) (x : Ly) (h0 : x.at_ = 0) (h5 : x.B.length = 512) : layP M (lyPd x) 512 = splice M (x.blk * 512 + x.at_) x.B := by
  unfold layP lyPd
  rw [h0, List.take_of_length_le (by simp; omega)]; rfl
set_option maxHeartbeats 2000000 in
theorem rf_Flush (h : RfOk r D) (hS : St w0 w b g vp Dp (h.rows ++ T)) (hl : D.left < 9223372036854775808) (hCn : h.C.length ≤ 100000000) (hLn : h.L.length ≤ 100000000) (hfl : D.fl < 9223372036854775807) :
    Calls Try.prog 43 #[.pointer (some ⟨r, 0, none⟩)] w fun e w' => e = .returned (.int .i64 (flD D).1) ∧ ∃ h' : RfOk r (flD D).2, h'.L.length + h'.C.length ≤ h.L.length + h.C.length ∧ St w0 w' b g vp Dp (h'.rows ++ T) := by
  obtain ⟨ily, hily, hzz⟩ := Option.map_eq_some_iff.1 info_ly
  simp only [Prod.mk.injEq] at hzz
  obtain ⟨sz0, sz1, sz2⟩ := hzz
  have HILY := Lib.hid (And.intro hily (And.intro sz0 (And.intro sz1 sz2)))
  clear hily sz0 sz1 sz2
  have HA := Lib.hid (rf_act h hS hl)
  have hk := actD_keeps D
  clear hS
  cases hact : (actD D).1 with
  | false =>
    have HW := Lib.hid (show flD D = (6, (actD D).2) by unfold flD; rw [if_neg (by simp [hact])])
    rw [hact] at HA
    rw [HW.out]
    clear hact hk
    go_enter Try.func43, Try.ntmps43
    go_wp2_with fail
    refine HA.out.mono ?_
    rintro e w2 ⟨rfl, h', hLC, hS2⟩
    have HE := Lib.hid (And.intro hLC hS2)
    clear hLC hS2
    go_wp2
    go_ret
    exact ⟨rfl, h', by rw [HE.out.1.1, HE.out.1.2]; omega, HE.out.2⟩
  | true =>
    obtain ⟨D2, hD2⟩ : ∃ D2, D2 = (actD D).2 := ⟨_, rfl⟩
    obtain ⟨D3, hD3⟩ : ∃ D3, D3 = ({ D2 with fl := D2.fl + 1 } : DS) := ⟨_, rfl⟩
    have HD3 := Lib.hid hD3
    have HW := Lib.hid (show flD D = (0, { D3 with C := [], M := layA (fun _ => 512) 0 D3.C D3.M }) by unfold flD; rw [if_pos hact, hD3, hD2])
    rw [hact, ← hD2] at HA
    rw [HW.out]
    have hww : (0 : Int) ≤ (D2.fl : Int) ∧ (D2.fl : Int) < 9223372036854775807 := by have := hk.2.2.2.2.2; rw [hD2]; omega
    clear hact hD2 hk hD3
    go_enter Try.func43, Try.ntmps43
    go_wp2_with fail
    refine HA.out.mono ?_
    rintro e w2 ⟨rfl, h1', hLC1, hS1⟩
    obtain ⟨-, -, -, -, -, -, -, -, -, c9⟩ := h1'.cells hS1
    have f9 := h1'.free hS1 9
    obtain ⟨h2, hLC2, hS2⟩ := h1'.set hS1 9 (.int .i64 ((D2.fl : Int) + 1)) D3 h1'.left (by rw [HD3.out]) (by rw [HD3.out]) (by rw [HD3.out]) (by rw [HD3.out]; exact h1'.hl) (by rw [HD3.out]; simp)
    obtain ⟨W, hW⟩ : ∃ W, W = w2.setCell ⟨r, 9, none⟩ (.int .i64 ((D2.fl : Int) + 1)) := ⟨_, rfl⟩
    rw [← hW] at hS2
    have HS2 := Lib.hid hS2
    have HLC := Lib.hid (show h2.L = h.L ∧ h2.C = h.C from ⟨hLC2.1.trans hLC1.1, hLC2.2.trans hLC1.2⟩)
    have hn : h2.C.length ≤ 100000000 := by rw [HLC.out.2]; exact hCn
    clear hS1 hS2 hLC1 hLC2
    go_wp2_with fail
    rw [← hW]
    clear hW c9 f9
    obtain ⟨n, hnn⟩ : ∃ n, n = h2.C.length := ⟨_, rfl⟩
    have HNN := Lib.hid hnn
    clear hnn
    go_loopw [4] (fun x wx => ∃ i : Nat, ∃ Di, ∃ hi : RfOk r Di, Di = { D3 with M := layA (fun _ => 512) 0 (D3.C.take i) D3.M } ∧ i ≤ h2.C.length ∧ x = .int .i64 i ∧ hi.C = h2.C ∧ hi.L.length = h2.L.length + i ∧ St w0 wx b g vp Dp (hi.rows ++ T)) (fun x _ => h2.C.length - (intOf x).toNat)
    case atStart => exact ⟨0, D3, h2, rfl, by omega, rfl, rfl, rfl, HS2.out⟩
    case round =>
      obtain ⟨i, Di, hi, hDi, hin, rfl, hiC, hiL, hSi⟩ := hrel
      have HSi := Lib.hid hSi
      have HIL := Lib.hid hiL
      have hcc := hi.cells hSi
      have hnl : hi.C.length = h2.C.length := by rw [hiC]
      have hLb : hi.L.length ≤ 200000000 := by rw [hiL, HLC.out.1]; omega
      have HDi := Lib.hid hDi
      have HIC := Lib.hid hiC
      have hQc : ∀ q ∈ hi.Qc, wr.heap[q.1]? = some q.2 := fun q hq => hSi.kp.all q (by simp [RfOk.rows, hq])
      have c2 := hcc.2.2.1
      have c3 := hcc.2.2.2.1
      by_cases hin2 : i < h2.C.length
      · have HRQ0 := Lib.hid (fun (W : World) (hW : ∀ q ∈ hi.Qc, W.heap[q.1]? = some q.2) => ly_cellsW hi.qc hW i (by rw [hnl]; exact hin2))
        obtain ⟨kc, cc, hvc, g0, g1, g2⟩ := HRQ0.out wr hQc
        obtain ⟨p, hp⟩ : ∃ p, p = hi.C.getD i default := ⟨_, rfl⟩
        have HPM := Lib.hid (show p ∈ hi.C by rw [hp]; exact getD_mem hi.C i default (by rw [hnl]; exact hin2))
        rw [← hp] at g0 g1 g2 HRQ0
        have hco := hi.co p HPM.out
        have HST := Lib.hid (show splice Di.M (p.1.blk * 512 + p.1.at_) p.1.B = layA (fun _ => 512) 0 (D3.C.take (i + 1)) D3.M from by
          obtain ⟨Ci, hCi⟩ : ∃ Ci, Ci = hi.C := ⟨_, rfl⟩
          have hC3 : D3.C = Ci.map fun p => lyPd p.1 := by rw [hCi, ← hi.hC, hDi]
          have hlC : Ci.length = h2.C.length := by rw [hCi, hnl]
          rw [← hCi] at hp
          clear hCi
          have hl3 : i < D3.C.length := by rw [hC3, List.length_map, hlC]; exact hin2
          have hg3 : D3.C.getD i default = lyPd p.1 := by
            rw [hC3, hp, List.getD_eq_getElem?_getD, List.getD_eq_getElem?_getD, List.getElem?_map, List.getElem?_eq_getElem (by rw [hlC]; exact hin2)]; rfl
          have hDM : Di.M = layA (fun _ => 512) 0 (D3.C.take i) D3.M := by rw [hDi]
          rw [hDM, takeP_snoc D3.C i hl3, layA_snoc, hg3]
          exact (layP_full _ p.1 hco.2.1 hco.2.2).symm)
        obtain ⟨⟨blk, at_, BB⟩, sv⟩ := p
        have hsv : ∃ Ab cb, sv = .slice Ab BB.length cb := by
          rcases hco.1.row with ⟨h1, h2⟩ | ⟨k9, o9, c9, h1, _⟩
          · have h1' : sv = .slice none 0 0 := h1
            have h2' : BB = [] := h2
            rw [h1', h2']; exact ⟨none, 0, rfl⟩
          · exact ⟨_, c9, h1⟩
        obtain ⟨Ab, cb, rfl⟩ := hsv
        rw [hnl] at hvc HRQ0
        rw [← HNN.out] at hvc HRQ0
        rw [hvc] at c3
        have HRQ := Lib.hid (show ∀ (W : World), (∀ q ∈ hi.Qc, W.heap[q.1]? = some q.2) → W.cell? ⟨r, 3, none⟩ = some hi.vc → W.cell? ⟨r, 3, none⟩ = some (.slice (some ⟨kc, 0, none⟩) n cc) ∧ W.cell? ⟨kc, i * 3, none⟩ = some (.int .i64 (blk : Int)) ∧ W.cell? ⟨kc, i * 3 + 1, none⟩ = some (.int .i64 (at_ : Int)) ∧ W.cell? ⟨kc, i * 3 + 2, none⟩ = some (.slice Ab BB.length cb) from fun W hW h3 => by
          obtain ⟨kc2, cc2, hvc2, u0, u1, u2⟩ := HRQ0.out W hW
          rw [hvc] at hvc2
          injection hvc2 with e1 e2 e3
          injection e1 with e1
          injection e1 with e1
          subst e1
          exact ⟨by rw [h3, hvc], u0, u1, u2⟩)
        have HRC := Lib.hid (fun (W : World) (h9 : St w0 W b g vp Dp (hi.rows ++ T)) => HRQ.out W (fun q hq => h9.kp.all q (by simp [RfOk.rows, hq])) (hi.cells h9).2.2.2.1)
        have hRR := HRC.out _ (HSi.out.drewN 1)
        have hT : wr.drew.cell? ⟨r, 2, none⟩ = some hi.vl := (hi.cells (HSi.out.drewN 1)).2.2.1
        have hii : (0 : Int) ≤ (i : Int) ∧ (i : Int) < (n : Int) ∧ (n : Int) ≤ 100000000 := by have := HNN.out; omega
        have HIN := Lib.hid hin2
        dsimp only at g0 g1
        clear hSi hcc hQc hp hco hnl hiL hDi hiC
        clear hin2 hin
        go_wp2_with fail
        clear c2 c3 g0 g1 g2
        refine wp_region_z (fun w' : World => w'.cell? ⟨r, 3, none⟩ = some (.slice (some ⟨kc, 0, none⟩) n cc) ∧ w'.cell? ⟨kc, i * 3, none⟩ = some (.int .i64 (blk : Int)) ∧ w'.cell? ⟨kc, i * 3 + 1, none⟩ = some (.int .i64 (at_ : Int)) ∧ w'.cell? ⟨kc, i * 3 + 2, none⟩ = some (.slice Ab BB.length cb)) (fun w' => w'.cell? ⟨r, 2, none⟩ = some hi.vl) 13 (by kernel_rfl) ?_
        refine wpAnyZ.takeN (i := 0) (v := .pointer (some ⟨r, 0, none⟩)) rfl (by kernel_rfl) (by kernel_rfl) (by kernel_rfl) (by decide) (fun _ _ _ h => h) (by rfl) (fun w => ?zy) hRR (fun _ => hT) ?_
        case zy => go_simp
        (try simp only [Act.put, List.getElem_toArray, List.getElem_cons_zero, List.getElem_cons_succ, List.setIfInBounds_toArray, List.set_cons_zero, List.set_cons_succ])
        refine wpAnyZ.takeN (i := 1) (v := .pointer (some ⟨r, 0, none⟩)) rfl (by kernel_rfl) (by kernel_rfl) (by kernel_rfl) (by decide) (fun _ _ _ h => h) (by rfl) (fun w => ?zy) hRR (fun _ => hT) ?_
        case zy => go_simp
        (try simp only [Act.put, List.getElem_toArray, List.getElem_cons_zero, List.getElem_cons_succ, List.setIfInBounds_toArray, List.set_cons_zero, List.set_cons_succ])
        refine wpAnyZ.takeN (i := 2) (v := .pointer (some ⟨r, 0, none⟩)) rfl (by kernel_rfl) (by kernel_rfl) (by kernel_rfl) (by decide) (fun _ _ _ h => h) (by rfl) (fun w => ?zy) hRR (fun _ => hT) ?_
        case zy => go_simp
        (try simp only [Act.put, List.getElem_toArray, List.getElem_cons_zero, List.getElem_cons_succ, List.setIfInBounds_toArray, List.set_cons_zero, List.set_cons_succ])
        refine wpAnyZ.takeN (i := 3) (v := .pointer (some ⟨r, 2, none⟩)) rfl (by kernel_rfl) (by kernel_rfl) (by kernel_rfl) (by decide) (fun _ _ _ h => h) (by rfl) (fun w => ?zy) hRR (fun _ => hT) ?_
        case zy => go_simp
        (try simp only [Act.put, List.getElem_toArray, List.getElem_cons_zero, List.getElem_cons_succ, List.setIfInBounds_toArray, List.set_cons_zero, List.set_cons_succ])
        refine wpAnyZ.take (i := 4) (v := hi.vl) (U := fun w' => w'.cell? ⟨r, 2, none⟩ = some hi.vl) rfl (by kernel_rfl) (by kernel_rfl) (by kernel_rfl) (by decide) (fun _ _ _ h => h) (.inr ⟨fun _ h => h, by kernel_rfl⟩) (.inl (by kernel_rfl)) (.inl ⟨by rfl, fun w hw => ?zy⟩) hT hRR (fun _ => hT) ?_
        case zy => (dsimp only at hw; go_simp)
        (try simp only [Act.put, List.getElem_toArray, List.getElem_cons_zero, List.getElem_cons_succ, List.setIfInBounds_toArray, List.set_cons_zero, List.set_cons_succ])
        refine wpAnyZ.takeN (i := 5) (v := .pointer (some ⟨r, 0, none⟩)) rfl (by kernel_rfl) (by kernel_rfl) (by kernel_rfl) (by decide) (fun _ _ _ h => h) (by rfl) (fun w => ?zy) hRR (fun _ => hT) ?_
        case zy => go_simp
        (try simp only [Act.put, List.getElem_toArray, List.getElem_cons_zero, List.getElem_cons_succ, List.setIfInBounds_toArray, List.set_cons_zero, List.set_cons_succ])
        refine wpAnyZ.takeN (i := 6) (v := .pointer (some ⟨r, 0, none⟩)) rfl (by kernel_rfl) (by kernel_rfl) (by kernel_rfl) (by decide) (fun _ _ _ h => h) (by rfl) (fun w => ?zy) hRR (fun _ => hT) ?_
        case zy => go_simp
        (try simp only [Act.put, List.getElem_toArray, List.getElem_cons_zero, List.getElem_cons_succ, List.setIfInBounds_toArray, List.set_cons_zero, List.set_cons_succ])
        refine wpAnyZ.takeN (i := 7) (v := .pointer (some ⟨r, 3, none⟩)) rfl (by kernel_rfl) (by kernel_rfl) (by kernel_rfl) (by decide) (fun _ _ _ h => h) (by rfl) (fun w => ?zy) hRR (fun _ => hT) ?_
        case zy => go_simp
        (try simp only [Act.put, List.getElem_toArray, List.getElem_cons_zero, List.getElem_cons_succ, List.setIfInBounds_toArray, List.set_cons_zero, List.set_cons_succ])
        refine wpAnyZ.take (i := 8) (v := .slice (some ⟨kc, 0, none⟩) n cc) (U := (fun w' : World => w'.cell? ⟨r, 3, none⟩ = some (.slice (some ⟨kc, 0, none⟩) n cc) ∧ w'.cell? ⟨kc, i * 3, none⟩ = some (.int .i64 (blk : Int)) ∧ w'.cell? ⟨kc, i * 3 + 1, none⟩ = some (.int .i64 (at_ : Int)) ∧ w'.cell? ⟨kc, i * 3 + 2, none⟩ = some (.slice Ab BB.length cb))) rfl (by kernel_rfl) (by kernel_rfl) (by kernel_rfl) (by decide) (fun _ _ _ h => h) (.inl fun _ h => h) (.inr fun _ h => h) (.inl ⟨by rfl, fun w hw => ?zy⟩) hRR hRR (fun _ => hT) ?_
        case zy => (dsimp only at hw; obtain ⟨u0, u1, u2, u3⟩ := hw; go_simp)
        (try simp only [Act.put, List.getElem_toArray, List.getElem_cons_zero, List.getElem_cons_succ, List.setIfInBounds_toArray, List.set_cons_zero, List.set_cons_succ])
        refine wpAnyZ.takeN (i := 9) (v := .int .i64 (i : Int)) rfl (by kernel_rfl) (by kernel_rfl) (by kernel_rfl) (by decide) (fun _ _ _ h => h) (by rfl) (fun w => ?zy) hRR (fun _ => hT) ?_
        case zy => go_simp
        (try simp only [Act.put, List.getElem_toArray, List.getElem_cons_zero, List.getElem_cons_succ, List.setIfInBounds_toArray, List.set_cons_zero, List.set_cons_succ])
        refine wpAnyZ.takeN (i := 10) (v := .pointer (some ⟨kc, i * 3, none⟩)) rfl (by kernel_rfl) (by kernel_rfl) (by kernel_rfl) (by decide) (fun _ _ _ h => h) (by rfl) (fun w => ?zy) hRR (fun _ => hT) ?_
        case zy => go_simp
        (try simp only [Act.put, List.getElem_toArray, List.getElem_cons_zero, List.getElem_cons_succ, List.setIfInBounds_toArray, List.set_cons_zero, List.set_cons_succ])
        refine wpAnyZ.take (i := 11) (v := .agg #[.int .i64 (blk : Int), .int .i64 (at_ : Int), .slice Ab BB.length cb]) (U := (fun w' : World => w'.cell? ⟨r, 3, none⟩ = some (.slice (some ⟨kc, 0, none⟩) n cc) ∧ w'.cell? ⟨kc, i * 3, none⟩ = some (.int .i64 (blk : Int)) ∧ w'.cell? ⟨kc, i * 3 + 1, none⟩ = some (.int .i64 (at_ : Int)) ∧ w'.cell? ⟨kc, i * 3 + 2, none⟩ = some (.slice Ab BB.length cb))) rfl (by kernel_rfl) (by kernel_rfl) (by kernel_rfl) (by decide) (fun _ _ _ h => h) (.inl fun _ h => h) (.inr fun _ h => h) (.inl ⟨by rfl, fun w hw => ?zy⟩) hRR hRR (fun _ => hT) ?_
        case zy => (dsimp only at hw; obtain ⟨u0, u1, u2, u3⟩ := hw; go_simp)
        (try simp only [Act.put, List.getElem_toArray, List.getElem_cons_zero, List.getElem_cons_succ, List.setIfInBounds_toArray, List.set_cons_zero, List.set_cons_succ])
        refine wpAnyZ.oneK (i := 12) (E := False) (by kernel_rfl) rfl (by rfl) (fun K hK => ?_)
        go_simp
        have HS5 := Lib.hid ((HSi.out.drewN 1).alloc (.cells #[.int .i64 (blk : Int), .int .i64 (at_ : Int), .slice Ab BB.length cb] 96))
        have hT5 : (wr.drew.alloc (.cells #[.int .i64 (blk : Int), .int .i64 (at_ : Int), .slice Ab BB.length cb] 96)).cell? ⟨r, 2, none⟩ = some hi.vl := (hi.cells HS5.out).2.2.1
        have hR5 := HRC.out _ HS5.out
        refine hK.out _ _ ⟨⟨hR5, fun _ => hT5⟩, ?_⟩
        clear hK
        (try simp only [Act.put, List.getElem_toArray, List.getElem_cons_zero, List.getElem_cons_succ, List.setIfInBounds_toArray, List.set_cons_zero, List.set_cons_succ])
        have HS5b := Lib.hid (show St w0 (wr.drew.alloc (.cells #[.int .i64 (blk : Int), .int .i64 (at_ : Int), .slice Ab BB.length cb] 96)) b g vp Dp ([(r, rfO Di.n hi.base hi.vl hi.vc Di.armed hi.left Di.down Di.rd Di.wr Di.fl)] ++ (hi.Ql ++ (hi.Qc ++ (hi.K ++ T)))) from by
          have h9 := HS5.out
          unfold RfOk.rows at h9
          simp only [List.cons_append, List.append_assoc, List.nil_append] at h9 ⊢
          exact h9)
        refine wpAnyZ.oneK (i := 13) (E := False) (by kernel_rfl) rfl (by rfl) (fun K hK => ?_)
        refine step_appQ Try.underlying91 HILY.out.1 HILY.out.2.1 HILY.out.2.2.1 HILY.out.2.2.2 rfl (by omega) (P := [(r, rfO Di.n hi.base hi.vl hi.vc Di.armed hi.left Di.down Di.rd Di.wr Di.fl)]) (Q := hi.Ql) (T := hi.Qc ++ (hi.K ++ T)) HS5b.out hi.ql [.int .i64 (blk : Int), .int .i64 (at_ : Int), .slice Ab BB.length cb] rfl (by intro u hu; simp at hu; rcases hu with rfl | rfl | rfl <;> rfl) (by omega) (by simp only [maxLen]; omega) wr.heap.size (heap_alloc_new wr.drew _) _ _ rfl rfl rfl rfl ?_
        intro v1 w6 Q1 hq1 hS6
        obtain ⟨A1, c1, rfl⟩ := hq1.slice
        have hh6 : w6.heap[r]? = some (rfO Di.n hi.base hi.vl hi.vc Di.armed hi.left Di.down Di.rd Di.wr Di.fl) := hS6.mem (by simp)
        have hcell6 : w6.cell? ⟨r, 2, none⟩ = some hi.vl := cell_of_row w6 r 2 _ _ _ hh6
        have hfree6 := frozen_of_row w6 r 2 _ _ hh6
        have HPU := Lib.hid (hi.pushL ((⟨blk, at_, BB⟩ : Ly), Value.slice Ab BB.length cb) (hi.co _ HPM.out).1 hq1 hS6)
        have hR6 := HRQ.out w6 (fun q hq => hS6.kp.all q (by simp [hq])) (cell_of_row w6 r 3 _ _ _ hh6)
        have hS7 := hS6.upd 0 (k := r) rfl ((Only.refl [r] w6).setCell (by simp) (.slice A1 (hi.L.length + 1) c1)) (heap_setCell_same w6 r 2 _ _ (.slice A1 (hi.L.length + 1) c1) hh6)
        have hR7 := HRQ.out _ (fun q hq => hS7.kp.all q (by simp [hq])) (cell_of_row _ r 3 _ _ _ (heap_setCell_same w6 r 2 _ _ (.slice A1 (hi.L.length + 1) c1) hh6))
        refine hK.out _ _ ⟨⟨hR6, (fun h => (have h9 : (true : Bool) = false := h; by cases h9))⟩, ?_⟩
        clear hK hT hT5 hR5 hRR hq1 hS6 hh6 hS7
        (try simp only [Act.put, List.getElem_toArray, List.getElem_cons_zero, List.getElem_cons_succ, List.setIfInBounds_toArray, List.set_cons_zero, List.set_cons_succ])
        refine wpAnyZ.takeN (i := 14) (v := .pointer (some ⟨r, 0, none⟩)) rfl (by kernel_rfl) (by kernel_rfl) (by kernel_rfl) (by decide) (fun _ _ _ h => h) (by rfl) (fun w => ?zy) hR6 (fun h => (have h9 : (true : Bool) = false := h; by cases h9)) ?_
        case zy => go_simp
        (try simp only [Act.put, List.getElem_toArray, List.getElem_cons_zero, List.getElem_cons_succ, List.setIfInBounds_toArray, List.set_cons_zero, List.set_cons_succ])
        refine wpAnyZ.takeN (i := 15) (v := .pointer (some ⟨r, 2, none⟩)) rfl (by kernel_rfl) (by kernel_rfl) (by kernel_rfl) (by decide) (fun _ _ _ h => h) (by rfl) (fun w => ?zy) hR6 (fun h => (have h9 : (true : Bool) = false := h; by cases h9)) ?_
        case zy => go_simp
        (try simp only [Act.put, List.getElem_toArray, List.getElem_cons_zero, List.getElem_cons_succ, List.setIfInBounds_toArray, List.set_cons_zero, List.set_cons_succ])
        refine wpAnyZ.oneK (i := 16) (E := False) (by kernel_rfl) rfl (by rfl) (fun K hK => ?_)
        go_simp
        refine hK.out _ _ ⟨⟨hR7, (fun h => (have h9 : (true : Bool) = false := h; by cases h9))⟩, ?_⟩
        clear hK hcell6 hfree6 hR6 hR7
        refine wpAnyZ.done (by kernel_rfl) ?_ _

        go_wp2
        go_roundw
        case rel =>
          obtain ⟨hn9, hnL, hnC, hnS⟩ := HPU.out
          exact ⟨i + 1, _, hn9, by (have e9 := HST.out); rw [show (⟨⟨blk, at_, BB⟩, Value.slice Ab BB.length cb⟩ : Ly × Value).1 = ⟨blk, at_, BB⟩ from rfl]; simp only at e9 ⊢; rw [e9, HDi.out], by have := HIN.out; omega, by go_num, by rw [hnC, HIC.out], by rw [hnL, List.length_append, HIL.out]; simp; omega, hnS⟩
        case measure => have := HIN.out; simp [intOf]; omega
      · obtain rfl : i = h2.C.length := by omega
        obtain ⟨Ac, cc, hvc⟩ := hi.qc.slice
        rw [hnl] at hvc
        rw [hvc] at c3
        have f3 := hi.free hSi 3
        have HDR := Lib.hid (hi.dropC hSi)
        have HTK := Lib.hid (show ({ Di with C := [] } : DS) = { D3 with C := [], M := layA (fun _ => 512) 0 D3.C D3.M } by
          have hl3 : D3.C.length = h2.C.length := by rw [h2.hC, List.length_map]
          have hT3 : D3.C.take h2.C.length = D3.C := by rw [← hl3, List.take_length]
          rw [hT3] at hDi
          rw [hDi])
        rw [HTK.out] at HDR
        clear hSi hcc hQc hDi hiC hin2
        go_wp2
        go_ret
        obtain ⟨h9, hL9, hC9, hS9⟩ := HDR.out
        exact ⟨rfl, h9, by rw [hL9, HIL.out, HLC.out.1, HLC.out.2, hC9]; exact Nat.le_refl _, hS9⟩
end
end Go.Proofs.Ytjbffahmjhbpjaa
/- The reference's device: Pending, Of. -/
set_option linter.unusedVariables false
set_option linter.unusedSimpArgs false
set_option maxRecDepth 100000
namespace Go.Proofs.Ytjbffahmjhbpjaa
open Go.RowKit
section
variable {w0 w : World} {b g : Nat} {vp : Value} {Dp D : DS} {r : Nat} {T : List (Nat × Obj)}
theorem rf_Pending (h : RfOk r D) (hS : St w0 w b g vp Dp (h.rows ++ T)) (hCn : h.C.length ≤ 100000000) :
    Calls Try.prog 55 #[.pointer (some ⟨r, 0, none⟩)] w fun e w' => ∃ u, e = .returned u ∧ OwnI w' w.heap.size u D.C.length (nums D.C) ∧ Below w.heap.size w w' := by
  have HS := Lib.hid hS
  have hDC : D.C.length = h.C.length := by rw [h.hC, List.length_map]
  have HNU := Lib.hid (show nums D.C = h.C.map fun p => ((p.1.blk : Nat) : Int) by rw [h.hC]; simp [nums, lyPd])
  rw [hDC, HNU.out]
  clear hS hDC
  go_enter Try.func55, Try.ntmps55
  go_wp2_with fail
  go_loopw [3, 4] (fun v x wx => ∃ i : Nat, i ≤ h.C.length ∧ x = .int .i64 i ∧ OwnI wx w.heap.size v i ((h.C.take i).map fun p => ((p.1.blk : Nat) : Int)) ∧ Below w.heap.size w wx) (fun _ x _ => h.C.length - (intOf x).toNat)
  case atStart => exact ⟨0, by omega, rfl, OwnI.nil _ _, Below.refl _ _⟩
  case round =>
    obtain ⟨i, hi, rfl, hO, hB⟩ := hrel
    have HO := Lib.hid hO
    have HB := Lib.hid hB
    have hz := hB.size
    have hSi := HS.out.below hB
    have c3 := (h.cells hSi).2.2.2.1
    by_cases hin : i < h.C.length
    · obtain ⟨kc, cc, hvc, g0, _, _⟩ := ly_cells hSi h.qc (by intro p hp; simp [RfOk.rows, hp]) i hin
      rw [hvc] at c3
      obtain ⟨y, hy⟩ : ∃ y, y = (h.C.getD i default).1.blk := ⟨_, rfl⟩
      rw [← hy] at g0
      have HST := Lib.hid (show ((h.C.take (i + 1)).map fun p => ((p.1.blk : Nat) : Int)) = ((h.C.take i).map fun p => ((p.1.blk : Nat) : Int)) ++ [(y : Int)] by rw [map_take_snoc _ h.C i default hin, hy])
      have hii : (0 : Int) ≤ (i : Int) ∧ (i : Int) < (h.C.length : Int) ∧ (h.C.length : Int) ≤ 100000000 := by omega
      clear hO hB hSi hvc hy
      go_wp2_with (at_builtin; refine wp_appI1 (w0 := w) w.heap.size _ HO.out HB.out hz (by omega) _ _ rfl rfl rfl rfl ?_; intro v1 w1 hO1 hB1; have HO1 := Lib.hid hO1; have HB1 := Lib.hid hB1; clear hO1 hB1)
      go_roundw
      case rel => exact ⟨i + 1, by omega, by go_num, by rw [HST.out]; exact HO1.out, HB1.out⟩
      case measure => simp [intOf]; omega
    · obtain rfl : i = h.C.length := by omega
      rw [List.take_length] at HO
      obtain ⟨Ac, cc, hvc⟩ := h.qc.slice
      rw [hvc] at c3
      clear hO hB hSi hvc
      go_wp2
      go_ret
      exact ⟨_, rfl, HO.out, HB.out⟩
end
theorem rf_Of_bad (A : Option Addr) (n c : Nat) (L : List UInt8) (w : World) (hr : Rd w A n c L) (hb : ¬ OfOk n) :
    Calls Try.prog 47 #[.slice A n c] w fun e w' => e = .returned (.tuple #[.pointer none, .int .i64 61]) ∧ w' = w := by
  have hmx := hr.max
  obtain ⟨q, hq⟩ : ∃ q, q = n / 512 := ⟨_, rfl⟩
  have e2 : (n : Int) / 512 = (q : Int) := by omega
  have hq2 : (0 : Int) ≤ (q : Int) ∧ (q : Int) ≤ 274877911040 := by omega
  rcases (by
    by_cases h1 : n % 512 = 0
    · by_cases h2 : 64 ≤ n / 512
      · by_cases h3 : n / 512 ≤ 4096
        · exact absurd ⟨h1, h2, h3⟩ hb
        · exact .inr (.inr ⟨h1, by omega, by omega⟩)
      · exact .inr (.inl ⟨h1, by omega⟩)
    · exact .inl (by omega) : ((n : Int) % 512 ≠ 0) ∨ (n % 512 = 0 ∧ (q : Int) < 64) ∨ (n % 512 = 0 ∧ 64 ≤ (q : Int) ∧ 4096 < (q : Int))) with h1 | ⟨h1, h2⟩ | ⟨h1, h2, h3⟩
  · have d1 : ((n : Int) % 512 != 0) = true := by simpa using h1
    clear hb hr hq
    go_enter Try.func47, Try.ntmps47
    go_wp2
    go_ret2
    exact ⟨rfl, rfl⟩
  · have d1 : (n : Int) % 512 = 0 := by omega
    clear hb hr hq h1
    go_enter Try.func47, Try.ntmps47
    go_wp2
    go_ret2
    exact ⟨rfl, rfl⟩
  · have d1 : (n : Int) % 512 = 0 := by omega
    have d2 : ¬ (q : Int) < 64 := by omega
    clear hb hr hq h1 h2
    go_enter Try.func47, Try.ntmps47
    go_wp2
    go_ret2
    exact ⟨rfl, rfl⟩
def ofRf (n r k : Nat) (o : Obj) (c : Nat) (L : List UInt8) (h : 64 ≤ n ∧ n ≤ 4096) (hL : L.length = n * 512) (hr : RowB o (n * 512) c L) : RfOk r ⟨n, L, [], 0, false, false, 0, 0, 0⟩ :=
  ⟨[], [], .slice none 0 0, .slice none 0 0, .slice (some ⟨k, 0, none⟩) (n * 512) c, L, 0, [], [], [(k, o)], QV.nil _ _, QV.nil _ _, ⟨hL, .inr ⟨k, o, c, rfl, by simp, hr⟩⟩, by simp, by simp, rfl, rfl, (fun h => by cases h), h⟩
end Go.Proofs.Ytjbffahmjhbpjaa
/- The reference's device: Medium. -/
set_option linter.unusedVariables false
set_option linter.unusedSimpArgs false
set_option maxRecDepth 100000
namespace Go.Proofs.Ytjbffahmjhbpjaa
open Go.RowKit
section
variable {w0 w : World} {b g : Nat} {vp : Value} {Dp D : DS} {r : Nat} {T : List (Nat × Obj)}
set_option maxHeartbeats 2000000 in
theorem rf_Medium (h : RfOk r D) (hS : St w0 w b g vp Dp (h.rows ++ T)) (hLn : h.L.length ≤ 100000000000) :
    Calls Try.prog 48 #[.pointer (some ⟨r, 0, none⟩)] w fun e w' => ∃ j c o, e = .returned (.slice (some ⟨j, 0, none⟩) (D.n * 512) c) ∧ RowB o (D.n * 512) c D.M ∧ St w0 w' b g vp Dp ((j, o) :: (h.rows ++ T)) := by
  have hsm := h.sm
  obtain ⟨N, hN⟩ : ∃ N, N = D.n * 512 := ⟨_, rfl⟩
  have hNb : (0 : Int) ≤ (N : Int) ∧ (N : Int) ≤ 2097152 ∧ (N : Int) = (D.n : Int) * 512 ∧ 0 < N := by omega
  have hmk : ∀ W, (Instr.makeSlice 29 (.int .i64 (N : Int)) (.int .i64 (N : Int))).run Try.prog W = .ok (.slice (some ⟨W.heap.size, 0, none⟩) N N) (W.alloc (.cells (zc N) 5)) := mk_u8 N N (Nat.le_refl _) (by omega)
  have hB0 : Below w.heap.size w (w.alloc (.cells (zc N) 5)) := (Below.refl _ w).alloc (Nat.le_refl _) _
  have hO0 : Own (w.alloc (.cells (zc N) 5)) w.heap.size (.slice (some ⟨w.heap.size, 0, none⟩) N N) N (List.replicate N 0) := Own.row (Nat.le_refl _) (by simp) (by omega) (by rw [← zc_bv]; exact heap_alloc_new w _)
  obtain ⟨j0, c0, o0, he, hj0, ho0, hr0⟩ := hO0.row_of hNb.2.2.2
  injection he with e1 e2 e3
  injection e1 with e1
  injection e1 with e1
  subst e1
  subst e3
  have HT0 := Lib.hid (hS.new hB0 (Nat.le_refl _) ho0)
  have HR0 := Lib.hid hr0
  obtain ⟨q, hq⟩ : ∃ q, q = w.heap.size := ⟨_, rfl⟩
  rw [← hq] at HT0
  have HQ := Lib.hid hq
  have cN := (h.cells hS).1
  have HCL := Lib.hid (fun (W : World) (R9 : List (Nat × Obj)) (h9 : St w0 W b g vp Dp R9) (hs : (h.rows ++ T).Sublist R9) => h.cells (T := T) (h9.sub hs))
  obtain ⟨PL, hPL⟩ : ∃ PL : Nat → List UInt8, PL = fun i => plays ((h.L.take i).map Prod.fst) h.M0 := ⟨_, rfl⟩
  have HPL := Lib.hid (show D.M = PL h.L.length ∧ PL 0 = h.M0 from by rw [hPL]; refine ⟨?_, rfl⟩; show D.M = plays ((h.L.take h.L.length).map Prod.fst) h.M0; rw [List.take_length]; exact h.hM)
  have HPS := Lib.hid (show ∀ i, i < h.L.length → PL (i + 1) = splice (PL i) ((h.L.getD i default).1.blk * 512 + (h.L.getD i default).1.at_) (h.L.getD i default).1.B from fun i hi => by rw [hPL]; show plays ((h.L.take (i + 1)).map Prod.fst) h.M0 = splice (plays ((h.L.take i).map Prod.fst) h.M0) _ _; rw [map_take_snoc _ h.L i default hi, plays_snoc])
  clear hPL
  have HM0 := Lib.hid h.bs.1
  have HW0 := Lib.hid (show IntKind.i64.wrap ((D.n : Int) * 512) = (N : Int) by rw [IntWalk.i64_in _ (by omega)]; omega)
  have hww := HW0.out
  rw [← hN]
  have HN := Lib.hid hN
  have hNc : (0 : Int) ≤ (N : Int) ∧ (N : Int) ≤ 2097152 ∧ 0 < N := by omega
  clear hN hNb
  have c1 := (HCL.out _ _ HT0.out (List.sublist_cons_self _ _)).2.1
  clear hS hB0 hO0 ho0 hr0 hj0
  go_enter Try.func48, Try.ntmps48
  go_wp2_with fail
  rw [← hq]
  clear hmk hq c1 cN hww
  have HBX := Lib.hid h.bs.2
  go_loopw [4] (fun x wx => ∃ i : Nat, ∃ o', i ≤ N ∧ x = .int .i64 i ∧ (i = 0 ∨ h.base ≠ .slice none 0 0) ∧ RowB o' N N (h.M0.take i ++ (List.replicate N 0).drop i) ∧ St w0 wx b g vp Dp ((q, o') :: (h.rows ++ T))) (fun x _ => N - (intOf x).toNat)
  case atStart => exact ⟨0, o0, by omega, rfl, .inl rfl, HR0.out, by rw [HQ.out] at HT0 ⊢; exact HT0.out⟩
  case round =>
    obtain ⟨i, o', hi, rfl, hb0, hr, hT⟩ := hrel
    have HR := Lib.hid hr
    have HT := Lib.hid hT
    obtain ⟨-, c1, c2, -⟩ := HCL.out _ _ hT (List.sublist_cons_self _ _)
    have hM0l : h.M0.length = N := by rw [HM0.out, ← HN.out]
    rcases HBX.out with ⟨hbn, hMz⟩ | ⟨kb, ob, cb, hbn, hmb, hrb⟩
    · rw [hbn] at c1
      obtain rfl : i = 0 := by
        rcases hb0 with h1 | h1
        · exact h1
        · exact absurd hbn h1
      have HRm := Lib.hid (show RowB o' N N h.M0 from by rw [hMz, ← HN.out]; simpa using hr)
      have HTm := HT
      clear hr hT hbn hMz hb0 c2
      go_wp2_with fail
      go_loopw [5, 6] (fun x _ wx => ∃ i : Nat, ∃ o', i ≤ h.L.length ∧ x = .int .i64 i ∧ RowB o' N N (PL i) ∧ St w0 wx b g vp Dp ((q, o') :: (h.rows ++ T))) (fun x _ _ => h.L.length - (intOf x).toNat)
      case atStart => exact ⟨0, _, by omega, rfl, by rw [HPL.out.2]; exact HRm.out, HTm.out⟩
      case round =>
        obtain ⟨i, o', hi, rfl, hr, hT⟩ := hrel
        have HR1 := Lib.hid hr
        have HT1 := Lib.hid hT
        have c2 := (HCL.out _ _ hT (List.sublist_cons_self _ _)).2.2.1
        clear hr hT
        by_cases hin : i < h.L.length
        · obtain ⟨kl, c9, hv, g0, g1, g2⟩ := ly_cells HT1.out h.ql (by intro p hp; simp [RfOk.rows, hp]) i hin
          rw [hv] at c2
          obtain ⟨p, hp⟩ : ∃ p, p = h.L.getD i default := ⟨_, rfl⟩
          rw [← hp] at g0 g1 g2
          have HP := Lib.hid (h.lo p (by rw [hp]; exact getD_mem h.L i default hin))
          have HST := Lib.hid (show PL (i + 1) = splice (PL i) (p.1.blk * 512 + p.1.at_) p.1.B by rw [HPS.out i hin, ← hp])
          have HG := Lib.hid (fun (W : World) (R9 : List (Nat × Obj)) (h9 : St w0 W b g vp Dp R9) (hs : (h.rows ++ T).Sublist R9) => And.intro (HCL.out W R9 h9 hs).2.2.1 (ly_cells h9 h.ql (by intro p hp; exact hs.subset (by simp [RfOk.rows, hp])) i hin))
          rw [← hp] at HG
          have hii : (0 : Int) ≤ (i : Int) ∧ (i : Int) < (h.L.length : Int) ∧ (h.L.length : Int) ≤ 100000000000 := by omega
          obtain ⟨⟨blk, at_, BB⟩, sv⟩ := p
          have hpf : at_ + BB.length ≤ 512 := HP.out.fit
          have hpb : blk < D.n := HP.out.blk
          dsimp only at g0 g1 g2
          have hsv : ∃ Ab cb2, sv = .slice Ab BB.length cb2 := by
            rcases HP.out.row with ⟨h1, h2⟩ | ⟨k9, o9, c9, h1, _⟩
            · have h1' : sv = .slice none 0 0 := h1
              have h2' : BB = [] := h2
              rw [h1', h2']; exact ⟨none, 0, rfl⟩
            · exact ⟨_, c9, h1⟩
          obtain ⟨Ab, cb2, rfl⟩ := hsv
          obtain ⟨cc, hcc⟩ : ∃ cc, cc = PL i := ⟨_, rfl⟩
          rw [← hcc] at HR1
          have HST2 := Lib.hid (show PL (i + 1) = splice cc (blk * 512 + at_) BB by rw [HST.out, ← hcc])
          have HCC := Lib.hid HR1.out.len
          have hoff : blk * 512 + at_ + BB.length ≤ N := by have := blk_end hpb; have := HN.out; omega
          have HI := Lib.hid hin
          clear hp hcc hin hi
          go_wp2_with fail
          clear g0 g1 g2 c2
          go_loopw [6] (fun x wx => ∃ j : Nat, ∃ o', j ≤ BB.length ∧ x = .int .i64 j ∧ RowB o' N N (splice cc (blk * 512 + at_) (BB.take j)) ∧ St w0 wx b g vp Dp ((q, o') :: (h.rows ++ T))) (fun x _ => BB.length - (intOf x).toNat)
          case atStart => exact ⟨0, o', by omega, rfl, by rw [List.take_zero, splice_nil]; exact HR1.out, HT1.out⟩
          case round =>
            obtain ⟨j, o2, hj, rfl, hr2, hT2⟩ := hrel
            have HR2 := Lib.hid hr2
            have HT2 := Lib.hid hT2
            clear hr2 hT2
            obtain ⟨g5, kl2, c22, hv2, g0, g1, g2⟩ := HG.out wr _ HT2.out (List.sublist_cons_self _ _)
            rw [hv] at hv2 g5
            injection hv2 with e1 e2 e3
            injection e1 with e1
            injection e1 with e1
            subst e1 e3
            (try dsimp only at g0 g1 g2)
            by_cases hjn : j < BB.length
            · rcases HP.out.row with ⟨h1, h2⟩ | ⟨kx, ox, cx, h1, hm, hrx⟩
              · have h2' : BB = [] := h2
                rw [h2'] at hjn
                exact absurd hjn (Nat.not_lt_zero j)
              · have h1' : Value.slice Ab BB.length cb2 = .slice (some ⟨kx, 0, none⟩) BB.length cx := h1
                injection h1' with e1 e2 e3
                subst e1 e3
                have hrx2 : RowB ox BB.length cb2 BB := hrx
                have hmX : ∀ o : Obj, (kx, ox) ∈ (q, o) :: (h.rows ++ T) := fun o => by simp [RfOk.rows, hm]
                have g3 := hrx2.cell (HT2.out.mem (hmX _)) j hjn
                obtain ⟨y, hy⟩ : ∃ y, y = BB.getD j 0 := ⟨_, rfl⟩
                rw [← hy] at g3
                have hcell := HT2.out.cell 0 rfl HR2.out (blk * 512 + at_ + j) (by omega)
                have hfree := HR2.out.free (HT2.out.get 0 rfl) (blk * 512 + at_ + j)
                generalize (splice cc (blk * 512 + at_) (BB.take j)).getD (blk * 512 + at_ + j) 0 = y0 at hcell
                have hTd := HT2.out.drewN 1
                obtain ⟨o3, ho3, hr3⟩ := HR2.out.store (hTd.get 0 rfl) (blk * 512 + at_ + j) y
                rw [hy, splice_step cc BB (blk * 512 + at_) j 0 (by rw [HCC.out]; omega) hjn] at hr3
                have hTs := hTd.store 0 (blk * 512 + at_ + j) _ rfl ho3
                have HN3 := Lib.hid (And.intro hr3 hTs)
                obtain ⟨t5, kl3, c3, hv3, t0, t1, t2⟩ := HG.out _ _ hTs (List.sublist_cons_self _ _)
                rw [hv] at hv3 t5
                injection hv3 with e1 e2 e3
                injection e1 with e1
                injection e1 with e1
                subst e1 e3
                have t3 := hrx2.cell (hTs.mem (hmX _)) j hjn
                rw [← hy] at t3
                have hw1 : IntKind.i64.wrap ((blk : Int) * 512) = (blk : Int) * 512 := IntWalk.i64_in _ (by omega)
                have hw2 : IntKind.i64.wrap ((blk : Int) * 512 + (at_ : Int)) = (blk : Int) * 512 + (at_ : Int) := IntWalk.i64_in _ (by omega)
                have hw3 : IntKind.i64.wrap ((blk : Int) * 512 + (at_ : Int) + (j : Int)) = (blk : Int) * 512 + (at_ : Int) + (j : Int) := IntWalk.i64_in _ (by omega)
                have hw4 : (0 : Int) ≤ (blk : Int) * 512 + (at_ : Int) + (j : Int) ∧ (blk : Int) * 512 + (at_ : Int) + (j : Int) < (N : Int) ∧ (0 : Int) ≤ (j : Int) ∧ (j : Int) < (BB.length : Int) := by omega
                have hw5 : ((blk : Int) * 512 + (at_ : Int) + (j : Int)).toNat = blk * 512 + at_ + j := by omega
                have HJ := Lib.hid hjn
                (try dsimp only at t0 t1 t2)
                clear ho3 hr3 hTs hTd hy hrx hrx2 h1 hm hmX hjn hj
                go_wp2_with fail
                go_region_held3 (fun w' => w'.cell? ⟨r, 2, none⟩ = some (.slice (some ⟨kl, 0, none⟩) h.L.length c9) ∧ w'.cell? ⟨kl, i * 3, none⟩ = some (.int .i64 (blk : Int)) ∧ w'.cell? ⟨kl, i * 3 + 1, none⟩ = some (.int .i64 (at_ : Int)) ∧ w'.cell? ⟨kl, i * 3 + 2, none⟩ = some (.slice (some ⟨kx, 0, none⟩) BB.length cb2) ∧ w'.cell? ⟨kx, j, none⟩ = some (.int .u8 (y.toNat : Int)))
                  (first | exact ⟨t5, t0, t1, t2, t3⟩ | exact ⟨g5, g0, g1, g2, g3⟩) (fail)
                rename_i hHeld
                clear hHeld g0 g1 g2 g3 g5 t0 t1 t2 t3 t5 hw1 hw2 hw3 hw5
                go_wp2
                go_roundw
                case rel => exact ⟨j + 1, o3, HJ.out, by go_num, HN3.out.1, HN3.out.2⟩
                case measure => have := HJ.out; simp [intOf]; omega
            · obtain rfl : j = BB.length := by omega
              rw [List.take_length] at HR2
              clear hjn hj
              go_wp2
              go_roundw
              case rel => first | exact ⟨i + 1, o2, HI.out, by go_num, by rw [HST2.out]; exact HR2.out, HT2.out⟩ | exact ⟨i + 1, HI.out, by go_num, o2, by rw [HST2.out]; exact HR2.out, HT2.out⟩
              case measure => have := HI.out; simp [intOf]; omega
        · obtain rfl : i = h.L.length := by omega
          rw [← HPL.out.1] at HR1
          obtain ⟨Al, cl, hvl⟩ := h.ql.slice
          rw [hvl] at c2
          go_wp2
          go_ret
          exact ⟨q, N, o', rfl, HR1.out, HT1.out⟩
    · rw [hbn, ← HN.out] at c1
      rw [← HN.out] at hrb
      by_cases hin : i < N
      · have g1 := hT.kp.all (kb, ob) (by simp [RfOk.rows, hmb])
        have g2 := hrb.cell g1 i hin
        obtain ⟨y, hy⟩ : ∃ y, y = h.M0.getD i 0 := ⟨_, rfl⟩
        rw [← hy] at g2
        have hcell := hT.cell 0 rfl hr i hin
        have hfree := hr.free (hT.get 0 rfl) i
        generalize (h.M0.take i ++ (List.replicate N 0).drop i).getD i 0 = y0 at hcell
        obtain ⟨o2, ho2, hr2⟩ := hr.store (hT.get 0 rfl) i y
        rw [hy, lay_stepR _ _ i (by rw [hM0l]; exact hin) (by simp; omega)] at hr2
        have HN2 := Lib.hid (And.intro hr2 (hT.store 0 i _ rfl ho2))
        have HB := Lib.hid (show h.base ≠ .slice none 0 0 from fun e => by rw [hbn] at e; injection e with e; cases e)
        have hii : (0 : Int) ≤ (i : Int) ∧ (i : Int) < (N : Int) := by omega
        have HI := Lib.hid hin
        clear hr hT g1 ho2 hr2 hy c2 hb0 hin hi
        go_wp2
        go_roundw
        case rel => exact ⟨i + 1, o2, HI.out, by go_num, .inr HB.out, HN2.out.1, HN2.out.2⟩
        case measure => have := HI.out; simp [intOf]; omega
      · obtain rfl : N = i := by omega
        have HRm := Lib.hid (show RowB o' N N h.M0 from by
          have h9 := hr
          rwa [List.take_of_length_le (by rw [hM0l]; exact Nat.le_refl _), List.drop_eq_nil_of_le (by simp), List.append_nil] at h9)
        have HTm := HT
        clear hr hT hbn hmb hrb hb0 c2 hin hi
        go_wp2_with fail
        go_loopw [5, 6] (fun x _ wx => ∃ i : Nat, ∃ o', i ≤ h.L.length ∧ x = .int .i64 i ∧ RowB o' N N (PL i) ∧ St w0 wx b g vp Dp ((q, o') :: (h.rows ++ T))) (fun x _ _ => h.L.length - (intOf x).toNat)
        case atStart => exact ⟨0, _, by omega, rfl, by rw [HPL.out.2]; exact HRm.out, HTm.out⟩
        case round =>
          obtain ⟨i, o', hi, rfl, hr, hT⟩ := hrel
          have HR1 := Lib.hid hr
          have HT1 := Lib.hid hT
          have c2 := (HCL.out _ _ hT (List.sublist_cons_self _ _)).2.2.1
          clear hr hT
          by_cases hin : i < h.L.length
          · obtain ⟨kl, c9, hv, g0, g1, g2⟩ := ly_cells HT1.out h.ql (by intro p hp; simp [RfOk.rows, hp]) i hin
            rw [hv] at c2
            obtain ⟨p, hp⟩ : ∃ p, p = h.L.getD i default := ⟨_, rfl⟩
            rw [← hp] at g0 g1 g2
            have HP := Lib.hid (h.lo p (by rw [hp]; exact getD_mem h.L i default hin))
            have HST := Lib.hid (show PL (i + 1) = splice (PL i) (p.1.blk * 512 + p.1.at_) p.1.B by rw [HPS.out i hin, ← hp])
            have HG := Lib.hid (fun (W : World) (R9 : List (Nat × Obj)) (h9 : St w0 W b g vp Dp R9) (hs : (h.rows ++ T).Sublist R9) => And.intro (HCL.out W R9 h9 hs).2.2.1 (ly_cells h9 h.ql (by intro p hp; exact hs.subset (by simp [RfOk.rows, hp])) i hin))
            rw [← hp] at HG
            have hii : (0 : Int) ≤ (i : Int) ∧ (i : Int) < (h.L.length : Int) ∧ (h.L.length : Int) ≤ 100000000000 := by omega
            obtain ⟨⟨blk, at_, BB⟩, sv⟩ := p
            have hpf : at_ + BB.length ≤ 512 := HP.out.fit
            have hpb : blk < D.n := HP.out.blk
            dsimp only at g0 g1 g2
            have hsv : ∃ Ab cb2, sv = .slice Ab BB.length cb2 := by
              rcases HP.out.row with ⟨h1, h2⟩ | ⟨k9, o9, c9, h1, _⟩
              · have h1' : sv = .slice none 0 0 := h1
                have h2' : BB = [] := h2
                rw [h1', h2']; exact ⟨none, 0, rfl⟩
              · exact ⟨_, c9, h1⟩
            obtain ⟨Ab, cb2, rfl⟩ := hsv
            obtain ⟨cc, hcc⟩ : ∃ cc, cc = PL i := ⟨_, rfl⟩
            rw [← hcc] at HR1
            have HST2 := Lib.hid (show PL (i + 1) = splice cc (blk * 512 + at_) BB by rw [HST.out, ← hcc])
            have HCC := Lib.hid HR1.out.len
            have hoff : blk * 512 + at_ + BB.length ≤ N := by have := blk_end hpb; have := HN.out; omega
            have HI := Lib.hid hin
            clear hp hcc hin hi
            go_wp2_with fail
            clear g0 g1 g2 c2
            go_loopw [6] (fun x wx => ∃ j : Nat, ∃ o', j ≤ BB.length ∧ x = .int .i64 j ∧ RowB o' N N (splice cc (blk * 512 + at_) (BB.take j)) ∧ St w0 wx b g vp Dp ((q, o') :: (h.rows ++ T))) (fun x _ => BB.length - (intOf x).toNat)
            case atStart => exact ⟨0, o', by omega, rfl, by rw [List.take_zero, splice_nil]; exact HR1.out, HT1.out⟩
            case round =>
              obtain ⟨j, o2, hj, rfl, hr2, hT2⟩ := hrel
              have HR2 := Lib.hid hr2
              have HT2 := Lib.hid hT2
              clear hr2 hT2
              obtain ⟨g5, kl2, c22, hv2, g0, g1, g2⟩ := HG.out wr _ HT2.out (List.sublist_cons_self _ _)
              rw [hv] at hv2 g5
              injection hv2 with e1 e2 e3
              injection e1 with e1
              injection e1 with e1
              subst e1 e3
              (try dsimp only at g0 g1 g2)
              by_cases hjn : j < BB.length
              · rcases HP.out.row with ⟨h1, h2⟩ | ⟨kx, ox, cx, h1, hm, hrx⟩
                · have h2' : BB = [] := h2
                  rw [h2'] at hjn
                  exact absurd hjn (Nat.not_lt_zero j)
                · have h1' : Value.slice Ab BB.length cb2 = .slice (some ⟨kx, 0, none⟩) BB.length cx := h1
                  injection h1' with e1 e2 e3
                  subst e1 e3
                  have hrx2 : RowB ox BB.length cb2 BB := hrx
                  have hmX : ∀ o : Obj, (kx, ox) ∈ (q, o) :: (h.rows ++ T) := fun o => by simp [RfOk.rows, hm]
                  have g3 := hrx2.cell (HT2.out.mem (hmX _)) j hjn
                  obtain ⟨y, hy⟩ : ∃ y, y = BB.getD j 0 := ⟨_, rfl⟩
                  rw [← hy] at g3
                  have hcell := HT2.out.cell 0 rfl HR2.out (blk * 512 + at_ + j) (by omega)
                  have hfree := HR2.out.free (HT2.out.get 0 rfl) (blk * 512 + at_ + j)
                  generalize (splice cc (blk * 512 + at_) (BB.take j)).getD (blk * 512 + at_ + j) 0 = y0 at hcell
                  have hTd := HT2.out.drewN 1
                  obtain ⟨o3, ho3, hr3⟩ := HR2.out.store (hTd.get 0 rfl) (blk * 512 + at_ + j) y
                  rw [hy, splice_step cc BB (blk * 512 + at_) j 0 (by rw [HCC.out]; omega) hjn] at hr3
                  have hTs := hTd.store 0 (blk * 512 + at_ + j) _ rfl ho3
                  have HN3 := Lib.hid (And.intro hr3 hTs)
                  obtain ⟨t5, kl3, c3, hv3, t0, t1, t2⟩ := HG.out _ _ hTs (List.sublist_cons_self _ _)
                  rw [hv] at hv3 t5
                  injection hv3 with e1 e2 e3
                  injection e1 with e1
                  injection e1 with e1
                  subst e1 e3
                  have t3 := hrx2.cell (hTs.mem (hmX _)) j hjn
                  rw [← hy] at t3
                  have hw1 : IntKind.i64.wrap ((blk : Int) * 512) = (blk : Int) * 512 := IntWalk.i64_in _ (by omega)
                  have hw2 : IntKind.i64.wrap ((blk : Int) * 512 + (at_ : Int)) = (blk : Int) * 512 + (at_ : Int) := IntWalk.i64_in _ (by omega)
                  have hw3 : IntKind.i64.wrap ((blk : Int) * 512 + (at_ : Int) + (j : Int)) = (blk : Int) * 512 + (at_ : Int) + (j : Int) := IntWalk.i64_in _ (by omega)
                  have hw4 : (0 : Int) ≤ (blk : Int) * 512 + (at_ : Int) + (j : Int) ∧ (blk : Int) * 512 + (at_ : Int) + (j : Int) < (N : Int) ∧ (0 : Int) ≤ (j : Int) ∧ (j : Int) < (BB.length : Int) := by omega
                  have hw5 : ((blk : Int) * 512 + (at_ : Int) + (j : Int)).toNat = blk * 512 + at_ + j := by omega
                  have HJ := Lib.hid hjn
                  (try dsimp only at t0 t1 t2)
                  clear ho3 hr3 hTs hTd hy hrx hrx2 h1 hm hmX hjn hj
                  go_wp2_with fail
                  go_region_held3 (fun w' => w'.cell? ⟨r, 2, none⟩ = some (.slice (some ⟨kl, 0, none⟩) h.L.length c9) ∧ w'.cell? ⟨kl, i * 3, none⟩ = some (.int .i64 (blk : Int)) ∧ w'.cell? ⟨kl, i * 3 + 1, none⟩ = some (.int .i64 (at_ : Int)) ∧ w'.cell? ⟨kl, i * 3 + 2, none⟩ = some (.slice (some ⟨kx, 0, none⟩) BB.length cb2) ∧ w'.cell? ⟨kx, j, none⟩ = some (.int .u8 (y.toNat : Int)))
                    (first | exact ⟨t5, t0, t1, t2, t3⟩ | exact ⟨g5, g0, g1, g2, g3⟩) (fail)
                  rename_i hHeld
                  clear hHeld g0 g1 g2 g3 g5 t0 t1 t2 t3 t5 hw1 hw2 hw3 hw5
                  go_wp2
                  go_roundw
                  case rel => exact ⟨j + 1, o3, HJ.out, by go_num, HN3.out.1, HN3.out.2⟩
                  case measure => have := HJ.out; simp [intOf]; omega
              · obtain rfl : j = BB.length := by omega
                rw [List.take_length] at HR2
                clear hjn hj
                go_wp2
                go_roundw
                case rel => first | exact ⟨i + 1, o2, HI.out, by go_num, by rw [HST2.out]; exact HR2.out, HT2.out⟩ | exact ⟨i + 1, HI.out, by go_num, o2, by rw [HST2.out]; exact HR2.out, HT2.out⟩
                case measure => have := HI.out; simp [intOf]; omega
          · obtain rfl : i = h.L.length := by omega
            rw [← HPL.out.1] at HR1
            obtain ⟨Al, cl, hvl⟩ := h.ql.slice
            rw [hvl] at c2
            go_wp2
            go_ret
            exact ⟨q, N, o', rfl, HR1.out, HT1.out⟩
end
end Go.Proofs.Ytjbffahmjhbpjaa
/- The reference's device: Of. -/
set_option linter.unusedVariables false
set_option linter.unusedSimpArgs false
set_option maxRecDepth 100000
namespace Go.Proofs.Ytjbffahmjhbpjaa
open Go.RowKit
theorem rf_Of_ok {w0 w : World} {b g : Nat} {vp : Value} {Dp : DS} {R : List (Nat × Obj)} (A : Option Addr) (n c : Nat) (L : List UInt8) (hS : St w0 w b g vp Dp R) (hr : Rd w A n c L) (hb : OfOk n) :
    Calls Try.prog 47 #[.slice A n c] w fun e w' => ∃ r, e = .returned (.tuple #[.pointer (some ⟨r, 0, none⟩), .int .i64 0]) ∧ ∃ h : RfOk r ⟨n / 512, L, [], 0, false, false, 0, 0, 0⟩, (h.L = [] ∧ h.C = []) ∧ St w0 w' b g vp Dp (h.rows ++ R) := by
  obtain ⟨q, hq⟩ : ∃ q, q = n / 512 := ⟨_, rfl⟩
  rw [← hq]
  have hb1 := hb.1
  have hb2 := hb.2
  rw [← hq] at hb2
  obtain rfl : n = q * 512 := by omega
  have HS := Lib.hid hS
  have HB2 := Lib.hid hb2
  have HRL := Lib.hid hr.len
  have HCP := Lib.hid (rf_copied w A (q * 512) c L hr (by omega))
  have e1 : ((q : Int) * 512) / 512 = (q : Int) := by omega
  have e2 : ((q : Int) * 512) % 512 = 0 := by omega
  have e3 : (64 : Int) ≤ (q : Int) ∧ (q : Int) ≤ 4096 := by omega
  clear hb hb1 hb2 hq hr hS
  go_enter Try.func47, Try.ntmps47
  go_wp2_with fail
  refine HCP.out.mono ?_
  rintro e w1 ⟨u, rfl, hO, hB⟩
  obtain ⟨k, c1, o, rfl, hr1, hS1⟩ := HS.out.newB hO hB (by have := HB2.out; omega)
  have HS1 := Lib.hid hS1
  have HR1 := Lib.hid hr1
  clear hO hB hr1 hS1
  go_wp2
  go_ret2
  refine ⟨w1.heap.size, rfl, ofRf q w1.heap.size k o c1 L HB2.out HRL.out HR1.out, ⟨rfl, rfl⟩, ?_⟩
  exact HS1.out.new ((Below.refl _ w1).alloc (Nat.le_refl _) _) (Nat.le_refl _) (heap_alloc_new w1 _)
end Go.Proofs.Ytjbffahmjhbpjaa
/- The reference's device: Crash, its plain part. -/
set_option linter.unusedVariables false
set_option linter.unusedSimpArgs false
set_option maxRecDepth 100000
namespace Go.Proofs.Ytjbffahmjhbpjaa
open Go.RowKit
theorem layA_append (f : Nat → Nat) : ∀ (i : Nat) (l m : List Pd) (M : List UInt8), layA f i (l ++ m) M = layA f (i + l.length) m (layA f i l M)
  | i, [], m, M => rfl
  | i, x :: r, m, M => by
    rw [List.cons_append, layA, layA_append f (i + 1) r m, layA, List.length_cons, show i + 1 + r.length = i + (r.length + 1) by omega]
theorem layA_zero {N : Nat} (f : Nat → Nat) : ∀ (i : Nat) (l : List Pd) (M : List UInt8), (∀ j, i ≤ j → f j = 0) → PdOk N l → M.length = N * 512 → layA f i l M = M
  | i, [], M, _, _, _ => rfl
  | i, x :: r, M, hf, hc, hM => by
    have hx := hc x (by simp)
    have h0 : layP M x (f i) = M := by
      rw [hf i (Nat.le_refl _)]
      exact layP_none M x (by have := blk_end hx.1; omega)
    rw [layA, h0]
    exact layA_zero f (i + 1) r M (fun j hj => hf j (by omega)) (fun y hy => hc y (by simp [hy])) hM
theorem crN_beyond (F : List Ft) (j : Nat) (h : F.length ≤ j) : crN F j = 0 := by unfold crN; rw [if_neg (by omega)]
/-- the loop ends where the cache or the fates end: the rest is dropped -/
theorem cr_end {N : Nat} (F : List Ft) (C : List Pd) (M : List UInt8) (i : Nat) (hi : i = C.length ∨ F.length ≤ i) (hiC : i ≤ C.length) (hc : PdOk N C) (hM : M.length = N * 512) : layA (crN F) 0 (C.take i) M = layA (crN F) 0 C M := by
  rcases hi with rfl | h
  · rw [List.take_length]
  · have h1 : C = C.take i ++ C.drop i := (List.take_append_drop i C).symm
    have hl : (C.take i).length = i := by rw [List.length_take]; omega
    have h2 : layA (crN F) 0 C M = layA (crN F) (0 + (C.take i).length) (C.drop i) (layA (crN F) 0 (C.take i) M) := by
      rw [← layA_append, List.take_append_drop]
    rw [h2, hl, Nat.zero_add]
    exact (layA_zero (N := N) (crN F) i _ _ (fun j hj => crN_beyond F j (by omega)) (fun x hx => hc x (List.mem_of_mem_drop hx)) (layA_len 0 _ _ (fun x hx => hc x (List.mem_of_mem_take hx)) hM)).symm
theorem crT_end (F : List Ft) (n : Nat) : ∀ d, F.length ≤ n → crT F (n + d) = crT F n
  | 0, _ => rfl
  | d + 1, h => by
    have ih := crT_end F n d h
    have h0 : crS F (n + d) = false := by unfold crS; rw [if_neg (by omega)]
    rw [← Nat.add_assoc, crT, ih, h0]; rfl
theorem crT_min (F : List Ft) (m i : Nat) (hi : i = m ∨ F.length ≤ i) (him : i ≤ m) : crT F m = crT F i := by
  rcases hi with rfl | h
  · rfl
  · have := crT_end F i (m - i) h
    rwa [show i + (m - i) = m by omega] at this
end Go.Proofs.Ytjbffahmjhbpjaa
