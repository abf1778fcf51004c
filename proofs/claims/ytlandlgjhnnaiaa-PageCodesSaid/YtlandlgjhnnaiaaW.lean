/- Words on memory for all walks: a slice of bytes that is read. -/
import Derived.WalkKit
import Derived.KernelRfl
import Derived.RowKit
import Derived.Lib.Hide
import Derived.Deep.Draws
import Derived.Deep.MidRow
set_option linter.unusedVariables false
set_option linter.unusedSimpArgs false
namespace Go.Proofs.Ytlandlgjhnnaiaa
open Go.RowKit
theorem iv {k : IntKind} {a b : Int} (h : a = b) : Value.int k a = .int k b := by rw [h]
theorem ret_u32 {a b : Int} (h : a = b) : Ending.returned (.int .u32 a) = .returned (.int .u32 b) := by rw [h]
theorem cell_ext {w w' : World} (hb : Below w.heap.size w w') {p : Addr} {v : Value} (h : w.cell? p = some v) : w'.cell? p = some v := (hb.cell (World.block_lt_of_cell? w _ h)).trans h
structure Rd (w : World) (A : Option Addr) (n c : Nat) (l : List UInt8) : Prop where
  len : l.length = n
  cap : n ≤ c
  max : n ≤ 140737490452480
  at_ : 0 < n → ∃ b o, A = some ⟨b, o, none⟩ ∧ ∀ j, j < n → w.cell? ⟨b, o + j, none⟩ = some (.int .u8 ((l.getD j 0).toNat : Int))
theorem Rd.nil (w : World) : Rd w none 0 0 [] := ⟨rfl, Nat.le_refl _, by omega, fun hp => absurd hp (by omega)⟩
theorem Rd.ext {w w' : World} {A : Option Addr} {n c : Nat} {l : List UInt8} (h : Rd w A n c l) (hb : Below w.heap.size w w') : Rd w' A n c l :=
  ⟨h.len, h.cap, h.max, fun hn => by
    obtain ⟨b, o, e, hc⟩ := h.at_ hn
    exact ⟨b, o, e, fun j hj => (hb.cell (World.block_lt_of_cell? w _ (hc j hj))).trans (hc j hj)⟩⟩
theorem Rd.drew {w : World} {A : Option Addr} {n c : Nat} {l : List UInt8} (h : Rd w A n c l) (k : Nat) : Rd (w.drewN k) A n c l :=
  ⟨h.len, h.cap, h.max, h.at_⟩
theorem Rd.take {w : World} {A : Option Addr} {n c : Nat} {l : List UInt8} (h : Rd w A n c l) (m : Nat) (hm : m ≤ n) : Rd w A m c (l.take m) := by
  have := h.len
  refine ⟨by simp; omega, Nat.le_trans hm h.cap, Nat.le_trans hm h.max, fun hp => ?_⟩
  obtain ⟨b, o, e, hc⟩ := h.at_ (by omega)
  refine ⟨b, o, e, fun j hj => ?_⟩
  rw [hc j (by omega)]
  simp [List.getD_eq_getElem?_getD, hj]
theorem u8_lt (c : UInt8) : c.toNat < 256 := c.toNat_lt
theorem take_snoc {α : Type} (l : List α) (k : Nat) (d : α) (h : k < l.length) : l.take (k + 1) = l.take k ++ [l.getD k d] := by
  rw [List.take_succ_eq_append_getElem h, List.getD_eq_getElem?_getD, List.getElem?_eq_getElem h]; rfl

theorem below_drewN {B : Nat} {w W : World} (h : Below B w W) (n : Nat) : Below B w (W.drewN n) := ⟨h.os, h.tape, h.output, h.size, h.block⟩
/-! ### a run of cells written -/
theorem below_setCells {B b : Nat} (hb : B ≤ b) {a : World} : ∀ (vs : List Value) (o : Nat) {w : World}, Below B a w → Below B a (w.setCells b o vs)
  | [], _, _, h => h
  | v :: r, o, w, h => below_setCells hb r (o + 1) (h.setCell (p := ⟨b, o, none⟩) hb v)
def splc (cs : Array Value) (o : Nat) : List Value → Array Value
  | [] => cs
  | v :: r => splc (cs.setIfInBounds o v) (o + 1) r
theorem splc_size : ∀ (vs : List Value) (cs : Array Value) (o : Nat), (splc cs o vs).size = cs.size
  | [], _, _ => rfl
  | v :: r, cs, o => by rw [splc, splc_size r]; simp
theorem splc_get : ∀ (vs : List Value) (cs : Array Value) (o j : Nat), (splc cs o vs)[j]? = if o ≤ j ∧ j < o + vs.length ∧ j < cs.size then vs[j - o]? else cs[j]?
  | [], cs, o, j => by
    rw [splc, if_neg]
    intro h; simp at h; omega
  | v :: r, cs, o, j => by
    rw [splc, splc_get r, Array.size_setIfInBounds]
    by_cases h1 : o = j
    · subst h1
      rw [if_neg (by omega), Array.getElem?_setIfInBounds, if_pos rfl]
      by_cases h2 : o < cs.size
      · rw [if_pos h2, if_pos (by simp [h2])]; simp
      · rw [if_neg h2, if_neg (by omega), Array.getElem?_eq_none (by omega)]
    · rw [Array.getElem?_setIfInBounds, if_neg h1]
      by_cases h2 : o + 1 ≤ j ∧ j < o + 1 + r.length ∧ j < cs.size
      · rw [if_pos h2, if_pos (by simp only [List.length_cons]; omega)]
        rw [show j - o = (j - (o + 1)) + 1 by omega, List.getElem?_cons_succ]
      · rw [if_neg h2, if_neg (by simp only [List.length_cons]; omega)]
theorem splc_all (vs : List Value) (cs : Array Value) (h : vs.length = cs.size) : splc cs 0 vs = vs.toArray := by
  apply Array.ext_getElem?
  intro j
  rw [splc_get]
  by_cases hj : j < cs.size
  · rw [if_pos (by omega)]; simp
  · rw [if_neg (by omega), Array.getElem?_eq_none (by omega), Array.getElem?_eq_none (by simp; omega)]
theorem heap_setCells_at (b : Nat) (t : TypeId) : ∀ (vs : List Value) (o : Nat) (w : World) (cs : Array Value), w.heap[b]? = some (.cells cs t (0, 0)) →
    (w.setCells b o vs).heap[b]? = some (.cells (splc cs o vs) t (0, 0))
  | [], _, _, _, h => h
  | v :: r, o, w, cs, h => heap_setCells_at b t r (o + 1) _ _ (heap_setCell_same w b o cs t v h)
theorem heap_setCells_ne (b k : Nat) (hk : k ≠ b) : ∀ (vs : List Value) (o : Nat) (w : World), (w.setCells b o vs).heap[k]? = w.heap[k]?
  | [], _, _ => rfl
  | v :: r, o, w => by
    rw [World.setCells, heap_setCells_ne b k hk r, heap_setCell_other _ _ _ _ (by simpa using hk)]
theorem size_setCells (b : Nat) : ∀ (vs : List Value) (o : Nat) (w : World), (w.setCells b o vs).heap.size = w.heap.size
  | [], _, _ => rfl
  | v :: r, o, w => by
    rw [World.setCells, size_setCells b r]; simp
theorem there_of_row {w : World} {b : Nat} {cs : Array Value} {t : TypeId} (h : w.heap[b]? = some (.cells cs t (0, 0))) : w.there b 0 cs.size := by
  intro j hj
  refine ⟨?_, frozen_of_row w _ _ _ _ h⟩
  rw [cell_of_row w _ _ _ _ _ h, Nat.zero_add, Array.getElem?_eq_getElem hj]; rfl
end Go.Proofs.Ytlandlgjhnnaiaa
