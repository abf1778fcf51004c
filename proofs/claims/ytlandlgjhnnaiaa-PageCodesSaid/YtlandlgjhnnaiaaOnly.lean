/- Words on memory: only the blocks of S may have changed; ints as values; a slice of ints that is read. -/
import Derived.Test.YtlandlgjhnnaiaaProg
import Derived.Test.YtlandlgjhnnaiaaW
import Derived.Maps.AppendAt
set_option linter.unusedVariables false
set_option linter.unusedSimpArgs false
namespace Go.Proofs.Ytlandlgjhnnaiaa
open Go.RowKit
/-- Of the blocks that were, only those of S changed. -/
structure Only (S : List Nat) (w w' : World) : Prop where
  os : w'.os = w.os
  tape : w'.tape = w.tape
  output : w'.output = w.output
  size : w.heap.size ≤ w'.heap.size
  blk : ∀ k, k < w.heap.size → k ∉ S → w'.heap[k]? = w.heap[k]?
theorem Only.refl (S : List Nat) (w : World) : Only S w w := ⟨rfl, rfl, rfl, Nat.le_refl _, fun _ _ _ => rfl⟩
theorem Only.trans {S : List Nat} {a b c : World} (h : Only S a b) (k : Only S b c) : Only S a c :=
  ⟨k.os.trans h.os, k.tape.trans h.tape, k.output.trans h.output, Nat.le_trans h.size k.size, fun i hi hs => (k.blk i (Nat.lt_of_lt_of_le hi h.size) hs).trans (h.blk i hi hs)⟩
theorem Only.of_below {w w' : World} (S : List Nat) (h : Below w.heap.size w w') : Only S w w' := ⟨h.os, h.tape, h.output, h.size, fun k hk _ => h.block k hk⟩
theorem Only.below {B : Nat} {w w' : World} {S : List Nat} (h : Only S w w') (hB : B ≤ w.heap.size) (hS : ∀ k ∈ S, B ≤ k) : Below B w w' := ⟨h.os, h.tape, h.output, h.size, fun k hk => h.blk k (Nat.lt_of_lt_of_le hk hB) (fun hm => by have := hS k hm; omega)⟩
theorem Only.mono {S S' : List Nat} {w w' : World} (h : Only S w w') (hs : ∀ k ∈ S, k ∈ S') : Only S' w w' := ⟨h.os, h.tape, h.output, h.size, fun k hk hn => h.blk k hk (fun hm => hn (hs k hm))⟩
theorem Only.setCell {S : List Nat} {a w : World} (h : Only S a w) {p : Addr} (hp : p.block ∈ S) (u : Value) : Only S a (w.setCell p u) :=
  h.trans ⟨rfl, rfl, rfl, by simp, fun k _ hk => heap_setCell_other w p k u (fun e => hk (e ▸ hp))⟩
theorem Only.setNew {S : List Nat} {a w : World} (h : Only S a w) {p : Addr} (hp : a.heap.size ≤ p.block) (u : Value) : Only S a (w.setCell p u) :=
  ⟨h.os, h.tape, h.output, by have := h.size; simpa using this, fun k hk hs => (heap_setCell_other w p k u (by omega)).trans (h.blk k hk hs)⟩
theorem Only.drew {S : List Nat} {a w : World} (h : Only S a w) : Only S a w.drew := ⟨h.os, h.tape, h.output, h.size, h.blk⟩
theorem Only.drewN {S : List Nat} {a w : World} (h : Only S a w) (n : Nat) : Only S a (w.drewN n) := ⟨h.os, h.tape, h.output, h.size, h.blk⟩
theorem Only.alloc {S : List Nat} {a w : World} (h : Only S a w) (o : Obj) : Only S a (w.alloc o) :=
  h.trans ⟨rfl, rfl, rfl, by simp, fun k hk _ => Below.heap_alloc w o k hk⟩
/-- ints as values -/
def iv_ (xs : List Int) : List Value := xs.map fun x => .int .i64 x
theorem iv_length (xs : List Int) : (iv_ xs).length = xs.length := by simp [iv_]
theorem iv_append (xs ys : List Int) : iv_ (xs ++ ys) = iv_ xs ++ iv_ ys := by simp [iv_]
theorem iv_get (xs : List Int) (j : Nat) (h : j < xs.length) : (iv_ xs)[j]? = some (.int .i64 (xs.getD j 0)) := by
  simp [iv_, List.getElem?_eq_getElem h, List.getD_eq_getElem?_getD]
theorem iv_one (xs : List Int) : ∀ u ∈ iv_ xs, u.oneCell' = true := by
  intro u hu; simp only [iv_, List.mem_map] at hu; obtain ⟨c, _, rfl⟩ := hu; rfl
/-- The cells of a slice of ints hold the list l; none of its cells lies in the blocks of D. -/
structure RdI (D : List Nat) (w : World) (A : Option Addr) (n c : Nat) (l : List Int) : Prop where
  len : l.length = n
  cap : n ≤ c
  max : n ≤ 140737488355328
  at_ : 0 < n → ∃ b o, A = some ⟨b, o, none⟩ ∧ b ∉ D ∧ ∀ j, j < n → w.cell? ⟨b, o + j, none⟩ = some (.int .i64 (l.getD j 0))
theorem RdI.nil (D : List Nat) (w : World) : RdI D w none 0 0 [] := ⟨rfl, Nat.le_refl _, by omega, fun hp => absurd hp (by omega)⟩
theorem RdI.only {D S : List Nat} {w w' : World} {A : Option Addr} {n c : Nat} {l : List Int} (h : RdI D w A n c l) (hw : Only S w w') (hs : ∀ k ∈ S, k ∈ D) : RdI D w' A n c l :=
  ⟨h.len, h.cap, h.max, fun hn => by
    obtain ⟨b, o, e, hb, hc⟩ := h.at_ hn
    refine ⟨b, o, e, hb, fun j hj => ?_⟩
    have hlt := World.block_lt_of_cell? w _ (hc j hj)
    have := hw.blk b hlt (fun hm => hb (hs b hm))
    exact (World.cell?_of_block (w := w) (a := ⟨b, o + j, none⟩) this).trans (hc j hj)⟩
theorem RdI.ext {D : List Nat} {w w' : World} {A : Option Addr} {n c : Nat} {l : List Int} (h : RdI D w A n c l) (hb : Below w.heap.size w w') : RdI D w' A n c l := h.only (Only.of_below D hb) (fun _ h => h)
theorem RdI.sub {D D' : List Nat} {w : World} {A : Option Addr} {n c : Nat} {l : List Int} (h : RdI D w A n c l) (hs : ∀ k ∈ D', k ∈ D) : RdI D' w A n c l :=
  ⟨h.len, h.cap, h.max, fun hn => by
    obtain ⟨b, o, e, hb, hc⟩ := h.at_ hn
    exact ⟨b, o, e, fun hm => hb (hs b hm), hc⟩⟩
end Go.Proofs.Ytlandlgjhnnaiaa
