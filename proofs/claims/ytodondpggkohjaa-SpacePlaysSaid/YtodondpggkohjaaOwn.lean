/- Words on memory: a slice of bytes that the call itself made, and append onto it. -/
import Derived.Test.YtodondpggkohjaaProg
import Derived.Test.YtodondpggkohjaaW
import Derived.Maps.AppendAt
import Derived.ArgAppend
import Derived.Deep.DeepAppendWide
import Derived.Laws.BytesArg
import Derived.Lib.ConvBytes
import Derived.Lib.SlBytesConst
set_option linter.unusedVariables false
set_option linter.unusedSimpArgs false
set_option maxRecDepth 100000
namespace Go.Proofs.Ytodondpggkohjaa
open Go.RowKit
theorem info_u8 : (Try.prog.info? 5).map (fun i => (i.zero, i.size, i.bytes)) = some (some (.int .u8 0), 1, 1) := by kernel_rfl
def bv (l : List UInt8) : List Value := l.map fun c => .int .u8 (c.toNat : Int)
theorem bv_length (l : List UInt8) : (bv l).length = l.length := by simp [bv]
theorem bv_append (l m : List UInt8) : bv (l ++ m) = bv l ++ bv m := by simp [bv]
theorem bv_get (l : List UInt8) (j : Nat) (h : j < l.length) : (bv l)[j]? = some (.int .u8 ((l.getD j 0).toNat : Int)) := by
  simp [bv, List.getElem?_eq_getElem h, List.getD_eq_getElem?_getD]
theorem bv_one (l : List UInt8) : ∀ u ∈ bv l, u.oneCell' = true := by
  intro u hu; simp only [bv, List.mem_map] at hu; obtain ⟨c, _, rfl⟩ := hu; rfl
/-- v is a slice of bytes in a block from base on, unfrozen, that holds l (or nil and l empty). -/
def Own (w : World) (base : Nat) (v : Value) (n : Nat) (l : List UInt8) : Prop := w.ownsRow base 5 1 v n (bv l)
theorem Own.len {w : World} {base n : Nat} {v : Value} {l : List UInt8} (h : Own w base v n l) : l.length = n := by
  have := h.1; rwa [bv_length, Nat.mul_one] at this
theorem Own.nil (w : World) (base : Nat) : Own w base (.slice none 0 0) 0 [] := World.ownsRow_nil w base _ _
theorem Own.mono {w : World} {base base' n : Nat} {v : Value} {l : List UInt8} (h : Own w base v n l) (hb : base' ≤ base) : Own w base' v n l := by
  refine ⟨h.1, ?_⟩
  rcases h.2 with h | ⟨g, cap, cur, h1, h2, h3⟩
  · exact .inl h
  · exact .inr ⟨g, cap, cur, h1, Nat.le_trans hb h2, h3⟩
theorem Own.ext {w w' : World} {base n : Nat} {v : Value} {l : List UInt8} (h : Own w base v n l) (hb : Below w.heap.size w w') : Own w' base v n l := by
  refine World.ownsRow.kept (row := none) h ⟨hb.os, hb.tape, hb.output, hb.size, fun i hi _ => hb.block i hi⟩ ?_
  cases v.ownBlock <;> simp
theorem Own.drew {w : World} {base n : Nat} {v : Value} {l : List UInt8} (h : Own w base v n l) : Own w.drew base v n l := h
theorem Own.drewN {w : World} {base n : Nat} {v : Value} {l : List UInt8} (h : Own w base v n l) (k : Nat) : Own (w.drewN k) base v n l := h
theorem Own.alloc {w : World} {base n : Nat} {v : Value} {l : List UInt8} (h : Own w base v n l) (o : Obj) : Own (w.alloc o) base v n l := World.ownsRow.alloc h o
theorem Own.other {w w' : World} {base n : Nat} {v : Value} {l : List UInt8} (h : Own w base v n l) {row : Option Nat} (hg : w.grownBy w' row) (hne : v.ownBlock = none ∨ v.ownBlock ≠ row) : Own w' base v n l := World.ownsRow.kept h hg hne
theorem Own.rd {w : World} {base n : Nat} {v : Value} {l : List UInt8} (h : Own w base v n l) (hm : n ≤ 140737490452480) : ∃ A c, v = .slice A n c ∧ Rd w A n c l := by
  have hl := h.len
  rcases h.2 with ⟨rfl, h0⟩ | ⟨g, cap, cur, rfl, hb, hh, h1, h2, h3, h4⟩
  · subst h0
    exact ⟨none, 0, rfl, hl, Nat.le_refl _, by omega, fun hp => absurd hp (by omega)⟩
  · refine ⟨_, cap, rfl, hl, h1, hm, fun hp => ⟨g, 0, rfl, fun j hj => ?_⟩⟩
    have := World.ownsRow.cells h (g := g) rfl j _ (bv_get l j (by omega))
    rwa [Addr.add_mid] at this
theorem Own.form {w : World} {base n : Nat} {v : Value} {l : List UInt8} (h : Own w base v n l) (hp : 0 < n) : ∃ g c, v = .slice (some ⟨g, 0, none⟩) n c ∧ base ≤ g ∧ g < w.heap.size := by
  rcases h.2 with ⟨_, h0⟩ | ⟨g, cap, cur, rfl, hb, hh, _⟩
  · omega
  · exact ⟨g, cap, rfl, hb, lt_of_block hh⟩
def bstr (l : List UInt8) : ByteArray := ⟨l.toArray⟩
theorem bstr_size (l : List UInt8) : (bstr l).size = l.length := by simp [bstr, ByteArray.size]
theorem bstr_inj {l m : List UInt8} (h : bstr l = bstr m) : l = m := by
  have := congrArg (fun b : ByteArray => b.data.toList) h
  simpa [bstr] using this
theorem bstr_eq (s : ByteArray) : bstr s.data.toList = s := by cases s; rfl
theorem strOfNums_bytes (l : List UInt8) : strOfNums (l.map fun c => (c.toNat : Int)) = bstr l := by
  unfold strOfNums bstr
  congr 2
  rw [List.map_map]
  conv => rhs; rw [← List.map_id l]
  apply List.map_congr_left
  intro c _
  simp
/-- a literal block of bytes -/
theorem Rd.lit (w : World) (l : List UInt8) (n : Nat) (hn : l.length = n) (hm : n ≤ 140737490452480) (fr : Nat × Nat := (0, 0)) : Rd (w.alloc (.cells (bv l).toArray 5 fr)) (some ⟨w.heap.size, 0, none⟩) n n l :=
  ⟨hn, Nat.le_refl _, hm, fun _ => ⟨_, _, rfl, fun j hj => by
    rw [cell_of_row _ _ _ _ _ _ (heap_alloc_new w _)]
    simpa using bv_get l j (by omega)⟩⟩
section
variable {ops : Array Oper} {rest : List Oper} {o : Oper} {a : Act} {Q : Exit → Act → World → Prop}
end
/-- The cells of a slice of slices of bytes hold the lists ls. -/
structure Rds (w : World) (A : Option Addr) (n c : Nat) (ls : List (List UInt8)) : Prop where
  len : ls.length = n
  cap : n ≤ c
  max : n ≤ 140737488355328
  at_ : 0 < n → ∃ b o, A = some ⟨b, o, none⟩ ∧ ∀ j, j < n → ∃ A1 n1 c1, w.cell? ⟨b, o + j, none⟩ = some (.slice A1 n1 c1) ∧ Rd w A1 n1 c1 (ls.getD j [])
theorem Rds.ext {w w' : World} {A : Option Addr} {n c : Nat} {ls : List (List UInt8)} (h : Rds w A n c ls) (hb : Below w.heap.size w w') : Rds w' A n c ls :=
  ⟨h.len, h.cap, h.max, fun hn => by
    obtain ⟨b, o, e, hc⟩ := h.at_ hn
    refine ⟨b, o, e, fun j hj => ?_⟩
    obtain ⟨A1, n1, c1, h1, h2⟩ := hc j hj
    exact ⟨A1, n1, c1, (hb.cell (World.block_lt_of_cell? w _ h1)).trans h1, h2.ext hb⟩⟩
theorem Rds.drew {w : World} {A : Option Addr} {n c : Nat} {ls : List (List UInt8)} (h : Rds w A n c ls) (k : Nat) : Rds (w.drewN k) A n c ls :=
  ⟨h.len, h.cap, h.max, fun hn => by
    obtain ⟨b, o, e, hc⟩ := h.at_ hn
    refine ⟨b, o, e, fun j hj => ?_⟩
    obtain ⟨A1, n1, c1, h1, h2⟩ := hc j hj
    exact ⟨A1, n1, c1, h1, h2.drew k⟩⟩
/-! ### a cell of a row of the call's own is read, and written -/
theorem Own.cell {W : World} {base n g cap : Nat} {l : List UInt8} (h : Own W base (.slice (some ⟨g, 0, none⟩) n cap) n l) (j : Nat) (hj : j < n) : W.cell? ⟨g, j, none⟩ = some (.int .u8 ((l.getD j 0).toNat : Int)) := by
  have := World.ownsRow.cellAt h j (by omega)
  rw [this, bv_get l j (by rw [h.len]; exact hj)]
theorem Own.free {W : World} {base n g cap : Nat} {l : List UInt8} (h : Own W base (.slice (some ⟨g, 0, none⟩) n cap) n l) (j : Nat) : W.frozen? ⟨g, j, none⟩ = false := World.ownsRow.frozenAt h j
theorem Own.store {W : World} {base n g cap : Nat} {l : List UInt8} (h : Own W base (.slice (some ⟨g, 0, none⟩) n cap) n l) (j : Nat) (c : UInt8) : Own (W.setCell ⟨g, j, none⟩ (.int .u8 (c.toNat : Int))) base (.slice (some ⟨g, 0, none⟩) n cap) n (l.set j c) := by
  have := (World.ownsRow.stored h j (.int .u8 (c.toNat : Int))).1
  unfold Own
  rwa [show bv (l.set j c) = (bv l).set j (.int .u8 (c.toNat : Int)) by simp [bv, List.map_set]]
theorem Own.base_le {W : World} {base n g cap : Nat} {l : List UInt8} (h : Own W base (.slice (some ⟨g, 0, none⟩) n cap) n l) : base ≤ g := ((World.ownsRow.lt h) g rfl).1
theorem Own.below_store {W : World} {base n : Nat} {v : Value} {l : List UInt8} (h : Own W base v n l) {p : Addr} (hp : p.block < base) (u : Value) : Own (W.setCell p u) base v n l := ownsRow_setCell_below h hp u
theorem Own.shorter {W : World} {base n m g cap : Nat} {l l2 : List UInt8} (h : Own W base (.slice (some ⟨g, 0, none⟩) (n + m) cap) (n + m) (l ++ l2)) (hl : l.length = n) : Own W base (.slice (some ⟨g, 0, none⟩) n cap) n l := by
  have hlen := h.len
  rcases h.2 with ⟨h', _⟩ | ⟨g', cap', cur, h', hb, hg, hnc, hcm, hcs, htake⟩
  · simp at h'
  · simp only [Value.slice.injEq, Option.some.injEq, Addr.mk.injEq, and_true, true_and] at h'
    obtain ⟨rfl, rfl⟩ := h'
    refine ⟨by rw [bv_length]; omega, .inr ⟨g, cap, cur, rfl, hb, hg, by omega, hcm, hcs, ?_⟩⟩
    have := congrArg (List.take n) htake
    rw [List.take_take, show min n ((n + m) * 1) = n * 1 by omega, bv_append, List.take_append_of_le_length (by rw [bv_length]; omega)] at this
    rw [this]
    exact List.take_of_length_le (by rw [bv_length]; omega)
section
variable {ops : Array Oper} {rest : List Oper} {o : Oper} {a : Act} {Q : Exit → Act → World → Prop}
end
/-! ### make([]byte, ..) -/
def zc (m : Nat) : Array Value := madeCells #[.int .u8 0] m
theorem Own.empty (W : World) (base : Nat) (hb : base ≤ W.heap.size) : Own (W.alloc (.cells #[] 5)) base (.slice (some ⟨W.heap.size, 0, none⟩) 0 0) 0 [] :=
  World.ownsRow_made W _ _ hb (by simp [maxLen]) (by simp)
theorem Own.made0 (W : World) (base m : Nat) (hb : base ≤ W.heap.size) (hm : m ≤ 9223372036854775807) : Own (W.alloc (.cells (zc m) 5)) base (.slice (some ⟨W.heap.size, 0, none⟩) 0 m) 0 [] :=
  World.ownsRow_made W _ _ hb (by simpa [maxLen] using hm) (by simp [zc, size_madeCells])
end Go.Proofs.Ytodondpggkohjaa
