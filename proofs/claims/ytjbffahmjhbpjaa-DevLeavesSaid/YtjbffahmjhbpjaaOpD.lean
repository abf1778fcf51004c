/- A script of steps on a device, as it lies in memory. -/
import Derived.Test.YtjbffahmjhbpjaaDvd
set_option linter.unusedVariables false
set_option linter.unusedSimpArgs false
namespace Go.Proofs.Ytjbffahmjhbpjaa
open Go.RowKit
structure OpD where
  two : Bool
  kind : Int
  blk : Int
  num : Int
  len : Int
  fill : UInt8
  B : List UInt8
  F : List Ft
instance : Inhabited OpD := ⟨⟨false, 0, 0, 0, 0, 0, [], []⟩⟩
def i64B (x : Int) : Prop := -9223372036854775808 ≤ x ∧ x < 9223372036854775808
def OpD.ok (x : OpD) : Prop := i64B x.kind ∧ i64B x.blk ∧ i64B x.num ∧ i64B x.len ∧ x.B.length ≤ 140737488351232 ∧ x.F.length ≤ 8796093022207
/-- a step lies at a place -/
structure OpAt (w : World) (b o : Nat) (x : OpD) : Prop where
  ok : x.ok
  c0 : w.cell? ⟨b, o, none⟩ = some (.bool x.two)
  c1 : w.cell? ⟨b, o + 1, none⟩ = some (.int .i64 x.kind)
  c2 : w.cell? ⟨b, o + 2, none⟩ = some (.int .i64 x.blk)
  c3 : w.cell? ⟨b, o + 3, none⟩ = some (.int .i64 x.num)
  c4 : w.cell? ⟨b, o + 4, none⟩ = some (.int .i64 x.len)
  c5 : w.cell? ⟨b, o + 5, none⟩ = some (.int .u8 (x.fill.toNat : Int))
  c6 : ∃ A n c, w.cell? ⟨b, o + 6, none⟩ = some (.slice A n c) ∧ Rd w A n c x.B
  c7 : ∃ A n c, w.cell? ⟨b, o + 7, none⟩ = some (.slice A n c) ∧ RdF w A n c x.F
structure RdO (w : World) (A : Option Addr) (n c : Nat) (l : List OpD) : Prop where
  len : l.length = n
  cap : n ≤ c
  max : n ≤ 140737488355328
  at_ : 0 < n → ∃ b o, A = some ⟨b, o, none⟩ ∧ ∀ j, j < n → OpAt w b (o + j * 8) (l.getD j default)
theorem OpAt.ext {w w' : World} {b o : Nat} {x : OpD} (h : OpAt w b o x) (hb : Below w.heap.size w w') : OpAt w' b o x := by
  obtain ⟨A6, n6, c6, h6, r6⟩ := h.c6
  obtain ⟨A7, n7, c7, h7, r7⟩ := h.c7
  exact ⟨h.ok, cell_ext hb h.c0, cell_ext hb h.c1, cell_ext hb h.c2, cell_ext hb h.c3, cell_ext hb h.c4, cell_ext hb h.c5, ⟨A6, n6, c6, cell_ext hb h6, r6.ext hb⟩, ⟨A7, n7, c7, cell_ext hb h7, r7.ext hb⟩⟩
theorem RdO.ext {w w' : World} {A : Option Addr} {n c : Nat} {l : List OpD} (h : RdO w A n c l) (hb : Below w.heap.size w w') : RdO w' A n c l :=
  ⟨h.len, h.cap, h.max, fun hn => by
    obtain ⟨b, o, e, hc⟩ := h.at_ hn
    exact ⟨b, o, e, fun j hj => (hc j hj).ext hb⟩⟩
end Go.Proofs.Ytjbffahmjhbpjaa
