/- The reference's space in memory: its struct, its two lists. -/
import Derived.Test.YtodondpggkohjaaSpR
import Derived.Test.YtodondpggkohjaaSpW
import Derived.Test.YtodondpggkohjaaOwnI
import Derived.Test.YtodondpggkohjaaOwn
set_option linter.unusedVariables false
set_option linter.unusedSimpArgs false
set_option maxRecDepth 100000
namespace Go.Proofs.Ytodondpggkohjaa
open Go.RowKit
theorem cut_fromI (A : Option Addr) (n c m : Nat) (hm : m ≤ n) :
    ∃ A' : Option Addr, (∀ W : World, (Instr.slice 27 (.slice A n c) (some (.int .i64 (m : Int))) none none).run Try.prog W = .ok (.slice A' (n - m) (c - m)) W) ∧
      ∀ (D : List Nat) (w : World) (l : List Int), RdI D w A n c l → RdI D w A' (n - m) (c - m) (l.drop m) := by
  obtain ⟨i0, hi, hzz⟩ := Option.map_eq_some_iff.1 info_int
  simp only [Prod.mk.injEq] at hzz
  obtain ⟨hz0, hz1, hz2⟩ := hzz
  refine ⟨if c = m then A else A.map (·.add m), fun W => ?_, fun D w l h => ?_⟩
  · have hel : Try.prog.elem 27 = 3 := by simp [Program.elem, Try.underlying27]
    have hu : Try.prog.underlying 27 = some (.slice (Try.prog.elem 27)) := by rw [hel]; exact Try.underlying27
    rw [run_slice_l W 27 A n c hu .i64 (m : Int) (Int.natCast_nonneg _) (by omega), hel]
    simp [sizeOf, typeInfo, hi, hz1, sliced, Result.andThen]
  · have h1 := h.len
    have h2 := h.cap
    have h3 := h.max
    refine ⟨by simp; omega, by omega, by omega, fun hp => ?_⟩
    obtain ⟨b, o, rfl, hb, hc⟩ := h.at_ (by omega)
    rw [if_neg (by omega)]
    refine ⟨b, o + m, by simp [Addr.add_mid], hb, fun j hj => ?_⟩
    have := hc (m + j) (by omega)
    rw [← Nat.add_assoc] at this
    rw [this]
    simp [List.getD_eq_getElem?_getD]
def rsO (N first : Nat) (vw vn : Value) : Obj := .cells #[.int .i64 N, .int .i64 first, vw, vn] 59 (0, 0)
/-- the reference's space: its struct in block r, its lists in blocks outside of D -/
def RsOk (D : List Nat) (w : World) (r N first : Nat) (was now : List Int) : Prop :=
  ∃ A n c A' n' c', w.heap[r]? = some (rsO N first (.slice A n c) (.slice A' n' c')) ∧ RdI D w A n c was ∧ RdI D w A' n' c' now
theorem RsOk.only {D S : List Nat} {w w' : World} {r N first : Nat} {was now : List Int} (h : RsOk D w r N first was now) (hw : Only S w w') (hr : r ∉ S) (hS : ∀ k ∈ S, k ∈ D) : RsOk D w' r N first was now := by
  obtain ⟨A, n, c, A', n', c', h1, h2, h3⟩ := h
  exact ⟨A, n, c, A', n', c', (hw.blk r (lt_of_block h1) hr).trans h1, h2.only hw hS, h3.only hw hS⟩
theorem RsOk.ext {D : List Nat} {w w' : World} {r N first : Nat} {was now : List Int} (h : RsOk D w r N first was now) (hb : Below w.heap.size w w') : RsOk D w' r N first was now := h.only (Only.of_below [] hb) (by simp) (by simp)
theorem rs_cells {w : World} {r N first : Nat} {vw vn : Value} (h : w.heap[r]? = some (rsO N first vw vn)) : w.cell? ⟨r, 0, none⟩ = some (.int .i64 N) ∧ w.cell? ⟨r, 1, none⟩ = some (.int .i64 first) ∧ w.cell? ⟨r, 2, none⟩ = some vw ∧ w.cell? ⟨r, 3, none⟩ = some vn :=
  ⟨cell_of_row w r 0 _ _ _ h, cell_of_row w r 1 _ _ _ h, cell_of_row w r 2 _ _ _ h, cell_of_row w r 3 _ _ _ h⟩
theorem rs_free {w : World} {r N first : Nat} {vw vn : Value} (h : w.heap[r]? = some (rsO N first vw vn)) (j : Nat) : w.frozen? ⟨r, j, none⟩ = false := frozen_of_row w r j _ _ h
end Go.Proofs.Ytodondpggkohjaa
