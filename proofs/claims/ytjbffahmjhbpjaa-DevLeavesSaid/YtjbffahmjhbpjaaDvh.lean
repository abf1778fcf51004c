/- The device's Counts. -/
import Derived.Test.YtjbffahmjhbpjaaDvg
import Derived.Laws.Rows
set_option linter.unusedVariables false
set_option linter.unusedSimpArgs false
set_option maxRecDepth 100000
namespace Go.Proofs.Ytjbffahmjhbpjaa
open Go.RowKit
theorem sz_cnt : (Try.prog.info? 57).map (·.size) = some 3 := by kernel_rfl
def cntV (D : DS) : Value := .agg #[.int .i64 D.rd, .int .i64 D.wr, .int .i64 D.fl]
theorem dv_Counts (w : World) (b g : Nat) (vc : Value) (D : DS) (h : IsV w b g vc D) :
    Calls Try.prog 28 #[.pointer (some ⟨b, 0, none⟩)] w fun e w' => e = .returned (cntV D) ∧ Below w.heap.size w w' := by
  have hb : b < w.heap.size := lt_of_block h.dev.st
  have c5 : w.cell? ⟨b, 5, none⟩ = some (.int .i64 (D.rd : Int)) := h.dev.cell 5
  have c6 : w.cell? ⟨b, 6, none⟩ = some (.int .i64 (D.wr : Int)) := h.dev.cell 6
  have c7 : w.cell? ⟨b, 7, none⟩ = some (.int .i64 (D.fl : Int)) := h.dev.cell 7
  clear h
  go_enter Try.func28, Try.ntmps28
  go_wp2
  (try simp only [Exit.inBlock, Exit.then])
  exact bodyPost_ret (results_cell_row rfl _ _ w.heap.size 57 _ (0, 0) _ rfl (heap_alloc_new w _) Try.underlying57 rfl sz_cnt) rfl ⟨rfl, (Below.refl _ w).alloc (Nat.le_refl _) _⟩
/-- a refused step changes neither medium nor cache nor counts -/
theorem plD_refused (D : DS) (x : OpD) (h : (plD D x).1 ≠ 0) : (plD D x).2.M = D.M ∧ (plD D x).2.C = D.C ∧ (plD D x).2.rd = D.rd ∧ (plD D x).2.wr = D.wr ∧ (plD D x).2.fl = D.fl := by
  have hk := actD_keeps D
  have hA : (actD D).2.M = D.M ∧ (actD D).2.C = D.C ∧ (actD D).2.rd = D.rd ∧ (actD D).2.wr = D.wr ∧ (actD D).2.fl = D.fl := ⟨hk.2.1, hk.1, hk.2.2.2.1, hk.2.2.2.2.1, hk.2.2.2.2.2⟩
  revert h
  unfold plD
  split
  · unfold wrD; split
    · exact fun _ => ⟨rfl, rfl, rfl, rfl, rfl⟩
    · split
      · exact fun _ => ⟨rfl, rfl, rfl, rfl, rfl⟩
      · split
        · exact fun h => absurd rfl h
        · exact fun _ => hA
  · split
    · unfold flD; split
      · exact fun h => absurd rfl h
      · exact fun _ => hA
    · split
      · unfold edD; split
        · exact fun _ => ⟨rfl, rfl, rfl, rfl, rfl⟩
        · split
          · exact fun _ => ⟨rfl, rfl, rfl, rfl, rfl⟩
          · exact fun h => absurd rfl h
      · split
        · unfold armD; split
          · exact fun _ => ⟨rfl, rfl, rfl, rfl, rfl⟩
          · split
            · exact fun _ => ⟨rfl, rfl, rfl, rfl, rfl⟩
            · exact fun h => absurd rfl h
        · split
          · exact fun h => absurd rfl h
          · exact fun _ => ⟨rfl, rfl, rfl, rfl, rfl⟩
theorem actD_n (D : DS) : (actD D).2.n = D.n := (actD_keeps D).2.2.1
theorem plD_n (D : DS) (x : OpD) : (plD D x).2.n = D.n := by
  unfold plD
  split
  · unfold wrD; split
    · rfl
    · split
      · rfl
      · split
        · exact actD_n D
        · exact actD_n D
  · split
    · unfold flD; split
      · exact actD_n D
      · exact actD_n D
    · split
      · unfold edD; split
        · rfl
        · split <;> rfl
      · split
        · unfold armD; split
          · rfl
          · split <;> rfl
        · split <;> rfl
theorem liveD_le : liveD.le 1 := ⟨by decide, by decide, by decide, by decide, by decide⟩
theorem DS.le.mono {D : DS} {m m' : Nat} (h : D.le m) (hm : m ≤ m') : D.le m' := ⟨h.left, Nat.le_trans h.ca hm, Nat.le_trans h.wr hm, Nat.le_trans h.fl hm, Nat.le_trans h.rd hm⟩
end Go.Proofs.Ytjbffahmjhbpjaa
