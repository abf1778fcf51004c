/- Decode's parts: sameBytes; a node in its block. -/
import Derived.Test.YtlandlgjhnnaiaaPgRT
import Derived.Test.YtlandlgjhnnaiaaRw
set_option linter.unusedVariables false
set_option linter.unusedSimpArgs false
set_option maxRecDepth 100000
namespace Go.Proofs.Ytlandlgjhnnaiaa
open Go.RowKit SumMath
theorem bstr_list' (L : List UInt8) : (bstr L).toList = L := by rw [ByteArray.toList_eq]; simp [bstr]
theorem pg_sameBytes (n : Nd) (vE vC vK vD : Value) (A : Option Addr) (c : Nat) (L : List UInt8) (w : World) (hN : NdR w n vE vC vK vD) (hr : Rd w A 512 c L) (hf : fitsN n = true) :
    Calls Try.prog 52 #[.agg (ndC n vE vC vK vD), .slice A 512 c] w fun e w' => e = .returned (.bool (decide (encN n = L))) ∧ Below w.heap.size w w' := by
  have HE := Lib.hid (fun (W : World) (hb : Below w.heap.size w W) => pg_Encode n vE vC vK vD W (hN.ext hb) hf)
  have HR := Lib.hid hr
  obtain ⟨E, hE⟩ : ∃ E, E = encN n := ⟨_, rfl⟩
  rw [← hE] at HE ⊢
  clear hE hN hr hf
  unfold ndC at HE ⊢
  have HB0 := Lib.hid (show ∀ o, Below w.heap.size w (w.alloc o) from fun o => (Below.refl _ _).alloc (Nat.le_refl _) _)
  go_enter Try.func52, Try.ntmps52
  go_wp2_with fail
  refine (HE.out _ (HB0.out _)).mono ?_
  rintro e w1 ⟨g, rfl, hg, hB, hb⟩
  have HB1 := Lib.hid ((HB0.out _).trans (hb.mono (by simp)))
  have h1 := hB.rd.str
  have h2 := (HR.out.ext HB1.out).str
  obtain ⟨x, hx⟩ : ∃ x, x = bstr E := ⟨_, rfl⟩
  obtain ⟨y, hy⟩ : ∃ y, y = bstr L := ⟨_, rfl⟩
  rw [← hx] at h1
  rw [← hy] at h2
  clear hB hb hg
  by_cases he : E = L
  · have e1 : (x.toList == y.toList) = true := by rw [hx, hy, bstr_list', bstr_list']; exact beq_iff_eq.2 he
    have HD := Lib.hid (show decide (E = L) = true from decide_eq_true he)
    clear hx hy he
    go_wp2
    go_ret
    exact ⟨by rw [HD.out]; rfl, HB1.out⟩
  · have e1 : (x.toList == y.toList) = false := by rw [hx, hy, bstr_list', bstr_list']; exact beq_eq_false_iff_ne.2 he
    have HD := Lib.hid (show decide (E = L) = false from decide_eq_false he)
    clear hx hy he
    go_wp2
    go_ret
    exact ⟨by rw [HD.out]; rfl, HB1.out⟩
theorem sz_nd : (Try.prog.info? 26).map (·.size) = some 7 := by kernel_rfl
/-- the cells of a node's struct -/
theorem cell7 {W : World} {q : Nat} {n : Nd} {vE vC vK vD : Value} {t : TypeId} (h : W.heap[q]? = some (.cells (ndC n vE vC vK vD) t (0, 0))) : W.cell? ⟨q, 0, none⟩ = some (.int .i64 n.kind) ∧ W.cell? ⟨q, 1, none⟩ = some vE ∧ W.cell? ⟨q, 2, none⟩ = some vC ∧ W.cell? ⟨q, 3, none⟩ = some vK ∧ W.cell? ⟨q, 4, none⟩ = some vD ∧ W.cell? ⟨q, 5, none⟩ = some (.int .i64 n.next) ∧ W.cell? ⟨q, 6, none⟩ = some (.string n.data) ∧ q < W.heap.size :=
  ⟨cell_of_row W q 0 _ _ _ h, cell_of_row W q 1 _ _ _ h, cell_of_row W q 2 _ _ _ h, cell_of_row W q 3 _ _ _ h, cell_of_row W q 4 _ _ _ h, cell_of_row W q 5 _ _ _ h, cell_of_row W q 6 _ _ _ h, lt_of_block h⟩
theorem free7 {W : World} {q : Nat} {cs : Array Value} {t : TypeId} (h : W.heap[q]? = some (.cells cs t (0, 0))) : W.frozen? ⟨q, 0, none⟩ = false ∧ W.frozen? ⟨q, 1, none⟩ = false ∧ W.frozen? ⟨q, 2, none⟩ = false ∧ W.frozen? ⟨q, 3, none⟩ = false ∧ W.frozen? ⟨q, 4, none⟩ = false ∧ W.frozen? ⟨q, 5, none⟩ = false ∧ W.frozen? ⟨q, 6, none⟩ = false :=
  ⟨frozen_of_row W q 0 _ _ h, frozen_of_row W q 1 _ _ h, frozen_of_row W q 2 _ _ h, frozen_of_row W q 3 _ _ h, frozen_of_row W q 4 _ _ h, frozen_of_row W q 5 _ _ h, frozen_of_row W q 6 _ _ h⟩
/-- a node laid over another -/
def put7 (W : World) (q : Nat) (n : Nd) (vE vC vK vD : Value) : World := ((((((W.setCell ⟨q, 0, none⟩ (.int .i64 n.kind)).setCell ⟨q, 1, none⟩ vE).setCell ⟨q, 2, none⟩ vC).setCell ⟨q, 3, none⟩ vK).setCell ⟨q, 4, none⟩ vD).setCell ⟨q, 5, none⟩ (.int .i64 n.next)).setCell ⟨q, 6, none⟩ (.string n.data)
theorem row7 {W : World} {q : Nat} {n m : Nd} {vE vC vK vD uE uC uK uD : Value} {t : TypeId} (h : W.heap[q]? = some (.cells (ndC n vE vC vK vD) t (0, 0))) : (put7 W q m uE uC uK uD).heap[q]? = some (.cells (ndC m uE uC uK uD) t (0, 0)) := by
  unfold put7
  rw [heap_setCell_same _ q 6 _ _ _ (heap_setCell_same _ q 5 _ _ _ (heap_setCell_same _ q 4 _ _ _ (heap_setCell_same _ q 3 _ _ _ (heap_setCell_same _ q 2 _ _ _ (heap_setCell_same _ q 1 _ _ _ (heap_setCell_same W q 0 _ _ _ h))))))]
  simp only [ndC, List.setIfInBounds_toArray, List.set_cons_zero, List.set_cons_succ]
theorem only7 {W : World} {q : Nat} {n : Nd} {vE vC vK vD : Value} : Only [q] W (put7 W q n vE vC vK vD) := by
  have k : ∀ (V : World) (j : Nat) (u : Value), Only [q] W V → Only [q] W (V.setCell ⟨q, j, none⟩ u) := fun V j u h => h.setCell (by simp) u
  unfold put7
  exact k _ _ _ (k _ _ _ (k _ _ _ (k _ _ _ (k _ _ _ (k _ _ _ (k _ _ _ (Only.refl _ _)))))))
/-- a node's lists are rows of the call's own -/
structure NdO (w : World) (base : Nat) (n : Nd) (vE vC vK vD : Value) : Prop where
  e : OwnE w base vE n.ents.length n.ents
  c : OwnI w base vC n.chs.length n.chs
  k : OwnT w base vK n.keys.length n.keys
  d : OwnI w base vD n.kids.length n.kids
theorem NdO.rd {w : World} {base : Nat} {n : Nd} {vE vC vK vD : Value} (h : NdO w base n vE vC vK vD) (h1 : n.ents.length ≤ 6500000000000) (h2 : n.chs.length ≤ 140737488355328) (h3 : n.keys.length ≤ 13000000000000) (h4 : n.kids.length ≤ 140737488355328) : NdR w n vE vC vK vD :=
  ⟨h.e.rd h1, h.c.rd [] h2 (by simp), h.k.rd h3, h.d.rd [] h4 (by simp)⟩
theorem NdO.mono {w : World} {base base' : Nat} {n : Nd} {vE vC vK vD : Value} (h : NdO w base n vE vC vK vD) (hb : base' ≤ base) : NdO w base' n vE vC vK vD :=
  ⟨h.e.mono hb, h.c.mono hb, h.k.mono hb, h.d.mono hb⟩
theorem NdO.ext {w w' : World} {base : Nat} {n : Nd} {vE vC vK vD : Value} (h : NdO w base n vE vC vK vD) (hb : Below w.heap.size w w') : NdO w' base n vE vC vK vD :=
  ⟨h.e.ext hb, h.c.ext hb, h.k.ext hb, h.d.ext hb⟩
def nilV : Value := .slice none 0 0
theorem NdO.zero (w : World) (base : Nat) : NdO w base zNd nilV nilV nilV nilV := ⟨OwnE.nil _ _, OwnI.nil _ _, OwnT.nil _ _, OwnI.nil _ _⟩
end Go.Proofs.Ytlandlgjhnnaiaa
