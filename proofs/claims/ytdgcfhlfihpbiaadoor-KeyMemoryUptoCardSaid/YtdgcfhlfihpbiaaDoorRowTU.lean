/- Words for rows of the narrowed statements: a slice of texts that came in. -/
import Derived.Test.YtdgcfhlfihpbiaaDoorRowT
import Derived.Test.YtdgcfhlfihpbiaaDoorRowU
set_option linter.unusedVariables false
set_option linter.unusedSimpArgs false
namespace Go.Proofs.YtdgcfhlfihpbiaaDoor
open Go.ChangeShapes Go.WideShapes Go.RowKit Go.Deep
def bulkT (l : List ByteArray) : Nat := (l.map fun s => s.size + 1).sum
theorem bulkT_mem {l : List ByteArray} {s : ByteArray} (h : s ∈ l) : s.size + 1 ≤ bulkT l := by
  induction l with
  | nil => cases h
  | cons x r ih =>
    unfold bulkT at ih ⊢
    simp only [List.map_cons, List.sum_cons]
    rcases List.mem_cons.1 h with rfl | h
    · omega
    · have := ih h; omega
theorem bulkT_len (l : List ByteArray) : l.length ≤ bulkT l := by
  induction l with
  | nil => simp
  | cons x r ih => unfold bulkT at ih ⊢; simp only [List.map_cons, List.sum_cons, List.length_cons]; omega
theorem bulkT_of {H : Type} (F : Nat → ByteArray) (D : Nat → DataW H) : ∀ is : List Nat, (∀ i, i ∈ is → (F i).size + 1 ≤ Rows.uptoBulk (D i)) → bulkT (is.map F) ≤ Rows.uptoBulkAll (is.map D)
  | [], _ => by simp [bulkT]
  | i :: is, h => by
    have h1 := h i (by simp)
    have h2 := bulkT_of F D is (fun j hj => h j (by simp [hj]))
    unfold bulkT at h2 ⊢
    simp only [List.map_cons, List.sum_cons, Rows.uptoBulkAll]
    omega
theorem rdt_open_u {H : Type} {enc : TypeId × Value → H} {P : Program} {W : World} {base : Nat} {spare : Nat → Bool} {held : Bool} {t e : TypeId} {a : Option Addr} {len cap : Nat} {d : DataW H} {ps : List MemPlace}
    (hu : P.underlying t = some (.slice e)) (he : P.underlying e = some .string) (hc : P.cellsOf e = 1) (hb : Rows.uptoBulk d ≤ 1048576)
    (h : DataW.Trod enc P W base spare held t (.slice a len cap) d ps) : ∃ l, RdT W a len cap l ∧ bulkT l ≤ 1048576 := by
  obtain ⟨fuel, hf⟩ := h
  rcases open_slice1 hu hc hf with ⟨hcs, _⟩ | ⟨x, l, c, m, n, V, D, Pl, hcs, _, hl, _, hmm, hx, hV⟩
  · simp [Value.cells] at hcs
    obtain ⟨rfl, rfl, rfl⟩ := hcs
    exact ⟨[], RdT.nil _, by simp [bulkT]⟩
  · simp [Value.cells] at hcs
    obtain ⟨rfl, rfl, rfl⟩ := hcs
    obtain ⟨hx, _⟩ := Prod.mk.inj hx
    subst hx
    have hlm : len ≤ m := by rw [hmm]; split <;> omega
    have hbb : Rows.uptoBulkAll ((List.range len).map D) ≤ 1048576 := by
      have : Rows.uptoBulkAll ((List.range len).map D) ≤ Rows.uptoBulk (.slice ((List.range len).map D) ((List.range (m - len)).map fun j => D (len + j))) := by
        simp only [Rows.uptoBulk]; omega
      omega
    have hlen : len ≤ 1048576 := by
      have := bulk_length ((List.range len).map D)
      simp at this
      omega
    have each : ∀ i, i < len → ∃ s : ByteArray, s.size + 1 ≤ Rows.uptoBulk (D i) ∧ W.cell? (x.add i) = some (.string s) := by
      intro i hi
      obtain ⟨h1, h2⟩ := hV i (by omega)
      obtain ⟨s, hs, hy, _⟩ := DataW.trod_string he h2
      simp at hs
      rw [hs] at h1
      obtain ⟨hD, _⟩ := Prod.mk.inj hy
      refine ⟨s, ?_, h1⟩
      rw [hD]
      simp only [Rows.uptoBulk, str_len]
      exact Nat.le_refl _
    obtain ⟨F, hF⟩ := choose_lt each
    refine ⟨(List.range len).map F, ⟨by simp, hl, by omega, fun hp => ?_⟩, Nat.le_trans (bulkT_of F D _ (fun i hi => (hF i (by simpa using hi)).1)) hbb⟩
    have hs := spotT (by simpa using (hF 0 (by omega)).2 : W.cell? (x.add 0) = _)
    obtain ⟨b, o, s⟩ := x
    simp only at hs
    subst hs
    refine ⟨b, o, rfl, fun j hj => ?_⟩
    have h1 := (hF j (by omega)).2
    rw [Addr.add_mid] at h1
    rw [h1]
    simp [List.getD_eq_getElem?_getD, hj]
end Go.Proofs.YtdgcfhlfihpbiaaDoor
