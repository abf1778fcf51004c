/- Words for rows: a struct by value of two ints and a slice of ints. -/
import Derived.Test.YtodondpggkohjaaRowS
import Derived.Test.YtodondpggkohjaaRowW
set_option linter.unusedVariables false
set_option linter.unusedSimpArgs false
namespace Go.Proofs.Ytodondpggkohjaa
open Go.ChangeShapes Go.WideShapes Go.RowKit Go.Deep
section
variable {H : Type} {enc : TypeId × Value → H} {P : Program} {W : World} {base : Nat} {spare : Nat → Bool} {held : Bool} {t e : TypeId} {v : Value} {d : DataW H} {ps : List MemPlace} {fuel : Nat} {ts : List TypeId} {ds : List (DataW H)} {j : Nat}
theorem reach_eqZ : reachBytes = 140737488351232 := by simp [reachBytes]
theorem slice_lenZ (hu : P.underlying t = some (.slice e)) {elems sp : List (DataW H)} (hw : ∀ n ∈ (DataW.slice elems sp).weights P t, n ≤ reachBytes) : (elems.length + sp.length) * P.bytesOf e ≤ reachBytes :=
  hw _ (by simp only [DataW.weights, hu]; exact List.mem_cons_self)
theorem arg_weightsZ (hsz : (DataW.weightsEach P ts ds).all (· ≤ reachBytes) = true) (ht : ts[j]? = some t) (hd : ds[j]? = some d) : ∀ n ∈ d.weights P t, n ≤ reachBytes := fun n hn => by
  have := List.all_eq_true.1 hsz _ (DataW.weights_mem_each ht hd n hn)
  simpa using this
theorem rdi_cell (hu : P.underlying t = some (.slice e)) (he : P.underlying e = some (.int .i64)) (hc : P.cellsOf e = 1) (hB : P.bytesOf e = 8) (hw : ∀ n ∈ d.weights P t, n ≤ reachBytes)
    (h : DataW.trod enc P W base spare held fuel t [v] = some (d, ps)) : ∃ A n c l, v = .slice A n c ∧ RdI [] W A n c l ∧ n ≤ 17592186044415 := by
  have h' := h
  rcases open_slice hu h with ⟨hcs, _⟩ | ⟨x, len, cap, m, n, D, Pl, hcs, _, hl, _, hmm, hx, hV⟩
  · simp at hcs
    exact ⟨none, 0, 0, [], hcs, RdI.nil _ _, by omega⟩
  · simp at hcs
    obtain ⟨hx, _⟩ := Prod.mk.inj hx
    subst hx hcs
    have hlm : len ≤ m := by rw [hmm]; split <;> omega
    have z := slice_lenZ hu hw
    rw [hB, reach_eqZ] at z
    simp only [List.length_map, List.length_range] at z
    obtain ⟨L, hr, _⟩ := rdi_of hu he hc (by omega) ⟨_, h'⟩
    exact ⟨_, _, _, L, rfl, hr, by omega⟩
theorem sz_of {r : Reach} {b0 : Nat} {f0 f1 f2 : Field} (hsz : (DataW.weightsEach P ts ds).all (· ≤ reachBytes) = true) (ht : ts[j]? = some t) (hd : ds[j]? = some d) (hs : P.underlying t = some (.struct #[f0, f1, f2])) (hC : P.cellsOf t = 3)
    (o0 : f0.offset = 0) (o1 : f1.offset = 1) (o2 : f2.offset = 2) (k0 : P.cellsOf f0.type = 1) (k1 : P.cellsOf f1.type = 1) (k2 : P.cellsOf f2.type = 1)
    (u0 : P.underlying f0.type = some (.int .i64)) (u1 : P.underlying f1.type = some (.int .i64)) (u2 : P.underlying f2.type = some (.slice e)) (he : P.underlying e = some (.int .i64)) (hc : P.cellsOf e = 1) (hB : P.bytesOf e = 8)
    (hv : Value.okWide P W r b0 t v) (h : DataW.Trod enc P W base spare held t v d ps) : ∃ x y A n c l, v = .agg #[.int .i64 x, .int .i64 y, .slice A n c] ∧ RdI [] W A n c l ∧ n ≤ 17592186044415 := by
  have hwt := arg_weightsZ hsz ht hd
  obtain ⟨cs, rfl, hsz2⟩ := okWide_struct hs hv
  obtain ⟨l⟩ := cs
  match l, hsz2.trans hC with
  | [c0, c1, c2], _ =>
    obtain ⟨fuel, hf⟩ := h
    obtain ⟨xs, n, _, hx, _, hlen, hg⟩ := DataW.trod_struct hs hf
    match xs, hlen with
    | [y0, y1, y2], _ =>
      have e0 : DataW.trod enc P W base spare held n f0.type [c0] = some y0 := by simpa [Value.cells, o0, k0] using hg 0 f0 rfl
      have e1 : DataW.trod enc P W base spare held n f1.type [c1] = some y1 := by simpa [Value.cells, o1, k1] using hg 1 f1 rfl
      have e2 : DataW.trod enc P W base spare held n f2.type [c2] = some y2 := by simpa [Value.cells, o2, k2] using hg 2 f2 rfl
      have hD : d = .agg [y0.1, y1.1, y2.1] := (Prod.mk.inj hx).1
      have hw2 : ∀ n ∈ y2.1.weights P f2.type, n ≤ reachBytes := fun n hn => hwt n (by
        rw [hD]; simp only [DataW.weights, hs]
        exact DataW.weights_mem_each (j := 2) (t := f2.type) (d := y2.1) rfl rfl _ hn)
      obtain ⟨x0, hx0, _, _⟩ := DataW.trod_int u0 e0
      obtain ⟨x1, hx1, _, _⟩ := DataW.trod_int u1 e1
      simp at hx0 hx1
      subst hx0 hx1
      obtain ⟨A, m, c, L, rfl, hr, hm⟩ := rdi_cell u2 he hc hB hw2 e2
      exact ⟨x0, x1, A, m, c, L, rfl, hr, hm⟩
end
end Go.Proofs.Ytodondpggkohjaa
