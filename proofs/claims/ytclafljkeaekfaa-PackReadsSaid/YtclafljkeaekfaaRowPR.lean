/- Words for the row of PackReads: what the reading of a script says of memory. -/
import Derived.Test.YtclafljkeaekfaaLawPackReads
import Derived.Test.YtclafljkeaekfaaRowP
set_option linter.unusedVariables false
set_option linter.unusedSimpArgs false
namespace Go.Proofs.Ytclafljkeaekfaa
open Go.ChangeShapes Go.WideShapes Go.RowKit Go.Deep
section
variable {H : Type} {enc : TypeId × Value → H} {P : Program} {W : World} {base : Nat} {spare : Nat → Bool} {held : Bool} {t e : TypeId} {a : Option Addr} {len cap : Nat} {d : DataW H} {ps : List MemPlace} {ts : List TypeId} {ds : List (DataW H)} {j : Nat}
theorem rdor_of {f0 f1 f2 : Field} (hu : P.underlying t = some (.slice e)) (he : P.underlying e = some (.struct #[f0, f1, f2])) (ce : P.cellsOf e = 3)
    (o0 : f0.offset = 0) (o1 : f1.offset = 1) (o2 : f2.offset = 2) (c0 : P.cellsOf f0.type = 1) (c1 : P.cellsOf f1.type = 1) (c2 : P.cellsOf f2.type = 1)
    (u0 : P.underlying f0.type = some (.int .i64)) (u1 : P.underlying f1.type = some (.int .i64)) (u2 : P.underlying f2.type = some .bool) (hm : len ≤ 140737488351232)
    (h : DataW.Trod enc P W base spare held t (.slice a len cap) d ps) : ∃ l, RdOR W a len cap l := by
  obtain ⟨fuel, hf⟩ := h
  rcases open_slice hu hf with ⟨hcs, _⟩ | ⟨x, l, c, m, n, D, Pl, hcs, _, hl, _, hmm, hx, hV⟩
  · simp [Value.cells] at hcs
    obtain ⟨rfl, rfl, rfl⟩ := hcs
    exact ⟨[], rfl, Nat.le_refl _, by omega, by simp, fun hp => absurd hp (by omega)⟩
  · simp [Value.cells] at hcs
    obtain ⟨rfl, rfl, rfl⟩ := hcs
    have hlm : len ≤ m := by rw [hmm]; split <;> omega
    have each : ∀ i, i < len → ∃ o : OpR, (-9223372036854775808 ≤ o.most ∧ o.most < 9223372036854775808) ∧ W.cell? (x.add (i * 3)) = some (.int .i64 o.kind) ∧ W.cell? (x.add (i * 3 + 1)) = some (.int .i64 o.most) ∧ W.cell? (x.add (i * 3 + 2)) = some (.bool o.fin) := by
      intro i hi
      obtain ⟨cs', h1, h2⟩ := hV i (by omega)
      rw [ce] at h1
      obtain ⟨_, hlen, hcell⟩ := World.cells?_some h1
      obtain ⟨xs, k, hk, hxy, _, hxl, hfl⟩ := DataW.trod_struct he h2
      match xs, hxl, cs', hlen with
      | [y0, y1, y2], _, [v0, v1, v2], _ =>
        have g0 := hfl 0 f0 rfl
        have g1 := hfl 1 f1 rfl
        have g2 := hfl 2 f2 rfl
        simp [o0, o1, o2, c0, c1, c2] at g0 g1 g2
        have e0 := hcell 0 (by omega)
        have e1 := hcell 1 (by omega)
        have e2 := hcell 2 (by omega)
        rw [add_add] at e0 e1 e2
        obtain ⟨b0, hb0, _, _⟩ := DataW.trod_int u0 g0
        obtain ⟨b1, hb1, _, hw1⟩ := DataW.trod_int u1 g1
        obtain ⟨b2, hb2, _⟩ := DataW.trod_bool u2 g2
        simp at hb0 hb1 hb2
        subst hb0 hb1 hb2
        exact ⟨⟨b0, b1, b2⟩, wf_i64 hw1, by simpa using e0, by simpa using e1, by simpa using e2⟩
    obtain ⟨F, hF⟩ := choose_lt each
    refine ⟨(List.range len).map F, by simp, hl, by omega, fun y hy => ?_, fun hp => ?_⟩
    · simp only [List.mem_map, List.mem_range] at hy
      obtain ⟨i, hi, rfl⟩ := hy
      exact (hF i (by omega)).1
    · have hs := spot0 (by simpa using (hF 0 (by omega)).2.1 : W.cell? (x.add 0) = _)
      obtain ⟨b, o, s⟩ := x
      simp only at hs
      subst hs
      refine ⟨b, o, rfl, fun j hj => ?_⟩
      have h1 := hF j (by omega)
      simp only [Addr.add_mid] at h1
      have e : ((List.range len).map F).getD j default = F j := by simp [List.getD_eq_getElem?_getD, hj]
      rw [e]
      obtain ⟨_, r0, r1, r2⟩ := h1
      rw [← Nat.add_assoc] at r1 r2
      exact ⟨r0, r1, r2⟩
end
end Go.Proofs.Ytclafljkeaekfaa
