/- Words for rows: what the reading of a slice of bools, of ints, of a script says of memory. -/
import Derived.Test.YtodondpggkohjaaSpM
import Derived.Deep.Slices
import Derived.SizedLaws
import Derived.ChangeSlices
import Derived.ProofKit
import Derived.OpenShut
set_option linter.unusedVariables false
set_option linter.unusedSimpArgs false
namespace Go.Proofs.Ytodondpggkohjaa
open Go.ChangeShapes Go.WideShapes Go.RowKit Go.Deep
theorem wf_i64 {a : Int} (h : (Lit.int .i64 a).wf = true) : -9223372036854775808 ≤ a ∧ a < 9223372036854775808 := by
  have hb := bounds_i64 h
  omega
theorem spot0 {W : World} {x : Addr} {v : Value} (h : W.cell? (x.add 0) = some v) : x.spot = none := by
  obtain ⟨b, o, s⟩ := x
  cases s with
  | none => rfl
  | some s =>
    exfalso
    rw [show (⟨b, o, some s⟩ : Addr).add 0 = ⟨b, o, some s⟩ from rfl] at h
    simp only [World.cell?] at h
    split at h <;> simp at h
theorem len_open {H : Type} {enc : TypeId × Value → H} {P : Program} {W : World} {base : Nat} {spare : Nat → Bool} {held : Bool} {t e : TypeId} {a : Option Addr} {len cap : Nat} {d : DataW H} {ps : List MemPlace} {ts : List TypeId} {ds : List (DataW H)} {j : Nat}
    (hsz : (DataW.weightsEach P ts ds).all (· ≤ reachBytes) = true) (ht : ts[j]? = some t) (hd : ds[j]? = some d) (hu : P.underlying t = some (.slice e)) (hB : 1 ≤ P.bytesOf e)
    (h : DataW.Trod enc P W base spare held t (.slice a len cap) d ps) : len ≤ 140737488351232 := by
  obtain ⟨fuel, hf⟩ := h
  rcases open_slice hu hf with ⟨hcs, _⟩ | ⟨x, l, c, m, n, D, Pl, hcs, _, hl, _, hm, hx, _⟩
  · simp [Value.cells] at hcs; omega
  · simp [Value.cells] at hcs
    obtain ⟨rfl, rfl, rfl⟩ := hcs
    obtain ⟨hx, _⟩ := Prod.mk.inj hx
    subst hx
    have z := sized_slice hsz ht hd hu
    simp only [List.length_map, List.length_range] at z
    have z2 := Nat.le_trans (Nat.le_mul_of_pos_right _ hB) z
    have z3 : reachBytes = 140737488351232 := by simp [reachBytes]
    omega
section
variable {H : Type} {enc : TypeId × Value → H} {P : Program} {W : World} {base : Nat} {spare : Nat → Bool} {held : Bool} {t e : TypeId} {a : Option Addr} {len cap : Nat} {d : DataW H} {ps : List MemPlace}
theorem rdb_of (hu : P.underlying t = some (.slice e)) (he : P.underlying e = some .bool) (hc : P.cellsOf e = 1) (hm : len ≤ 140737488351232)
    (h : DataW.Trod enc P W base spare held t (.slice a len cap) d ps) : ∃ l, RdB W a len cap l := by
  obtain ⟨fuel, hf⟩ := h
  rcases open_slice1 hu hc hf with ⟨hcs, _⟩ | ⟨x, l, c, m, n, V, D, Pl, hcs, _, hl, _, hmm, hx, hV⟩
  · simp [Value.cells] at hcs
    obtain ⟨rfl, rfl, rfl⟩ := hcs
    exact ⟨[], rfl, Nat.le_refl _, by omega, fun hp => absurd hp (by omega)⟩
  · simp [Value.cells] at hcs
    obtain ⟨rfl, rfl, rfl⟩ := hcs
    have hlm : len ≤ m := by rw [hmm]; split <;> omega
    have hB : ∀ i, i < m → ∃ b, V i = .bool b := fun i hi => by
      obtain ⟨b, h1, _⟩ := DataW.trod_bool he (hV i hi).2
      exact ⟨b, by simpa using h1⟩
    refine ⟨(List.range len).map fun i => (match V i with | .bool b => b | _ => false), by simp, hl, by omega, fun hp => ?_⟩
    have hs := spot0 (hV 0 (by omega)).1
    obtain ⟨b, o, s⟩ := x
    simp only at hs
    subst hs
    refine ⟨b, o, rfl, fun j hj => ?_⟩
    have h1 := (hV j (by omega)).1
    rw [Addr.add_mid] at h1
    obtain ⟨v, hv⟩ := hB j (by omega)
    rw [h1, hv]
    simp [List.getD_eq_getElem?_getD, hj, hv]
theorem rdi_of (hu : P.underlying t = some (.slice e)) (he : P.underlying e = some (.int .i64)) (hc : P.cellsOf e = 1) (hm : len ≤ 140737488351232)
    (h : DataW.Trod enc P W base spare held t (.slice a len cap) d ps) : ∃ l, RdI [] W a len cap l ∧ ∀ x ∈ l, -9223372036854775808 ≤ x ∧ x < 9223372036854775808 := by
  obtain ⟨fuel, hf⟩ := h
  rcases open_slice1 hu hc hf with ⟨hcs, _⟩ | ⟨x, l, c, m, n, V, D, Pl, hcs, _, hl, _, hmm, hx, hV⟩
  · simp [Value.cells] at hcs
    obtain ⟨rfl, rfl, rfl⟩ := hcs
    exact ⟨[], ⟨rfl, Nat.le_refl _, by omega, fun hp => absurd hp (by omega)⟩, by simp⟩
  · simp [Value.cells] at hcs
    obtain ⟨rfl, rfl, rfl⟩ := hcs
    have hlm : len ≤ m := by rw [hmm]; split <;> omega
    have hB : ∀ i, i < m → ∃ b, V i = .int .i64 b ∧ -9223372036854775808 ≤ b ∧ b < 9223372036854775808 := fun i hi => by
      obtain ⟨b, h1, _, h3⟩ := DataW.trod_int he (hV i hi).2
      exact ⟨b, by simpa using h1, wf_i64 h3⟩
    refine ⟨(List.range len).map fun i => intOf (V i), ⟨by simp, hl, by omega, fun hp => ?_⟩, fun y hy => ?_⟩
    · have hs := spot0 (hV 0 (by omega)).1
      obtain ⟨b, o, s⟩ := x
      simp only at hs
      subst hs
      refine ⟨b, o, rfl, by simp, fun j hj => ?_⟩
      have h1 := (hV j (by omega)).1
      rw [Addr.add_mid] at h1
      obtain ⟨v, hv, _⟩ := hB j (by omega)
      rw [h1, hv]
      simp [List.getD_eq_getElem?_getD, hj, hv, intOf]
    · simp only [List.mem_map, List.mem_range] at hy
      obtain ⟨i, hi, rfl⟩ := hy
      obtain ⟨v, hv, hb⟩ := hB i (by omega)
      rw [hv]
      simpa [intOf] using hb
theorem rdo_of {f0 f1 f2 : Field} (hu : P.underlying t = some (.slice e)) (he : P.underlying e = some (.struct #[f0, f1, f2])) (ce : P.cellsOf e = 3)
    (o0 : f0.offset = 0) (o1 : f1.offset = 1) (o2 : f2.offset = 2) (c0 : P.cellsOf f0.type = 1) (c1 : P.cellsOf f1.type = 1) (c2 : P.cellsOf f2.type = 1)
    (u0 : P.underlying f0.type = some .bool) (u1 : P.underlying f1.type = some (.int .i64)) (u2 : P.underlying f2.type = some (.int .i64)) (hm : len ≤ 140737488351232)
    (h : DataW.Trod enc P W base spare held t (.slice a len cap) d ps) : ∃ l, RdO W a len cap l := by
  obtain ⟨fuel, hf⟩ := h
  rcases open_slice hu hf with ⟨hcs, _⟩ | ⟨x, l, c, m, n, D, Pl, hcs, _, hl, _, hmm, hx, hV⟩
  · simp [Value.cells] at hcs
    obtain ⟨rfl, rfl, rfl⟩ := hcs
    exact ⟨[], rfl, Nat.le_refl _, by omega, by simp, fun hp => absurd hp (by omega)⟩
  · simp [Value.cells] at hcs
    obtain ⟨rfl, rfl, rfl⟩ := hcs
    have hlm : len ≤ m := by rw [hmm]; split <;> omega
    have each : ∀ i, i < m → ∃ o : OpV, o.ok ∧ W.cell? (x.add (i * 3)) = some (.bool o.two) ∧ W.cell? (x.add (i * 3 + 1)) = some (.int .i64 o.kind) ∧ W.cell? (x.add (i * 3 + 2)) = some (.int .i64 o.blk) := by
      intro i hi
      obtain ⟨cs', h1, h2⟩ := hV i hi
      rw [ce] at h1
      obtain ⟨_, hlen, hcell⟩ := World.cells?_some h1
      obtain ⟨xs, k, hk, hxy, _, hxl, hfl⟩ := DataW.trod_struct he h2
      match xs, hxl, cs', hlen with
      | [y0, y1, y2], _, [v0, v1, v2], _ =>
        have g0 := hfl 0 f0 rfl
        have g1 := hfl 1 f1 rfl
        have g2 := hfl 2 f2 rfl
        simp [o0, o1, o2, c0, c1, c2] at g0 g1 g2
        have e0 := hcell 0 (by omega)
        have e1 := hcell 1 (by omega)
        have e2 := hcell 2 (by omega)
        rw [add_add] at e0 e1 e2
        obtain ⟨b0, hb0, _⟩ := DataW.trod_bool u0 g0
        obtain ⟨b1, hb1, _, _⟩ := DataW.trod_int u1 g1
        obtain ⟨b2, hb2, _, hw2⟩ := DataW.trod_int u2 g2
        simp at hb0 hb1 hb2
        subst hb0 hb1 hb2
        exact ⟨⟨b0, b1, b2⟩, wf_i64 hw2, by simpa using e0, by simpa using e1, by simpa using e2⟩
    obtain ⟨F, hF⟩ := choose_lt each
    refine ⟨(List.range len).map F, by simp, hl, by omega, fun y hy => ?_, fun hp => ?_⟩
    · simp only [List.mem_map, List.mem_range] at hy
      obtain ⟨i, hi, rfl⟩ := hy
      exact (hF i (by omega)).1
    · have hs := spot0 (by simpa using (hF 0 (by omega)).2.1 : W.cell? (x.add 0) = _)
      obtain ⟨b, o, s⟩ := x
      simp only at hs
      subst hs
      refine ⟨b, o, rfl, fun j hj => ?_⟩
      have h1 := hF j (by omega)
      simp only [Addr.add_mid] at h1
      have e : ((List.range len).map F).getD j default = F j := by simp [List.getD_eq_getElem?_getD, hj]
      rw [e]
      exact ⟨h1.2.1, by have := h1.2.2.1; rwa [← Nat.add_assoc] at this, by have := h1.2.2.2; rwa [← Nat.add_assoc] at this⟩
end
end Go.Proofs.Ytodondpggkohjaa
