/- Words for rows: what the reading of a slice of values says of memory. -/
import Derived.Test.YtclafljkeaekfaaPk7
import Derived.Test.YtclafljkeaekfaaOnly
import Derived.Test.YtclafljkeaekfaaRowW
import Derived.Deep.Slices
import Derived.Deep.SlicePairs
import Derived.SizedLaws
import Derived.ChangeSlices
import Derived.ProofKit
import Derived.OpenShut
set_option linter.unusedVariables false
set_option linter.unusedSimpArgs false
namespace Go.Proofs.Ytclafljkeaekfaa
open Go.ChangeShapes Go.WideShapes Go.RowKit Go.Deep
theorem spot0 {W : World} {x : Addr} {v : Value} (h : W.cell? (x.add 0) = some v) : x.spot = none := by
  obtain ⟨b, o, s⟩ := x
  cases s with
  | none => rfl
  | some s =>
    exfalso
    rw [show (⟨b, o, some s⟩ : Addr).add 0 = ⟨b, o, some s⟩ from rfl] at h
    simp only [World.cell?] at h
    split at h <;> simp at h
theorem len_open {H : Type} {enc : TypeId × Value → H} {P : Program} {W : World} {base : Nat} {spare : Nat → Bool} {held : Bool} {t e : TypeId} {a : Option Addr} {len cap : Nat} {d : DataW H} {ps : List MemPlace} {ts : List TypeId} {ds : List (DataW H)} {j : Nat}
    (hsz : (DataW.weightsEach P ts ds).all (· ≤ reachBytes) = true) (ht : ts[j]? = some t) (hd : ds[j]? = some d) (hu : P.underlying t = some (.slice e)) (hB : 1 ≤ P.bytesOf e)
    (h : DataW.Trod enc P W base spare held t (.slice a len cap) d ps) : len ≤ 140737488351232 := by
  obtain ⟨fuel, hf⟩ := h
  rcases open_slice hu hf with ⟨hcs, _⟩ | ⟨x, l, c, m, n, D, Pl, hcs, _, hl, _, hm, hx, _⟩
  · simp [Value.cells] at hcs; omega
  · simp [Value.cells] at hcs
    obtain ⟨rfl, rfl, rfl⟩ := hcs
    obtain ⟨hx, _⟩ := Prod.mk.inj hx
    subst hx
    have z := sized_slice hsz ht hd hu
    simp only [List.length_map, List.length_range] at z
    have z2 := Nat.le_trans (Nat.le_mul_of_pos_right _ hB) z
    have z3 : reachBytes = 140737488351232 := by simp [reachBytes]
    omega
theorem weightsAll_mem {H : Type} {P : Program} {e : TypeId} : ∀ (l : List (DataW H)) (x : DataW H), x ∈ l → ∀ n, n ∈ x.weights P e → n ∈ DataW.weightsAll P e l
  | [], x, h, _, _ => by simp at h
  | y :: r, x, h, n, hn => by
    rw [DataW.weightsAll, List.mem_append]
    rcases List.mem_cons.1 h with rfl | h
    · exact .inl hn
    · exact .inr (weightsAll_mem r x h n hn)
theorem sized_elem {H : Type} {P : Program} {ts : List TypeId} {ds : List (DataW H)} (h : (DataW.weightsEach P ts ds).all (· ≤ reachBytes) = true) {j : Nat} {t e : TypeId} {elems spare : List (DataW H)} (ht : ts[j]? = some t) (hd : ds[j]? = some (.slice elems spare)) (hu : P.underlying t = some (.slice e))
    {x : DataW H} (hx : x ∈ elems) {n : Nat} (hn : n ∈ x.weights P e) : n ≤ reachBytes := by
  have := List.all_eq_true.1 h _ (DataW.weights_mem_each ht hd n (by simp only [DataW.weights, hu]; exact List.mem_cons_of_mem _ (List.mem_append.2 (.inl (weightsAll_mem elems x hx n hn)))))
  simpa using this
section
variable {H : Type} {enc : TypeId × Value → H} {P : Program} {W : World} {base : Nat} {spare : Nat → Bool} {held : Bool} {t e : TypeId} {a : Option Addr} {len cap : Nat} {d : DataW H} {ps : List MemPlace} {ts : List TypeId} {ds : List (DataW H)} {j : Nat}
theorem rdi_of (hu : P.underlying t = some (.slice e)) (he : P.underlying e = some (.int .i64)) (hc : P.cellsOf e = 1) (hm : len ≤ 140737488351232)
    (h : DataW.Trod enc P W base spare held t (.slice a len cap) d ps) : ∃ l, RdI [] W a len cap l ∧ ∀ x ∈ l, -9223372036854775808 ≤ x ∧ x < 9223372036854775808 := by
  obtain ⟨fuel, hf⟩ := h
  rcases open_slice1 hu hc hf with ⟨hcs, _⟩ | ⟨x, l, c, m, n, V, D, Pl, hcs, _, hl, _, hmm, hx, hV⟩
  · simp [Value.cells] at hcs
    obtain ⟨rfl, rfl, rfl⟩ := hcs
    exact ⟨[], ⟨rfl, Nat.le_refl _, by omega, fun hp => absurd hp (by omega)⟩, by simp⟩
  · simp [Value.cells] at hcs
    obtain ⟨rfl, rfl, rfl⟩ := hcs
    have hlm : len ≤ m := by rw [hmm]; split <;> omega
    have hB : ∀ i, i < m → ∃ b, V i = .int .i64 b ∧ -9223372036854775808 ≤ b ∧ b < 9223372036854775808 := fun i hi => by
      obtain ⟨b, h1, _, h3⟩ := DataW.trod_int he (hV i hi).2
      exact ⟨b, by simpa using h1, wf_i64 h3⟩
    refine ⟨(List.range len).map fun i => intOf (V i), ⟨by simp, hl, by omega, fun hp => ?_⟩, fun y hy => ?_⟩
    · have hs := spot0 (hV 0 (by omega)).1
      obtain ⟨b, o, s⟩ := x
      simp only at hs
      subst hs
      refine ⟨b, o, rfl, by simp, fun j hj => ?_⟩
      have h1 := (hV j (by omega)).1
      rw [Addr.add_mid] at h1
      obtain ⟨v, hv, _⟩ := hB j (by omega)
      rw [h1, hv]
      simp [List.getD_eq_getElem?_getD, hj, hv, intOf]
    · simp only [List.mem_map, List.mem_range] at hy
      obtain ⟨i, hi, rfl⟩ := hy
      obtain ⟨v, hv, hb⟩ := hB i (by omega)
      rw [hv]
      simpa [intOf] using hb
theorem rdv_of {f0 f1 f2 f3 : Field} (hsz : (DataW.weightsEach P ts ds).all (· ≤ reachBytes) = true) (ht : ts[j]? = some t) (hd : ds[j]? = some d) (hu : P.underlying t = some (.slice e)) (he : P.underlying e = some (.struct #[f0, f1, f2, f3])) (ce : P.cellsOf e = 4)
    (o0 : f0.offset = 0) (o1 : f1.offset = 1) (o2 : f2.offset = 2) (o3 : f3.offset = 3) (c0 : P.cellsOf f0.type = 1) (c1 : P.cellsOf f1.type = 1) (c2 : P.cellsOf f2.type = 1) (c3 : P.cellsOf f3.type = 1)
    (u0 : P.underlying f0.type = some (.int .i64)) (u1 : P.underlying f1.type = some (.int .u64)) (u2 : P.underlying f2.type = some (.int .i64)) (u3 : P.underlying f3.type = some .string) (hm : len ≤ 140737488351232)
    (h : DataW.Trod enc P W base spare held t (.slice a len cap) d ps) : ∃ l, RdV W a len cap l := by
  obtain ⟨fuel, hf⟩ := h
  rcases open_slice hu hf with ⟨hcs, _⟩ | ⟨x, l, c, m, n, D, Pl, hcs, _, hl, _, hmm, hx, hV⟩
  · simp [Value.cells] at hcs
    obtain ⟨rfl, rfl, rfl⟩ := hcs
    exact ⟨[], rfl, Nat.le_refl _, by omega, by simp, fun hp => absurd hp (by omega)⟩
  · simp [Value.cells] at hcs
    obtain ⟨rfl, rfl, rfl⟩ := hcs
    have hlm : len ≤ m := by rw [hmm]; split <;> omega
    obtain ⟨hx, _⟩ := Prod.mk.inj hx
    subst hx
    have each : ∀ i, i < len → ∃ o : ValV, o.ok ∧ W.cell? (x.add (i * 4)) = some (.int .i64 o.kind) ∧ W.cell? (x.add (i * 4 + 1)) = some (.int .u64 o.u) ∧ W.cell? (x.add (i * 4 + 2)) = some (.int .i64 o.i) ∧ W.cell? (x.add (i * 4 + 3)) = some (.string o.s) := by
      intro i hi
      obtain ⟨cs', h1, h2⟩ := hV i (by omega)
      rw [ce] at h1
      obtain ⟨_, hlen, hcell⟩ := World.cells?_some h1
      obtain ⟨xs, k, hk, hxy, _, hxl, hfl⟩ := DataW.trod_struct he h2
      match xs, hxl, cs', hlen with
      | [y0, y1, y2, y3], _, [v0, v1, v2, v3], _ =>
        have g0 := hfl 0 f0 rfl
        have g1 := hfl 1 f1 rfl
        have g2 := hfl 2 f2 rfl
        have g3 := hfl 3 f3 rfl
        simp [o0, o1, o2, o3, c0, c1, c2, c3] at g0 g1 g2 g3
        have e0 := hcell 0 (by omega)
        have e1 := hcell 1 (by omega)
        have e2 := hcell 2 (by omega)
        have e3 := hcell 3 (by omega)
        rw [add_add] at e0 e1 e2 e3
        obtain ⟨b0, hb0, _, _⟩ := DataW.trod_int u0 g0
        obtain ⟨b1, hb1, _, hw1⟩ := DataW.trod_int u1 g1
        obtain ⟨b2, hb2, _, hw2⟩ := DataW.trod_int u2 g2
        obtain ⟨b3, hb3, hy3, _⟩ := DataW.trod_string u3 g3
        simp at hb0 hb1 hb2 hb3
        subst hb0 hb1 hb2 hb3
        have hs3 : b3.data.toList.length ≤ reachBytes := by
          refine sized_elem hsz ht hd hu (x := D i) (List.mem_map.2 ⟨i, by simpa using hi, rfl⟩) ?_
          obtain ⟨hD, _⟩ := Prod.mk.inj hxy
          rw [hD]
          simp only [DataW.weights, he]
          refine DataW.weights_mem_each (j := 3) (t := f3.type) (d := y3.1) rfl rfl _ ?_
          rw [hy3]
          simp [DataW.weights]
        have h1 := wf_u64 hw1
        obtain ⟨u, rfl⟩ := Int.eq_ofNat_of_zero_le h1.1
        have hr : reachBytes = 140737488351232 := by simp [reachBytes]
        rw [str_len] at hs3
        exact ⟨⟨b0, u, b2, b3⟩, ⟨by simp only; omega, wf_i64 hw2, by simp only; omega⟩, by simpa using e0, by simpa using e1, by simpa using e2, by simpa using e3⟩
    obtain ⟨F, hF⟩ := choose_lt each
    refine ⟨(List.range len).map F, by simp, hl, by omega, fun y hy => ?_, fun hp => ?_⟩
    · simp only [List.mem_map, List.mem_range] at hy
      obtain ⟨i, hi, rfl⟩ := hy
      exact (hF i (by omega)).1
    · have hs := spot0 (by simpa using (hF 0 (by omega)).2.1 : W.cell? (x.add 0) = _)
      obtain ⟨b, o, s⟩ := x
      simp only at hs
      subst hs
      refine ⟨b, o, rfl, fun j hj => ?_⟩
      have h1 := hF j (by omega)
      simp only [Addr.add_mid] at h1
      have e : ((List.range len).map F).getD j default = F j := by simp [List.getD_eq_getElem?_getD, hj]
      rw [e]
      exact ⟨h1.2.1, by have := h1.2.2.1; rwa [← Nat.add_assoc] at this, by have := h1.2.2.2.1; rwa [← Nat.add_assoc] at this, by have := h1.2.2.2.2; rwa [← Nat.add_assoc] at this⟩
end
end Go.Proofs.Ytclafljkeaekfaa
