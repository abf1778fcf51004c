/- Words for the row of PackWrites: what the reading of a script says of memory. -/
import Derived.Test.YtclafljkeaekfaaLawPackWrites
import Derived.Test.YtclafljkeaekfaaRowP
set_option linter.unusedVariables false
set_option linter.unusedSimpArgs false
namespace Go.Proofs.Ytclafljkeaekfaa
open Go.ChangeShapes Go.WideShapes Go.RowKit Go.Deep
section
variable {H : Type} {enc : TypeId × Value → H} {P : Program} {W : World} {base : Nat} {spare : Nat → Bool} {held : Bool} {t e : TypeId} {a : Option Addr} {len cap : Nat} {d : DataW H} {ps : List MemPlace} {ts : List TypeId} {ds : List (DataW H)} {j : Nat}
theorem rdow_of {h0 h1 h2 h3 f0 f1 f2 f3 : Field} (hsz : (DataW.weightsEach P ts ds).all (· ≤ reachBytes) = true) (ht : ts[j]? = some t) (hd : ds[j]? = some d) (hu : P.underlying t = some (.slice e)) (he : P.underlying e = some (.struct #[h0, h1, h2, h3])) (ce : P.cellsOf e = 7)
    (p0 : h0.offset = 0) (p1 : h1.offset = 1) (p2 : h2.offset = 2) (p3 : h3.offset = 3) (k0 : P.cellsOf h0.type = 1) (k1 : P.cellsOf h1.type = 1) (k2 : P.cellsOf h2.type = 1) (k3 : P.cellsOf h3.type = 4)
    (v0 : P.underlying h0.type = some .bool) (v1 : P.underlying h1.type = some .bool) (v2 : P.underlying h2.type = some (.int .i64)) (v3 : P.underlying h3.type = some (.struct #[f0, f1, f2, f3]))
    (o0 : f0.offset = 0) (o1 : f1.offset = 1) (o2 : f2.offset = 2) (o3 : f3.offset = 3) (c0 : P.cellsOf f0.type = 1) (c1 : P.cellsOf f1.type = 1) (c2 : P.cellsOf f2.type = 1) (c3 : P.cellsOf f3.type = 1)
    (u0 : P.underlying f0.type = some (.int .i64)) (u1 : P.underlying f1.type = some (.int .u64)) (u2 : P.underlying f2.type = some (.int .i64)) (u3 : P.underlying f3.type = some .string) (hm : len ≤ 140737488351232)
    (h : DataW.Trod enc P W base spare held t (.slice a len cap) d ps) : ∃ l, RdOW W a len cap l := by
  obtain ⟨fuel, hf⟩ := h
  rcases open_slice hu hf with ⟨hcs, _⟩ | ⟨x, l, c, m, n, D, Pl, hcs, _, hl, _, hmm, hx, hV⟩
  · simp [Value.cells] at hcs
    obtain ⟨rfl, rfl, rfl⟩ := hcs
    exact ⟨[], rfl, Nat.le_refl _, by omega, by simp, fun hp => absurd hp (by omega)⟩
  · simp [Value.cells] at hcs
    obtain ⟨rfl, rfl, rfl⟩ := hcs
    have hlm : len ≤ m := by rw [hmm]; split <;> omega
    obtain ⟨hx, _⟩ := Prod.mk.inj hx
    subst hx
    have each : ∀ i, i < len → ∃ o : OpW, o.v.ok ∧ W.cell? (x.add (i * 7)) = some (.bool o.two) ∧ W.cell? (x.add (i * 7 + 1)) = some (.bool o.new) ∧ W.cell? (x.add (i * 7 + 2)) = some (.int .i64 o.lim) ∧ W.cell? (x.add (i * 7 + 3)) = some (.int .i64 o.v.kind) ∧ W.cell? (x.add (i * 7 + 4)) = some (.int .u64 o.v.u) ∧ W.cell? (x.add (i * 7 + 5)) = some (.int .i64 o.v.i) ∧ W.cell? (x.add (i * 7 + 6)) = some (.string o.v.s) := by
      intro i hi
      obtain ⟨cs', h1, h2⟩ := hV i (by omega)
      rw [ce] at h1
      obtain ⟨_, hlen, hcell⟩ := World.cells?_some h1
      obtain ⟨xs, k, hk, hxy, _, hxl, hfl⟩ := DataW.trod_struct he h2
      match xs, hxl, cs', hlen with
      | [y0, y1, y2, y3], _, [w0, w1, w2, w3, w4, w5, w6], _ =>
        have g0 := hfl 0 h0 rfl
        have g1 := hfl 1 _ rfl
        have g2 := hfl 2 _ rfl
        have g3 := hfl 3 h3 rfl
        simp [p0, p1, p2, p3, k0, k1, k2, k3] at g0 g1 g2 g3
        have e0 := hcell 0 (by omega)
        have e1 := hcell 1 (by omega)
        have e2 := hcell 2 (by omega)
        have e3 := hcell 3 (by omega)
        have e4 := hcell 4 (by omega)
        have e5 := hcell 5 (by omega)
        have e6 := hcell 6 (by omega)
        rw [add_add] at e0 e1 e2 e3 e4 e5 e6
        obtain ⟨b0, hb0, _⟩ := DataW.trod_bool v0 g0
        obtain ⟨b1, hb1, _⟩ := DataW.trod_bool v1 g1
        obtain ⟨b2, hb2, _, hw2⟩ := DataW.trod_int v2 g2
        obtain ⟨xs3, k3', hk3, hxy3, _, hxl3, hfl3⟩ := DataW.trod_struct v3 g3
        match xs3, hxl3 with
        | [z0, z1, z2, z3], _ =>
          have q0 := hfl3 0 f0 rfl
          have q1 := hfl3 1 f1 rfl
          have q2 := hfl3 2 f2 rfl
          have q3 := hfl3 3 f3 rfl
          simp [o0, o1, o2, o3, c0, c1, c2, c3] at q0 q1 q2 q3
          obtain ⟨b3, hb3, _, _⟩ := DataW.trod_int u0 q0
          obtain ⟨b4, hb4, _, hw4⟩ := DataW.trod_int u1 q1
          obtain ⟨b5, hb5, _, hw5⟩ := DataW.trod_int u2 q2
          obtain ⟨b6, hb6, hy6, _⟩ := DataW.trod_string u3 q3
          simp at hb0 hb1 hb2 hb3 hb4 hb5 hb6
          subst hb0 hb1 hb2 hb3 hb4 hb5 hb6
          have hs6 : b6.data.toList.length ≤ reachBytes := by
            refine sized_elem hsz ht hd hu (x := D i) (List.mem_map.2 ⟨i, by simpa using hi, rfl⟩) ?_
            obtain ⟨hD, _⟩ := Prod.mk.inj hxy
            rw [hD]
            simp only [DataW.weights, he]
            refine DataW.weights_mem_each (j := 3) (t := h3.type) (d := y3.1) rfl rfl _ ?_
            rw [hxy3]
            simp only [DataW.weights, v3]
            refine DataW.weights_mem_each (j := 3) (t := f3.type) (d := z3.1) rfl rfl _ ?_
            rw [hy6]
            simp [DataW.weights]
          have h1 := wf_u64 hw4
          obtain ⟨u, rfl⟩ := Int.eq_ofNat_of_zero_le h1.1
          have hr : reachBytes = 140737488351232 := by simp [reachBytes]
          rw [str_len] at hs6
          exact ⟨⟨b0, b1, b2, ⟨b3, u, b5, b6⟩⟩, ⟨by simp only; omega, wf_i64 hw5, by simp only; omega⟩, by simpa using e0, by simpa using e1, by simpa using e2, by simpa using e3, by simpa using e4, by simpa using e5, by simpa using e6⟩
    obtain ⟨F, hF⟩ := choose_lt each
    refine ⟨(List.range len).map F, by simp, hl, by omega, fun y hy => ?_, fun hp => ?_⟩
    · simp only [List.mem_map, List.mem_range] at hy
      obtain ⟨i, hi, rfl⟩ := hy
      exact (hF i (by omega)).1
    · have hs := spot0 (by simpa using (hF 0 (by omega)).2.1 : W.cell? (x.add 0) = _)
      obtain ⟨b, o, s⟩ := x
      simp only at hs
      subst hs
      refine ⟨b, o, rfl, fun j hj => ?_⟩
      have h1 := hF j (by omega)
      simp only [Addr.add_mid] at h1
      have e : ((List.range len).map F).getD j default = F j := by simp [List.getD_eq_getElem?_getD, hj]
      rw [e]
      obtain ⟨_, r0, r1, r2, r3, r4, r5, r6⟩ := h1
      rw [← Nat.add_assoc] at r1 r2 r3 r4 r5 r6
      exact ⟨r0, r1, r2, r3, r4, r5, r6⟩
end
end Go.Proofs.Ytclafljkeaekfaa
