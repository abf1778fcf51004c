/- Words for rows: a node that came in by value. -/
import Derived.Test.YtlandlgjhnnaiaaRowW
import Derived.Test.YtlandlgjhnnaiaaPg21
import Derived.Deep.Slices
import Derived.Deep.SlicePairs
import Derived.Lib.SmallJoins
import Derived.SizedLaws
import Derived.ChangeSlices
import Derived.ProofKit
import Derived.OpenShut
set_option linter.unusedVariables false
set_option linter.unusedSimpArgs false
namespace Go.Proofs.Ytlandlgjhnnaiaa
open Go.Joins Go.ChangeShapes Go.WideShapes Go.RowKit Go.Deep
theorem weightsAll_memN {H : Type} {P : Program} {e : TypeId} : ∀ (l : List (DataW H)) (x : DataW H), x ∈ l → ∀ n, n ∈ x.weights P e → n ∈ DataW.weightsAll P e l
  | [], x, h, _, _ => by simp at h
  | y :: r, x, h, n, hn => by
    rw [DataW.weightsAll, List.mem_append]
    rcases List.mem_cons.1 h with rfl | h
    · exact .inl hn
    · exact .inr (weightsAll_memN r x h n hn)
theorem reach_eqN : reachBytes = 140737488351232 := by simp [reachBytes]
theorem spotN {W : World} {x : Addr} {v : Value} (h : W.cell? (x.add 0) = some v) : x.spot = none := by
  obtain ⟨b, o, s⟩ := x
  cases s with
  | none => rfl
  | some s =>
    exfalso
    rw [show (⟨b, o, some s⟩ : Addr).add 0 = ⟨b, o, some s⟩ from rfl] at h
    simp only [World.cell?] at h
    split at h <;> simp at h
section
variable {H : Type} {enc : TypeId × Value → H} {P : Program} {W : World} {base : Nat} {spare : Nat → Bool} {held : Bool} {t e : TypeId} {v : Value} {d : DataW H} {ps : List MemPlace} {fuel : Nat}
theorem slice_lenN (hu : P.underlying t = some (.slice e)) {elems sp : List (DataW H)} (hw : ∀ n ∈ (DataW.slice elems sp).weights P t, n ≤ reachBytes) : (elems.length + sp.length) * P.bytesOf e ≤ reachBytes :=
  hw _ (by simp only [DataW.weights, hu]; exact List.mem_cons_self)
theorem i64_cellN {c : Value} (hu : P.underlying t = some (.int .i64)) (h : DataW.trod enc P W base spare held fuel t [c] = some (d, ps)) : ∃ x : Int, c = .int .i64 x ∧ (-9223372036854775808 ≤ x ∧ x < 9223372036854775808) := by
  obtain ⟨x, hx, _, hw⟩ := DataW.trod_int hu h
  simp at hx
  exact ⟨x, hx, wf_i64 hw⟩
theorem str_cellN {c : Value} (hu : P.underlying t = some .string) (h : DataW.trod enc P W base spare held fuel t [c] = some (d, ps)) : ∃ s : ByteArray, c = .string s := by
  obtain ⟨s, hs, _, _⟩ := DataW.trod_string hu h
  simp at hs
  exact ⟨s, hs⟩
theorem rdi_cellN (hu : P.underlying t = some (.slice e)) (he : P.underlying e = some (.int .i64)) (hc : P.cellsOf e = 1) (hB : P.bytesOf e = 8) (hw : ∀ n ∈ d.weights P t, n ≤ reachBytes)
    (h : DataW.trod enc P W base spare held fuel t [v] = some (d, ps)) : ∃ A n c l, v = .slice A n c ∧ RdI [] W A n c l ∧ n ≤ 17592186043904 := by
  rcases open_slice1 hu hc h with ⟨hcs, _⟩ | ⟨x, len, c, m, n, V, D, Pl, hcs, _, hl, _, hmm, hx, hV⟩
  · simp at hcs
    exact ⟨none, 0, 0, [], hcs, RdI.nil _ _, by omega⟩
  · simp at hcs
    subst hcs
    obtain ⟨hx, _⟩ := Prod.mk.inj hx
    subst hx
    have hlm : len ≤ m := by rw [hmm]; split <;> omega
    have z := slice_lenN hu hw
    rw [hB, reach_eqN] at z
    simp only [List.length_map, List.length_range] at z
    have hBx : ∀ i, i < m → ∃ b, V i = .int .i64 b := fun i hi => by
      obtain ⟨b, h1, _, h3⟩ := DataW.trod_int he (hV i hi).2
      exact ⟨b, by simpa using h1⟩
    refine ⟨_, _, _, (List.range len).map fun i => intOf (V i), rfl, ⟨by simp, hl, by omega, fun hp => ?_⟩, by omega⟩
    have hs := spotN (hV 0 (by omega)).1
    obtain ⟨b, o, s⟩ := x
    simp only at hs
    subst hs
    refine ⟨b, o, rfl, by simp, fun j hj => ?_⟩
    have h1 := (hV j (by omega)).1
    rw [Addr.add_mid] at h1
    obtain ⟨v, hv⟩ := hBx j (by omega)
    rw [h1, hv]
    simp [List.getD_eq_getElem?_getD, hj, hv, intOf]
theorem rdt_cellN (hu : P.underlying t = some (.slice e)) (he : P.underlying e = some .string) (hc : P.cellsOf e = 1) (hB : P.bytesOf e = 16) (hw : ∀ n ∈ d.weights P t, n ≤ reachBytes)
    (h : DataW.trod enc P W base spare held fuel t [v] = some (d, ps)) : ∃ A n c l, v = .slice A n c ∧ RdT W A n c l ∧ n ≤ 8796093021952 := by
  rcases open_slice1 hu hc h with ⟨hcs, _⟩ | ⟨x, len, c, m, n, V, D, Pl, hcs, _, hl, _, hmm, hx, hV⟩
  · simp at hcs
    exact ⟨none, 0, 0, [], hcs, RdT.nil _, by omega⟩
  · simp at hcs
    subst hcs
    obtain ⟨hx, _⟩ := Prod.mk.inj hx
    subst hx
    have hlm : len ≤ m := by rw [hmm]; split <;> omega
    have z := slice_lenN hu hw
    rw [hB, reach_eqN] at z
    simp only [List.length_map, List.length_range] at z
    have each : ∀ i, i < len → ∃ s : ByteArray, W.cell? (x.add i) = some (.string s) := by
      intro i hi
      obtain ⟨h1, h2⟩ := hV i (by omega)
      obtain ⟨s, hs, hy, _⟩ := DataW.trod_string he h2
      simp at hs
      rw [hs] at h1
      exact ⟨s, h1⟩
    obtain ⟨F, hF⟩ := choose_lt each
    refine ⟨_, _, _, (List.range len).map F, rfl, ⟨by simp, hl, by omega, fun hp => ?_⟩, by omega⟩
    have hs := spotN (by simpa using (hF 0 (by omega)) : W.cell? (x.add 0) = _)
    obtain ⟨b, o, s⟩ := x
    simp only at hs
    subst hs
    refine ⟨b, o, rfl, fun j hj => ?_⟩
    have h1 := hF j (by omega)
    rw [Addr.add_mid] at h1
    rw [h1]
    simp [List.getD_eq_getElem?_getD, hj]
theorem rde_cellN {f0 f1 : Field} (hu : P.underlying t = some (.slice e)) (he : P.underlying e = some (.struct #[f0, f1])) (ce : P.cellsOf e = 2) (hB : P.bytesOf e = 32)
    (o0 : f0.offset = 0) (o1 : f1.offset = 1) (c0 : P.cellsOf f0.type = 1) (c1 : P.cellsOf f1.type = 1) (u0 : P.underlying f0.type = some .string) (u1 : P.underlying f1.type = some .string) (hw : ∀ n ∈ d.weights P t, n ≤ reachBytes)
    (h : DataW.trod enc P W base spare held fuel t [v] = some (d, ps)) : ∃ A n c l, v = .slice A n c ∧ RdE W A n c l ∧ n ≤ 4398046510976 := by
  rcases open_slice hu h with ⟨hcs, _⟩ | ⟨x, len, cap, m, n, D, Pl, hcs, _, hl, _, hmm, hx, hV⟩
  · simp at hcs
    exact ⟨none, 0, 0, [], hcs, RdE.nil _, by omega⟩
  · simp at hcs
    subst hcs
    obtain ⟨hx, _⟩ := Prod.mk.inj hx
    subst hx
    have hlm : len ≤ m := by rw [hmm]; split <;> omega
    have z := slice_lenN hu hw
    rw [hB, reach_eqN] at z
    simp only [List.length_map, List.length_range] at z
    have each : ∀ i, i < len → ∃ o : En, W.cell? (x.add (i * 2)) = some (.string o.key) ∧ W.cell? (x.add (i * 2 + 1)) = some (.string o.val) := by
      intro i hi
      obtain ⟨cs', h1, h2⟩ := hV i (by omega)
      rw [ce] at h1
      obtain ⟨_, hlen, hcell⟩ := World.cells?_some h1
      obtain ⟨xs, k, hk, hxy, _, hxl, hfl⟩ := DataW.trod_struct he h2
      match xs, hxl, cs', hlen with
      | [y0, y1], _, [v0, v1], _ =>
        have g0 := hfl 0 f0 rfl
        have g1 := hfl 1 f1 rfl
        simp [o0, o1, c0, c1] at g0 g1
        have e0 := hcell 0 (by omega)
        have e1 := hcell 1 (by omega)
        rw [add_add] at e0 e1
        obtain ⟨b0, hb0, _, _⟩ := DataW.trod_string u0 g0
        obtain ⟨b1, hb1, _, _⟩ := DataW.trod_string u1 g1
        simp at hb0 hb1
        subst hb0 hb1
        exact ⟨⟨b0, b1⟩, by simpa using e0, by simpa using e1⟩
    obtain ⟨F, hF⟩ := choose_lt each
    refine ⟨_, _, _, (List.range len).map F, rfl, ⟨by simp, hl, by omega, fun hp => ?_⟩, by omega⟩
    have hs := spotN (by simpa using (hF 0 (by omega)).1 : W.cell? (x.add 0) = _)
    obtain ⟨b, o, s⟩ := x
    simp only at hs
    subst hs
    refine ⟨b, o, rfl, fun j hj => ?_⟩
    have h1 := hF j (by omega)
    simp only [Addr.add_mid] at h1
    have e9 : ((List.range len).map F).getD j default = F j := by simp [List.getD_eq_getElem?_getD, hj]
    rw [e9]
    obtain ⟨r0, r1⟩ := h1
    rw [← Nat.add_assoc] at r1
    exact ⟨r0, r1⟩
end
theorem arg_weightsN {H : Type} {P : Program} {ts : List TypeId} {ds : List (DataW H)} {j : Nat} {t : TypeId} {d : DataW H} (hsz : (DataW.weightsEach P ts ds).all (· ≤ reachBytes) = true) (ht : ts[j]? = some t) (hd : ds[j]? = some d) : ∀ n ∈ d.weights P t, n ≤ reachBytes := fun n hn => by
  have := List.all_eq_true.1 hsz _ (DataW.weights_mem_each ht hd n hn)
  simpa using this
section
variable {H : Type} {enc : TypeId × Value → H} {P : Program} {W : World} {base : Nat} {spare : Nat → Bool} {held : Bool}
theorem nd_of {r : Reach} {b0 : Nat} {t e1 : TypeId} {f0 f1 f2 f3 f4 f5 f6 g0 g1 : Field} {v : Value} {d : DataW H} {p : List MemPlace} {ts : List TypeId} {ds : List (DataW H)} {j : Nat}
    (hsz : (DataW.weightsEach P ts ds).all (· ≤ reachBytes) = true) (ht : ts[j]? = some t) (hd : ds[j]? = some d) (hs : P.underlying t = some (.struct #[f0, f1, f2, f3, f4, f5, f6])) (hC : P.cellsOf t = 7)
    (o0 : f0.offset = 0) (o1 : f1.offset = 1) (o2 : f2.offset = 2) (o3 : f3.offset = 3) (o4 : f4.offset = 4) (o5 : f5.offset = 5) (o6 : f6.offset = 6)
    (k0 : P.cellsOf f0.type = 1) (k1 : P.cellsOf f1.type = 1) (k2 : P.cellsOf f2.type = 1) (k3 : P.cellsOf f3.type = 1) (k4 : P.cellsOf f4.type = 1) (k5 : P.cellsOf f5.type = 1) (k6 : P.cellsOf f6.type = 1)
    (u0 : P.underlying f0.type = some (.int .i64)) (u1 : P.underlying f1.type = some (.slice e1)) (u2 : P.underlying f2.type = some (.slice 3)) (u3 : P.underlying f3.type = some (.slice 9)) (u4 : P.underlying f4.type = some (.slice 3)) (u5 : P.underlying f5.type = some (.int .i64)) (u6 : P.underlying f6.type = some .string)
    (ue : P.underlying e1 = some (.struct #[g0, g1])) (ce : P.cellsOf e1 = 2) (be : P.bytesOf e1 = 32) (q0 : g0.offset = 0) (q1 : g1.offset = 1) (m0 : P.cellsOf g0.type = 1) (m1 : P.cellsOf g1.type = 1) (v0 : P.underlying g0.type = some .string) (v1 : P.underlying g1.type = some .string)
    (ui : P.underlying 3 = some (.int .i64)) (ci : P.cellsOf 3 = 1) (bi : P.bytesOf 3 = 8) (us : P.underlying 9 = some .string) (cs : P.cellsOf 9 = 1) (bs : P.bytesOf 9 = 16)
    (hv : Value.okWide P W r b0 t v) (h : DataW.Trod enc P W base spare held t v d p) : ∃ (n : Nd) (vE vC vK vD : Value), v = .agg (ndC n vE vC vK vD) ∧ NdR W n vE vC vK vD ∧ NdB n := by
  obtain ⟨cs9, rfl, hsz9⟩ := okWide_struct hs hv
  obtain ⟨l⟩ := cs9
  match l, hsz9.trans hC with
  | [c0, c1, c2, c3, c4, c5, c6], _ =>
    obtain ⟨fuel, hf⟩ := h
    obtain ⟨xs, n, _, hx, _, hlen, hg⟩ := DataW.trod_struct hs hf
    match xs, hlen with
    | [y0, y1, y2, y3, y4, y5, y6], _ =>
      have e0 : DataW.trod enc P W base spare held n f0.type [c0] = some y0 := by simpa [Value.cells, o0, k0] using hg 0 f0 rfl
      have e1 : DataW.trod enc P W base spare held n f1.type [c1] = some y1 := by simpa [Value.cells, o1, k1] using hg 1 f1 rfl
      have e2 : DataW.trod enc P W base spare held n f2.type [c2] = some y2 := by simpa [Value.cells, o2, k2] using hg 2 f2 rfl
      have e3 : DataW.trod enc P W base spare held n f3.type [c3] = some y3 := by simpa [Value.cells, o3, k3] using hg 3 f3 rfl
      have e4 : DataW.trod enc P W base spare held n f4.type [c4] = some y4 := by simpa [Value.cells, o4, k4] using hg 4 f4 rfl
      have e5 : DataW.trod enc P W base spare held n f5.type [c5] = some y5 := by simpa [Value.cells, o5, k5] using hg 5 f5 rfl
      have e6 : DataW.trod enc P W base spare held n f6.type [c6] = some y6 := by simpa [Value.cells, o6, k6] using hg 6 f6 rfl
      have hD : d = .agg [y0.1, y1.1, y2.1, y3.1, y4.1, y5.1, y6.1] := (Prod.mk.inj hx).1
      have hDw : ∀ n ∈ d.weights P t, n ≤ reachBytes := arg_weightsN hsz ht hd
      have hwf : ∀ (i : Nat) (ty : TypeId) (dy : DataW H), [f0.type, f1.type, f2.type, f3.type, f4.type, f5.type, f6.type][i]? = some ty → [y0.1, y1.1, y2.1, y3.1, y4.1, y5.1, y6.1][i]? = some dy → ∀ n ∈ dy.weights P ty, n ≤ reachBytes := fun i ty dy h1 h2 n hn => hDw n (by
        rw [hD]; simp only [DataW.weights, hs]
        exact DataW.weights_mem_each (j := i) (t := ty) (d := dy) (by simpa using h1) (by simpa using h2) _ hn)
      obtain ⟨x0, rfl, w0⟩ := i64_cellN u0 e0
      obtain ⟨A1, n1, cp1, l1, rfl, r1, b1⟩ := rde_cellN u1 ue ce be q0 q1 m0 m1 v0 v1 (hwf 1 f1.type y1.1 rfl rfl) e1
      obtain ⟨A2, n2, cp2, l2, rfl, r2, b2⟩ := rdi_cellN u2 ui ci bi (hwf 2 f2.type y2.1 rfl rfl) e2
      obtain ⟨A3, n3, cp3, l3, rfl, r3, b3⟩ := rdt_cellN u3 us cs bs (hwf 3 f3.type y3.1 rfl rfl) e3
      obtain ⟨A4, n4, cp4, l4, rfl, r4, b4⟩ := rdi_cellN u4 ui ci bi (hwf 4 f4.type y4.1 rfl rfl) e4
      obtain ⟨x5, rfl, w5⟩ := i64_cellN u5 e5
      obtain ⟨s6, rfl⟩ := str_cellN u6 e6
      have z1 := r1.len
      have z2 := r2.len
      have z3 := r3.len
      have z4 := r4.len
      refine ⟨⟨x0, l1, l2, l3, l4, x5, s6⟩, .slice A1 n1 cp1, .slice A2 n2 cp2, .slice A3 n3 cp3, .slice A4 n4 cp4, rfl, ⟨⟨A1, cp1, by rw [z1], by rw [z1]; exact r1⟩, ⟨A2, cp2, by rw [z2], by rw [z2]; exact r2⟩, ⟨A3, cp3, by rw [z3], by rw [z3]; exact r3⟩, ⟨A4, cp4, by rw [z4], by rw [z4]; exact r4⟩⟩, by unfold NdB; dsimp only; omega⟩
end
end Go.Proofs.Ytlandlgjhnnaiaa
