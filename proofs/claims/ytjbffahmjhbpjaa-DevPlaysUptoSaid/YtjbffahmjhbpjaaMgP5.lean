/- The law DevPlays holds for every input whose arguments are together of bulk at most 1048576: the row, out of its walk. No other condition. -/
import Derived.Test.YtjbffahmjhbpjaaMgP4
import Derived.Test.YtjbffahmjhbpjaaRows
import Derived.Deep.Slices
import Derived.Deep.SlicePairs
import Derived.JoinedCond
import Derived.WalkKit
import Derived.ProofKit
import Derived.OpenShut
import Derived.ShutString
import Derived.ChangeOld
import Derived.Below
import Derived.SizedLaws
/- Words for rows: what the reading of fates and of a script says of memory. -/
set_option linter.unusedVariables false
set_option linter.unusedSimpArgs false
namespace Go.Proofs.Ytjbffahmjhbpjaa
open Go.ChangeShapes Go.WideShapes Go.RowKit Go.Deep
theorem weightsAll_memO {H : Type} {P : Program} {e : TypeId} : ∀ (l : List (DataW H)) (x : DataW H), x ∈ l → ∀ n, n ∈ x.weights P e → n ∈ DataW.weightsAll P e l
  | [], x, h, _, _ => by simp at h
  | y :: r, x, h, n, hn => by
    rw [DataW.weightsAll, List.mem_append]
    rcases List.mem_cons.1 h with rfl | h
    · exact .inl hn
    · exact .inr (weightsAll_memO r x h n hn)
theorem elem_weight {H : Type} {P : Program} {t e : TypeId} {elems spare : List (DataW H)} (hu : P.underlying t = some (.slice e)) (hw : ∀ n ∈ (DataW.slice elems spare).weights P t, n ≤ reachBytes) {x : DataW H} (hx : x ∈ elems) {n : Nat} (hn : n ∈ x.weights P e) : n ≤ reachBytes :=
  hw n (by simp only [DataW.weights, hu]; exact List.mem_cons_of_mem _ (List.mem_append.2 (.inl (weightsAll_memO elems x hx n hn))))
theorem reach_eq : reachBytes = 140737488351232 := by simp [reachBytes]
section
variable {H : Type} {enc : TypeId × Value → H} {P : Program} {W : World} {base : Nat} {spare : Nat → Bool} {held : Bool} {t e : TypeId} {v : Value} {d : DataW H} {ps : List MemPlace} {fuel : Nat}
theorem slice_len (hu : P.underlying t = some (.slice e)) {elems sp : List (DataW H)} (hw : ∀ n ∈ (DataW.slice elems sp).weights P t, n ≤ reachBytes) : (elems.length + sp.length) * P.bytesOf e ≤ reachBytes :=
  hw _ (by simp only [DataW.weights, hu]; exact List.mem_cons_self)
theorem rd_cell (hu : P.underlying t = some (.slice e)) (he : P.underlying e = some (.int .u8)) (hc : P.cellsOf e = 1) (hB : P.bytesOf e = 1) (hw : ∀ n ∈ d.weights P t, n ≤ reachBytes)
    (h : DataW.trod enc P W base spare held fuel t [v] = some (d, ps)) : ∃ A n c l, v = .slice A n c ∧ Rd W A n c l ∧ n ≤ 140737488351232 := by
  have h' := h
  rcases open_ints hu he hc h with ⟨hcs, hx⟩ | ⟨x, l, c, zs, hcs, _, hl, _, hz, hx, hcell, hwz⟩
  · simp at hcs
    exact ⟨none, 0, 0, [], hcs, Rd.nil _, by omega⟩
  · simp at hcs
    obtain ⟨hx, _⟩ := Prod.mk.inj hx
    subst hx hcs
    have z := slice_len hu hw
    rw [hB, reach_eq] at z
    have hl2 : l ≤ zs.length := by
      rw [hz]
      split
      · exact hl
      · exact Nat.le_refl _
    simp only [lits, List.length_map, List.length_take, List.length_drop] at z
    obtain ⟨L, hr⟩ := rd_of hu he hc ⟨_, h'⟩ (by omega)
    exact ⟨_, _, _, L, rfl, hr, by omega⟩
theorem rdf_cell {f0 f1 : Field} (hu : P.underlying t = some (.slice e)) (he : P.underlying e = some (.struct #[f0, f1])) (ce : P.cellsOf e = 2) (hB : P.bytesOf e = 16)
    (o0 : f0.offset = 0) (o1 : f1.offset = 1) (c0 : P.cellsOf f0.type = 1) (c1 : P.cellsOf f1.type = 1) (u0 : P.underlying f0.type = some (.int .i64)) (u1 : P.underlying f1.type = some (.int .i64)) (hw : ∀ n ∈ d.weights P t, n ≤ reachBytes)
    (h : DataW.trod enc P W base spare held fuel t [v] = some (d, ps)) : ∃ A n c l, v = .slice A n c ∧ RdF W A n c l ∧ n ≤ 8796093022207 := by
  rcases open_slice hu h with ⟨hcs, _⟩ | ⟨x, len, cap, m, n, D, Pl, hcs, _, hl, _, hmm, hx, hV⟩
  · simp at hcs
    exact ⟨none, 0, 0, [], hcs, RdF.nil _, by omega⟩
  · simp at hcs
    obtain ⟨hx, _⟩ := Prod.mk.inj hx
    subst hx hcs
    have hlm : len ≤ m := by rw [hmm]; split <;> omega
    have z := slice_len hu hw
    rw [hB, reach_eq] at z
    simp only [List.length_map, List.length_range] at z
    have each : ∀ i, i < len → ∃ o : Ft, W.cell? (x.add (i * 2)) = some (.int .i64 o.kind) ∧ W.cell? (x.add (i * 2 + 1)) = some (.int .i64 o.at_) := by
      intro i hi
      obtain ⟨cs', h1, h2⟩ := hV i (by omega)
      rw [ce] at h1
      obtain ⟨_, hlen, hcell⟩ := World.cells?_some h1
      obtain ⟨xs, k, hk, hxy, _, hxl, hfl⟩ := DataW.trod_struct he h2
      match xs, hxl, cs', hlen with
      | [y0, y1], _, [v0, v1], _ =>
        have g0 := hfl 0 f0 rfl
        have g1 := hfl 1 f1 rfl
        simp [o0, o1, c0, c1] at g0 g1
        have e0 := hcell 0 (by omega)
        have e1 := hcell 1 (by omega)
        rw [add_add] at e0 e1
        obtain ⟨b0, hb0, _, _⟩ := DataW.trod_int u0 g0
        obtain ⟨b1, hb1, _, _⟩ := DataW.trod_int u1 g1
        simp at hb0 hb1
        subst hb0 hb1
        exact ⟨⟨b0, b1⟩, by simpa using e0, by simpa using e1⟩
    obtain ⟨F, hF⟩ := choose_lt each
    refine ⟨_, _, _, (List.range len).map F, rfl, ⟨by simp, hl, by omega, fun hp => ?_⟩, by omega⟩
    have hs := spot0 (by simpa using (hF 0 (by omega)).1 : W.cell? (x.add 0) = _)
    obtain ⟨b, o, s⟩ := x
    simp only at hs
    subst hs
    refine ⟨b, o, rfl, fun j hj => ?_⟩
    have h1 := hF j (by omega)
    simp only [Addr.add_mid] at h1
    have e9 : ((List.range len).map F).getD j default = F j := by simp [List.getD_eq_getElem?_getD, hj]
    rw [e9]
    obtain ⟨r0, r1⟩ := h1
    rw [← Nat.add_assoc] at r1
    exact ⟨r0, r1⟩
end
section
variable {H : Type} {enc : TypeId × Value → H} {P : Program} {W : World} {base : Nat} {spare : Nat → Bool} {held : Bool} {t e : TypeId} {a : Option Addr} {len cap : Nat} {d : DataW H} {ps : List MemPlace} {ts : List TypeId} {ds : List (DataW H)} {j : Nat}
theorem arg_weights (hsz : (DataW.weightsEach P ts ds).all (· ≤ reachBytes) = true) (ht : ts[j]? = some t) (hd : ds[j]? = some d) : ∀ n ∈ d.weights P t, n ≤ reachBytes := fun n hn => by
  have := List.all_eq_true.1 hsz _ (DataW.weights_mem_each ht hd n hn)
  simpa using this
theorem rdf_of {f0 f1 : Field} (hsz : (DataW.weightsEach P ts ds).all (· ≤ reachBytes) = true) (ht : ts[j]? = some t) (hd : ds[j]? = some d) (hu : P.underlying t = some (.slice e)) (he : P.underlying e = some (.struct #[f0, f1])) (ce : P.cellsOf e = 2) (hB : P.bytesOf e = 16)
    (o0 : f0.offset = 0) (o1 : f1.offset = 1) (c0 : P.cellsOf f0.type = 1) (c1 : P.cellsOf f1.type = 1) (u0 : P.underlying f0.type = some (.int .i64)) (u1 : P.underlying f1.type = some (.int .i64))
    (h : DataW.Trod enc P W base spare held t (.slice a len cap) d ps) : ∃ l, RdF W a len cap l ∧ len ≤ 8796093022207 := by
  obtain ⟨fuel, hf⟩ := h
  obtain ⟨A, n, c, l, e1, hr, hn⟩ := rdf_cell hu he ce hB o0 o1 c0 c1 u0 u1 (arg_weights hsz ht hd) (v := .slice a len cap) hf
  injection e1 with q1 q2 q3
  subst q1 q2 q3
  exact ⟨l, hr, hn⟩
theorem rdod_of {h0 h1 h2 h3 h4 h5 h6 h7 f0 f1 : Field} {tb tf : TypeId} (hsz : (DataW.weightsEach P ts ds).all (· ≤ reachBytes) = true) (ht : ts[j]? = some t) (hd : ds[j]? = some d) (hu : P.underlying t = some (.slice e)) (he : P.underlying e = some (.struct #[h0, h1, h2, h3, h4, h5, h6, h7])) (ce : P.cellsOf e = 8)
    (p0 : h0.offset = 0) (p1 : h1.offset = 1) (p2 : h2.offset = 2) (p3 : h3.offset = 3) (p4 : h4.offset = 4) (p5 : h5.offset = 5) (p6 : h6.offset = 6) (p7 : h7.offset = 7)
    (k0 : P.cellsOf h0.type = 1) (k1 : P.cellsOf h1.type = 1) (k2 : P.cellsOf h2.type = 1) (k3 : P.cellsOf h3.type = 1) (k4 : P.cellsOf h4.type = 1) (k5 : P.cellsOf h5.type = 1) (k6 : P.cellsOf h6.type = 1) (k7 : P.cellsOf h7.type = 1)
    (v0 : P.underlying h0.type = some .bool) (v1 : P.underlying h1.type = some (.int .i64)) (v2 : P.underlying h2.type = some (.int .i64)) (v3 : P.underlying h3.type = some (.int .i64)) (v4 : P.underlying h4.type = some (.int .i64)) (v5 : P.underlying h5.type = some (.int .u8))
    (v6 : P.underlying h6.type = some (.slice tb)) (v7 : P.underlying h7.type = some (.slice tf)) (b1 : P.underlying tb = some (.int .u8)) (b2 : P.cellsOf tb = 1) (b3 : P.bytesOf tb = 1)
    (q1 : P.underlying tf = some (.struct #[f0, f1])) (q2 : P.cellsOf tf = 2) (q3 : P.bytesOf tf = 16)
    (o0 : f0.offset = 0) (o1 : f1.offset = 1) (c0 : P.cellsOf f0.type = 1) (c1 : P.cellsOf f1.type = 1) (u0 : P.underlying f0.type = some (.int .i64)) (u1 : P.underlying f1.type = some (.int .i64)) (hm : len ≤ 140737488351232)
    (h : DataW.Trod enc P W base spare held t (.slice a len cap) d ps) : ∃ l, RdO W a len cap l := by
  have hwt := arg_weights hsz ht hd
  obtain ⟨fuel, hf⟩ := h
  rcases open_slice hu hf with ⟨hcs, _⟩ | ⟨x, l, c, m, n, D, Pl, hcs, _, hl, _, hmm, hx, hV⟩
  · simp [Value.cells] at hcs
    obtain ⟨rfl, rfl, rfl⟩ := hcs
    exact ⟨[], rfl, Nat.le_refl _, by omega, fun hp => absurd hp (by omega)⟩
  · simp [Value.cells] at hcs
    obtain ⟨rfl, rfl, rfl⟩ := hcs
    have hlm : len ≤ m := by rw [hmm]; split <;> omega
    obtain ⟨hx, _⟩ := Prod.mk.inj hx
    subst hx
    have each : ∀ i, i < len → ∃ o : OpD, o.ok ∧ W.cell? (x.add (i * 8)) = some (.bool o.two) ∧ W.cell? (x.add (i * 8 + 1)) = some (.int .i64 o.kind) ∧ W.cell? (x.add (i * 8 + 2)) = some (.int .i64 o.blk) ∧ W.cell? (x.add (i * 8 + 3)) = some (.int .i64 o.num) ∧ W.cell? (x.add (i * 8 + 4)) = some (.int .i64 o.len) ∧ W.cell? (x.add (i * 8 + 5)) = some (.int .u8 (o.fill.toNat : Int)) ∧
        (∃ A n c, W.cell? (x.add (i * 8 + 6)) = some (.slice A n c) ∧ Rd W A n c o.B) ∧ (∃ A n c, W.cell? (x.add (i * 8 + 7)) = some (.slice A n c) ∧ RdF W A n c o.F) := by
      intro i hi
      obtain ⟨cs', s1, s2⟩ := hV i (by omega)
      rw [ce] at s1
      obtain ⟨_, hlen, hcell⟩ := World.cells?_some s1
      obtain ⟨xs, k, hk, hxy, _, hxl, hfl⟩ := DataW.trod_struct he s2
      match xs, hxl, cs', hlen with
      | [y0, y1, y2, y3, y4, y5, y6, y7], _, [w0, w1, w2, w3, w4, w5, w6, w7], _ =>
        have g0 := hfl 0 h0 rfl
        have g1 := hfl 1 h1 rfl
        have g2 := hfl 2 h2 rfl
        have g3 := hfl 3 h3 rfl
        have g4 := hfl 4 h4 rfl
        have g5 := hfl 5 h5 rfl
        have g6 := hfl 6 h6 rfl
        have g7 := hfl 7 h7 rfl
        simp [p0, p1, p2, p3, p4, p5, p6, p7, k0, k1, k2, k3, k4, k5, k6, k7] at g0 g1 g2 g3 g4 g5 g6 g7
        have e0 := hcell 0 (by omega)
        have e1 := hcell 1 (by omega)
        have e2 := hcell 2 (by omega)
        have e3 := hcell 3 (by omega)
        have e4 := hcell 4 (by omega)
        have e5 := hcell 5 (by omega)
        have e6 := hcell 6 (by omega)
        have e7 := hcell 7 (by omega)
        rw [add_add] at e0 e1 e2 e3 e4 e5 e6 e7
        obtain ⟨b0, hb0, _⟩ := DataW.trod_bool v0 g0
        obtain ⟨z1, hb1, _, hw1⟩ := DataW.trod_int v1 g1
        obtain ⟨z2, hb2, _, hw2⟩ := DataW.trod_int v2 g2
        obtain ⟨z3, hb3, _, hw3⟩ := DataW.trod_int v3 g3
        obtain ⟨z4, hb4, _, hw4⟩ := DataW.trod_int v4 g4
        obtain ⟨z5, hb5, _, hw5⟩ := DataW.trod_int v5 g5
        simp at hb0 hb1 hb2 hb3 hb4 hb5
        subst hb0 hb1 hb2 hb3 hb4 hb5
        have hD : D i = .agg [y0.1, y1.1, y2.1, y3.1, y4.1, y5.1, y6.1, y7.1] := (Prod.mk.inj hxy).1
        have hDw : ∀ n ∈ (D i).weights P e, n ≤ reachBytes := fun n hn => elem_weight hu hwt (List.mem_map.2 ⟨i, by simpa using hi, rfl⟩) hn
        have hw6 : ∀ n ∈ y6.1.weights P h6.type, n ≤ reachBytes := fun n hn => hDw n (by
          rw [hD]; simp only [DataW.weights, he]
          exact DataW.weights_mem_each (j := 6) (t := h6.type) (d := y6.1) rfl rfl _ hn)
        have hw7 : ∀ n ∈ y7.1.weights P h7.type, n ≤ reachBytes := fun n hn => hDw n (by
          rw [hD]; simp only [DataW.weights, he]
          exact DataW.weights_mem_each (j := 7) (t := h7.type) (d := y7.1) rfl rfl _ hn)
        obtain ⟨A6, n6, d6, l6, rfl, hr6, hn6⟩ := rd_cell v6 b1 b2 b3 hw6 g6
        obtain ⟨A7, n7, d7, l7, rfl, hr7, hn7⟩ := rdf_cell v7 q1 q2 q3 o0 o1 c0 c1 u0 u1 hw7 g7
        have h8 := wf_u8 hw5
        refine ⟨⟨b0, z1, z2, z3, z4, UInt8.ofNat z5.toNat, l6, l7⟩, ⟨wf_i64 hw1, wf_i64 hw2, wf_i64 hw3, wf_i64 hw4, by have := hr6.len; simp only; omega, by have := hr7.len; simp only; omega⟩, by simpa using e0, by simpa using e1, by simpa using e2, by simpa using e3, by simpa using e4, ?_, ⟨A6, n6, d6, by simpa using e6, hr6⟩, ⟨A7, n7, d7, by simpa using e7, hr7⟩⟩
        rw [show (((UInt8.ofNat z5.toNat).toNat : Nat) : Int) = z5 by rw [UInt8.toNat_ofNat']; omega]
        simpa using e5
    obtain ⟨F, hF⟩ := choose_lt each
    refine ⟨(List.range len).map F, by simp, hl, by omega, fun hp => ?_⟩
    have hs := spot0 (by simpa using (hF 0 (by omega)).2.1 : W.cell? (x.add 0) = _)
    obtain ⟨b, o, s⟩ := x
    simp only at hs
    subst hs
    refine ⟨b, o, rfl, fun j hj => ?_⟩
    have h1 := hF j (by omega)
    simp only [Addr.add_mid] at h1
    have e9 : ((List.range len).map F).getD j default = F j := by simp [List.getD_eq_getElem?_getD, hj]
    rw [e9]
    obtain ⟨r, r0, r1, r2, r3, r4, r5, r6, r7⟩ := h1
    simp only [← Nat.add_assoc] at r1 r2 r3 r4 r5 r6 r7
    exact ⟨r, r0, r1, r2, r3, r4, r5, r6, r7⟩
end
end Go.Proofs.Ytjbffahmjhbpjaa
/- Words for rows of the narrowed statements: what the bound on the bulk of the arguments gives. -/
set_option linter.unusedVariables false
set_option linter.unusedSimpArgs false
namespace Go.Proofs.Ytjbffahmjhbpjaa
open Go.ChangeShapes Go.WideShapes Go.RowKit
theorem bulk_one {H : Type} (d : DataW H) : 1 ≤ Rows.uptoBulk d := by
  cases d with
  | lit l => cases l <;> simp [Rows.uptoBulk]
  | nil => simp [Rows.uptoBulk]
  | ptr d => simp [Rows.uptoBulk]
  | slice elems spare => simp [Rows.uptoBulk]
  | agg parts => simp [Rows.uptoBulk]
  | iface t d => simp [Rows.uptoBulk]
  | map entries => simp [Rows.uptoBulk]
  | held h => simp [Rows.uptoBulk]
theorem bulk_part {H : Type} {d : DataW H} {l : List (DataW H)} (h : d ∈ l) : Rows.uptoBulk d ≤ Rows.uptoBulkAll l := by
  induction l with
  | nil => cases h
  | cons x r ih =>
    simp only [Rows.uptoBulkAll]
    cases List.mem_cons.1 h with
    | inl e => subst e; omega
    | inr e => have := ih e; omega
theorem bulk_length {H : Type} (l : List (DataW H)) : l.length ≤ Rows.uptoBulkAll l := by
  induction l with
  | nil => simp [Rows.uptoBulkAll]
  | cons x r ih => have := bulk_one x; simp only [Rows.uptoBulkAll, List.length_cons]; omega
theorem bulk_slice {H : Type} (elems spare : List (DataW H)) : elems.length + spare.length + 1 ≤ Rows.uptoBulk (.slice elems spare) := by
  have h1 := bulk_length elems
  have h2 := bulk_length spare
  simp only [Rows.uptoBulk]
  omega
theorem bulk_all {H : Type} {l : List (DataW H)} (hk : Rows.uptoSmall H l = true) : Rows.uptoBulkAll l ≤ 1048576 := of_decide_eq_true hk
/-- the bulk of each of a call's arguments -/
theorem bulk_arg {H : Type} {l : List (DataW H)} (hk : Rows.uptoSmall H l = true) {d : DataW H} (hd : d ∈ l) : Rows.uptoBulk d ≤ 1048576 := Nat.le_trans (bulk_part hd) (bulk_all hk)
theorem rd_open_u {H : Type} {enc : TypeId × Value → H} {P : Program} {W : World} {base : Nat} {spare : Nat → Bool} {held : Bool} {t e : TypeId} {a : Option Addr} {len cap : Nat} {d : DataW H} {ps : List MemPlace}
    (hu : P.underlying t = some (.slice e)) (he : P.underlying e = some (.int .u8)) (hc : P.cellsOf e = 1) (hb : Rows.uptoBulk d ≤ 1048576)
    (h : DataW.Trod enc P W base spare held t (.slice a len cap) d ps) : ∃ l, Rd W a len cap l ∧ len ≤ 1048576 := by
  have hlen : len ≤ 1048576 := by
    obtain ⟨fuel, hf⟩ := h
    rcases open_ints hu he hc hf with ⟨hcs, _⟩ | ⟨x, l, c, zs, hcs, _, hl, _, hz, hx, hcell, hwz⟩
    · simp [Value.cells] at hcs; omega
    · simp [Value.cells] at hcs
      obtain ⟨rfl, rfl, rfl⟩ := hcs
      obtain ⟨hx, _⟩ := Prod.mk.inj hx
      subst hx
      have hbb := Nat.le_trans (bulk_slice (H := H) (lits .u8 (zs.take len)) (lits .u8 (zs.drop len))) hb
      have hl2 : len ≤ zs.length := by
        rw [hz]
        split
        · exact hl
        · exact Nat.le_refl _
      simp only [lits, List.length_map, List.length_take, List.length_drop] at hbb
      omega
  obtain ⟨l, hr⟩ := rd_of hu he hc h (Nat.le_trans hlen (by omega))
  exact ⟨l, hr, hlen⟩
theorem bulk_append {H : Type} (l r : List (DataW H)) : Rows.uptoBulkAll (l ++ r) = Rows.uptoBulkAll l + Rows.uptoBulkAll r := by
  induction l with
  | nil => simp [Rows.uptoBulkAll]
  | cons x l ih => simp only [List.cons_append, Rows.uptoBulkAll, ih]; omega
theorem spot_none {W : World} {x : Addr} {v : Value} (h : W.cell? (x.add 0) = some v) : x.spot = none := by
  obtain ⟨b, o, s⟩ := x
  cases s with
  | none => rfl
  | some s =>
    exfalso
    rw [show (⟨b, o, some s⟩ : Addr).add 0 = ⟨b, o, some s⟩ from rfl] at h
    simp only [World.cell?] at h
    split at h <;> simp at h
theorem flatten_bulk {H : Type} (L : Nat → List UInt8) (D : Nat → DataW H) : ∀ is : List Nat, (∀ i, i ∈ is → (L i).length + 1 ≤ Rows.uptoBulk (D i)) → (is.map L).flatten.length ≤ Rows.uptoBulkAll (is.map D)
  | [], _ => by simp
  | i :: is, h => by
    have h1 := h i (by simp)
    have h2 := flatten_bulk L D is (fun j hj => h j (by simp [hj]))
    simp only [List.map_cons, List.flatten_cons, List.length_append, Rows.uptoBulkAll]
    omega
/-- A slice of slices of bytes that came in. -/
theorem rds_open_u {H : Type} {enc : TypeId × Value → H} {P : Program} {W : World} {base : Nat} {spare : Nat → Bool} {held : Bool} {t e f : TypeId} {a : Option Addr} {len cap : Nat} {d : DataW H} {ps : List MemPlace}
    (hu : P.underlying t = some (.slice e)) (he : P.underlying e = some (.slice f)) (hf8 : P.underlying f = some (.int .u8)) (hce : P.cellsOf e = 1) (hcf : P.cellsOf f = 1) (hb : Rows.uptoBulk d ≤ 1048576)
    (h : DataW.Trod enc P W base spare held t (.slice a len cap) d ps) : ∃ ls, Rds W a len cap ls ∧ ls.flatten.length ≤ 1048576 ∧ len ≤ 1048576 := by
  obtain ⟨fuel, hf⟩ := h
  rcases Go.Deep.open_slice1 hu hce hf with ⟨hcs, _⟩ | ⟨x, l, c, m, k, V, D, Pl, hcs, _, hl, _, hmm, hx, hcell⟩
  · simp [Value.cells] at hcs
    obtain ⟨rfl, rfl, rfl⟩ := hcs
    exact ⟨[], ⟨rfl, Nat.le_refl _, by omega, fun hp => absurd hp (by omega)⟩, by simp, by omega⟩
  · simp [Value.cells] at hcs
    obtain ⟨rfl, rfl, rfl⟩ := hcs
    obtain ⟨hx, _⟩ := Prod.mk.inj hx
    subst hx
    have hlm : len ≤ m := by
      rw [hmm]
      split
      · exact hl
      · exact Nat.le_refl _
    have hbb : Rows.uptoBulkAll ((List.range len).map D) ≤ 1048576 := by
      have : Rows.uptoBulkAll ((List.range len).map D) ≤ Rows.uptoBulk (.slice ((List.range len).map D) ((List.range (m - len)).map fun j => D (len + j))) := by
        simp only [Rows.uptoBulk]; omega
      omega
    have hlen : len ≤ 1048576 := by
      have := bulk_length ((List.range len).map D)
      simp at this
      omega
    have hel : ∀ i, i < len → ∃ l : List UInt8, ∃ A1 n1 c1, W.cell? (x.add i) = some (.slice A1 n1 c1) ∧ Rd W A1 n1 c1 l ∧ l.length + 1 ≤ Rows.uptoBulk (D i) := by
      intro i hi
      obtain ⟨h1, h2⟩ := hcell i (by omega)
      have hDi : Rows.uptoBulk (D i) ≤ 1048576 := Nat.le_trans (bulk_part (List.mem_map.2 ⟨i, by simpa using hi, rfl⟩)) hbb
      rcases open_ints he hf8 hcf h2 with ⟨hcs, hxx⟩ | ⟨x1, l1, c1, zs, hcs, _, hl1, _, hz, hxx, hcell1, hwz⟩
      · simp at hcs
        rw [hcs] at h1
        exact ⟨[], none, 0, 0, h1, Rd.nil _, by have := bulk_one (D i); simpa using this⟩
      · simp at hcs
        obtain ⟨hD, _⟩ := Prod.mk.inj hxx
        have hbl := bulk_slice (H := H) (lits .u8 (zs.take l1)) (lits .u8 (zs.drop l1))
        rw [← hD] at hbl
        have hl2 : l1 ≤ zs.length := by
          rw [hz]
          split
          · exact hl1
          · exact Nat.le_refl _
        simp only [lits, List.length_map, List.length_take, List.length_drop] at hbl
        rw [hcs] at h1 h2
        obtain ⟨l, hr⟩ := rd_of he hf8 hcf ⟨_, h2⟩ (by omega)
        exact ⟨l, _, _, _, h1, hr, by have := hr.len; omega⟩
    obtain ⟨L, hL⟩ := Go.Deep.choose_lt hel
    refine ⟨(List.range len).map L, ⟨by simp, hl, by omega, fun hp => ?_⟩, Nat.le_trans (flatten_bulk L D _ (fun i hi => ?_)) hbb, hlen⟩
    · obtain ⟨A1, n1, c1, h0, _⟩ := hL 0 hp
      have hs := spot_none h0
      obtain ⟨b, o, s⟩ := x
      simp at hs
      subst hs
      refine ⟨b, o, rfl, fun j hj => ?_⟩
      obtain ⟨A1, n1, c1, h1, h2, _⟩ := hL j hj
      rw [Addr.add_mid] at h1
      refine ⟨A1, n1, c1, h1, ?_⟩
      have hg : ((List.range len).map L).getD j [] = L j := by
        simp [List.getD_eq_getElem?_getD, hj]
      rw [hg]; exact h2
    · obtain ⟨A1, n1, c1, _, _, h3⟩ := hL i (by simpa using hi)
      exact h3
end Go.Proofs.Ytjbffahmjhbpjaa
/- Words for rows of the narrowed statements: a script of steps on a device that came in. -/
set_option linter.unusedVariables false
set_option linter.unusedSimpArgs false
namespace Go.Proofs.Ytjbffahmjhbpjaa
open Go.ChangeShapes Go.WideShapes Go.RowKit Go.Deep
section
variable {H : Type} {enc : TypeId × Value → H} {P : Program} {W : World} {base : Nat} {spare : Nat → Bool} {held : Bool} {t e : TypeId} {v : Value} {d : DataW H} {ps : List MemPlace} {fuel : Nat}
theorem rd_cell_u (hu : P.underlying t = some (.slice e)) (he : P.underlying e = some (.int .u8)) (hc : P.cellsOf e = 1) (hb : Rows.uptoBulk d ≤ 1048576)
    (h : DataW.trod enc P W base spare held fuel t [v] = some (d, ps)) : ∃ A n c l, v = .slice A n c ∧ Rd W A n c l ∧ n ≤ 1048576 := by
  have h' := h
  rcases open_ints hu he hc h with ⟨hcs, hx⟩ | ⟨x, l, c, zs, hcs, _, hl, _, hz, hx, hcell, hwz⟩
  · simp at hcs
    exact ⟨none, 0, 0, [], hcs, Rd.nil _, by omega⟩
  · simp at hcs
    subst hcs
    obtain ⟨L, hr, hn⟩ := rd_open_u hu he hc hb ⟨_, h'⟩
    exact ⟨_, _, _, L, rfl, hr, hn⟩
theorem rdf_cell_u {f0 f1 : Field} (hu : P.underlying t = some (.slice e)) (he : P.underlying e = some (.struct #[f0, f1])) (ce : P.cellsOf e = 2) 
    (o0 : f0.offset = 0) (o1 : f1.offset = 1) (c0 : P.cellsOf f0.type = 1) (c1 : P.cellsOf f1.type = 1) (u0 : P.underlying f0.type = some (.int .i64)) (u1 : P.underlying f1.type = some (.int .i64)) (hb : Rows.uptoBulk d ≤ 1048576)
    (h : DataW.trod enc P W base spare held fuel t [v] = some (d, ps)) : ∃ A n c l, v = .slice A n c ∧ RdF W A n c l ∧ n ≤ 1048576 := by
  rcases open_slice hu h with ⟨hcs, _⟩ | ⟨x, len, cap, m, n, D, Pl, hcs, _, hl, _, hmm, hx, hV⟩
  · simp at hcs
    exact ⟨none, 0, 0, [], hcs, RdF.nil _, by omega⟩
  · simp at hcs
    obtain ⟨hx, _⟩ := Prod.mk.inj hx
    subst hx hcs
    have hlm : len ≤ m := by rw [hmm]; split <;> omega
    have z : len ≤ 1048576 := by
      have h1 := bulk_length ((List.range len).map D)
      rw [List.length_map, List.length_range] at h1
      simp only [Rows.uptoBulk] at hb
      omega
    have each : ∀ i, i < len → ∃ o : Ft, W.cell? (x.add (i * 2)) = some (.int .i64 o.kind) ∧ W.cell? (x.add (i * 2 + 1)) = some (.int .i64 o.at_) := by
      intro i hi
      obtain ⟨cs', h1, h2⟩ := hV i (by omega)
      rw [ce] at h1
      obtain ⟨_, hlen, hcell⟩ := World.cells?_some h1
      obtain ⟨xs, k, hk, hxy, _, hxl, hfl⟩ := DataW.trod_struct he h2
      match xs, hxl, cs', hlen with
      | [y0, y1], _, [v0, v1], _ =>
        have g0 := hfl 0 f0 rfl
        have g1 := hfl 1 f1 rfl
        simp [o0, o1, c0, c1] at g0 g1
        have e0 := hcell 0 (by omega)
        have e1 := hcell 1 (by omega)
        rw [add_add] at e0 e1
        obtain ⟨b0, hb0, _, _⟩ := DataW.trod_int u0 g0
        obtain ⟨b1, hb1, _, _⟩ := DataW.trod_int u1 g1
        simp at hb0 hb1
        subst hb0 hb1
        exact ⟨⟨b0, b1⟩, by simpa using e0, by simpa using e1⟩
    obtain ⟨F, hF⟩ := choose_lt each
    refine ⟨_, _, _, (List.range len).map F, rfl, ⟨by simp, hl, by omega, fun hp => ?_⟩, by omega⟩
    have hs := spot0 (by simpa using (hF 0 (by omega)).1 : W.cell? (x.add 0) = _)
    obtain ⟨b, o, s⟩ := x
    simp only at hs
    subst hs
    refine ⟨b, o, rfl, fun j hj => ?_⟩
    have h1 := hF j (by omega)
    simp only [Addr.add_mid] at h1
    have e9 : ((List.range len).map F).getD j default = F j := by simp [List.getD_eq_getElem?_getD, hj]
    rw [e9]
    obtain ⟨r0, r1⟩ := h1
    rw [← Nat.add_assoc] at r1
    exact ⟨r0, r1⟩
end
section
variable {H : Type} {enc : TypeId × Value → H} {P : Program} {W : World} {base : Nat} {spare : Nat → Bool} {held : Bool} {t e : TypeId} {a : Option Addr} {len cap : Nat} {d : DataW H} {ps : List MemPlace} {ts : List TypeId} {ds : List (DataW H)} {j : Nat}
theorem rdod_open_u {h0 h1 h2 h3 h4 h5 h6 h7 f0 f1 : Field} {tb tf : TypeId} (hu : P.underlying t = some (.slice e)) (he : P.underlying e = some (.struct #[h0, h1, h2, h3, h4, h5, h6, h7])) (ce : P.cellsOf e = 8)
    (p0 : h0.offset = 0) (p1 : h1.offset = 1) (p2 : h2.offset = 2) (p3 : h3.offset = 3) (p4 : h4.offset = 4) (p5 : h5.offset = 5) (p6 : h6.offset = 6) (p7 : h7.offset = 7)
    (k0 : P.cellsOf h0.type = 1) (k1 : P.cellsOf h1.type = 1) (k2 : P.cellsOf h2.type = 1) (k3 : P.cellsOf h3.type = 1) (k4 : P.cellsOf h4.type = 1) (k5 : P.cellsOf h5.type = 1) (k6 : P.cellsOf h6.type = 1) (k7 : P.cellsOf h7.type = 1)
    (v0 : P.underlying h0.type = some .bool) (v1 : P.underlying h1.type = some (.int .i64)) (v2 : P.underlying h2.type = some (.int .i64)) (v3 : P.underlying h3.type = some (.int .i64)) (v4 : P.underlying h4.type = some (.int .i64)) (v5 : P.underlying h5.type = some (.int .u8))
    (v6 : P.underlying h6.type = some (.slice tb)) (v7 : P.underlying h7.type = some (.slice tf)) (b1 : P.underlying tb = some (.int .u8)) (b2 : P.cellsOf tb = 1)
    (q1 : P.underlying tf = some (.struct #[f0, f1])) (q2 : P.cellsOf tf = 2)
    (o0 : f0.offset = 0) (o1 : f1.offset = 1) (c0 : P.cellsOf f0.type = 1) (c1 : P.cellsOf f1.type = 1) (u0 : P.underlying f0.type = some (.int .i64)) (u1 : P.underlying f1.type = some (.int .i64)) (hb : Rows.uptoBulk d ≤ 1048576)
    (h : DataW.Trod enc P W base spare held t (.slice a len cap) d ps) : ∃ l, RdO W a len cap l ∧ len ≤ 1048576 := by
  obtain ⟨fuel, hf⟩ := h
  rcases open_slice hu hf with ⟨hcs, _⟩ | ⟨x, l, c, m, n, D, Pl, hcs, _, hl, _, hmm, hx, hV⟩
  · simp [Value.cells] at hcs
    obtain ⟨rfl, rfl, rfl⟩ := hcs
    exact ⟨[], ⟨rfl, Nat.le_refl _, by omega, fun hp => absurd hp (by omega)⟩, by omega⟩
  · simp [Value.cells] at hcs
    obtain ⟨rfl, rfl, rfl⟩ := hcs
    have hlm : len ≤ m := by rw [hmm]; split <;> omega
    obtain ⟨hx, _⟩ := Prod.mk.inj hx
    subst hx
    have hbA : Rows.uptoBulkAll ((List.range len).map D) ≤ 1048576 := by
      simp only [Rows.uptoBulk] at hb
      omega
    have hlen0 : len ≤ 1048576 := by
      have h1 := bulk_length ((List.range len).map D)
      rw [List.length_map, List.length_range] at h1
      omega
    have each : ∀ i, i < len → ∃ o : OpD, o.ok ∧ W.cell? (x.add (i * 8)) = some (.bool o.two) ∧ W.cell? (x.add (i * 8 + 1)) = some (.int .i64 o.kind) ∧ W.cell? (x.add (i * 8 + 2)) = some (.int .i64 o.blk) ∧ W.cell? (x.add (i * 8 + 3)) = some (.int .i64 o.num) ∧ W.cell? (x.add (i * 8 + 4)) = some (.int .i64 o.len) ∧ W.cell? (x.add (i * 8 + 5)) = some (.int .u8 (o.fill.toNat : Int)) ∧
        (∃ A n c, W.cell? (x.add (i * 8 + 6)) = some (.slice A n c) ∧ Rd W A n c o.B) ∧ (∃ A n c, W.cell? (x.add (i * 8 + 7)) = some (.slice A n c) ∧ RdF W A n c o.F) := by
      intro i hi
      obtain ⟨cs', s1, s2⟩ := hV i (by omega)
      rw [ce] at s1
      obtain ⟨_, hlen, hcell⟩ := World.cells?_some s1
      obtain ⟨xs, k, hk, hxy, _, hxl, hfl⟩ := DataW.trod_struct he s2
      match xs, hxl, cs', hlen with
      | [y0, y1, y2, y3, y4, y5, y6, y7], _, [w0, w1, w2, w3, w4, w5, w6, w7], _ =>
        have g0 := hfl 0 h0 rfl
        have g1 := hfl 1 h1 rfl
        have g2 := hfl 2 h2 rfl
        have g3 := hfl 3 h3 rfl
        have g4 := hfl 4 h4 rfl
        have g5 := hfl 5 h5 rfl
        have g6 := hfl 6 h6 rfl
        have g7 := hfl 7 h7 rfl
        simp [p0, p1, p2, p3, p4, p5, p6, p7, k0, k1, k2, k3, k4, k5, k6, k7] at g0 g1 g2 g3 g4 g5 g6 g7
        have e0 := hcell 0 (by omega)
        have e1 := hcell 1 (by omega)
        have e2 := hcell 2 (by omega)
        have e3 := hcell 3 (by omega)
        have e4 := hcell 4 (by omega)
        have e5 := hcell 5 (by omega)
        have e6 := hcell 6 (by omega)
        have e7 := hcell 7 (by omega)
        rw [add_add] at e0 e1 e2 e3 e4 e5 e6 e7
        obtain ⟨b0, hb0, _⟩ := DataW.trod_bool v0 g0
        obtain ⟨z1, hb1, _, hw1⟩ := DataW.trod_int v1 g1
        obtain ⟨z2, hb2, _, hw2⟩ := DataW.trod_int v2 g2
        obtain ⟨z3, hb3, _, hw3⟩ := DataW.trod_int v3 g3
        obtain ⟨z4, hb4, _, hw4⟩ := DataW.trod_int v4 g4
        obtain ⟨z5, hb5, _, hw5⟩ := DataW.trod_int v5 g5
        simp at hb0 hb1 hb2 hb3 hb4 hb5
        subst hb0 hb1 hb2 hb3 hb4 hb5
        have hD : D i = .agg [y0.1, y1.1, y2.1, y3.1, y4.1, y5.1, y6.1, y7.1] := (Prod.mk.inj hxy).1
        have hDb : Rows.uptoBulk (D i) ≤ 1048576 := Nat.le_trans (bulk_part (List.mem_map.2 ⟨i, by simpa using hi, rfl⟩)) hbA
        rw [hD] at hDb
        simp only [Rows.uptoBulk, Rows.uptoBulkAll] at hDb
        obtain ⟨A6, n6, d6, l6, rfl, hr6, hn6⟩ := rd_cell_u v6 b1 b2 (by omega) g6
        obtain ⟨A7, n7, d7, l7, rfl, hr7, hn7⟩ := rdf_cell_u v7 q1 q2 o0 o1 c0 c1 u0 u1 (by omega) g7
        have h8 := wf_u8 hw5
        refine ⟨⟨b0, z1, z2, z3, z4, UInt8.ofNat z5.toNat, l6, l7⟩, ⟨wf_i64 hw1, wf_i64 hw2, wf_i64 hw3, wf_i64 hw4, by have := hr6.len; simp only; omega, by have := hr7.len; simp only; omega⟩, by simpa using e0, by simpa using e1, by simpa using e2, by simpa using e3, by simpa using e4, ?_, ⟨A6, n6, d6, by simpa using e6, hr6⟩, ⟨A7, n7, d7, by simpa using e7, hr7⟩⟩
        rw [show (((UInt8.ofNat z5.toNat).toNat : Nat) : Int) = z5 by rw [UInt8.toNat_ofNat']; omega]
        simpa using e5
    obtain ⟨F, hF⟩ := choose_lt each
    refine ⟨(List.range len).map F, ⟨by simp, hl, by omega, fun hp => ?_⟩, hlen0⟩
    have hs := spot0 (by simpa using (hF 0 (by omega)).2.1 : W.cell? (x.add 0) = _)
    obtain ⟨b, o, s⟩ := x
    simp only at hs
    subst hs
    refine ⟨b, o, rfl, fun j hj => ?_⟩
    have h1 := hF j (by omega)
    simp only [Addr.add_mid] at h1
    have e9 : ((List.range len).map F).getD j default = F j := by simp [List.getD_eq_getElem?_getD, hj]
    rw [e9]
    obtain ⟨r, r0, r1, r2, r3, r4, r5, r6, r7⟩ := h1
    simp only [← Nat.add_assoc] at r1 r2 r3 r4 r5 r6 r7
    exact ⟨r, r0, r1, r2, r3, r4, r5, r6, r7⟩
end
end Go.Proofs.Ytjbffahmjhbpjaa
/- The law DevPlays holds for every input whose arguments are together of bulk at most 1048576: the row, out of its walk. No other condition. -/
namespace Go.Proofs.Ytjbffahmjhbpjaa.devPlays
open Go.ChangeShapes Go.WideShapes Go.ChangeAt Go.RowKit
open Go.ChangeMaps (open_string shut_string)
set_option linter.unusedVariables false
set_option linter.unusedSimpArgs false
theorem own : ownKnob Try.prog.godebug = none := by kernel_rfl
theorem laidOut : laidOutB Try.prog = true := by kernel_rfl
set_option maxRecDepth 100000 in
theorem contract (H : Type) (enc : TypeId × Value → H) (W : World) (base : Nat) (args : Array Value) (ds gs : List (DataW H)) (before : List MemPlace)
    (hval : ∀ (j : Nat) t v, Try.f9.params[j]? = some t → args[j]? = some v → Value.okWide Try.prog W .any base t v)
    (hW : DataW.Whole enc Try.prog Try.f9.params.toList Rows.devPlaysSpec.vars false W args.toList ds gs before) (hk : Rows.uptoSmall H (ds ++ gs) = true) :
    Calls Try.prog 9 args W fun e W' => ∃ v, e = .returned v ∧ Rows.devPlaysSpec.post enc Try.prog Try.f9 false true false false W args v W' := by
  have hW' := hW
  obtain ⟨p, q, hA0, hV, rfl, hfz, hnd⟩ := hW
  have hA : DataW.TrodAll enc Try.prog W 0 (fun _ => true) true Try.f9.params.toList args.toList ds p := hA0
  rw [Try.params9] at hA hval
  obtain ⟨v0, vs0, d0, ds0, p0, q0, hargs, rfl, rfl, h0, r0⟩ := trodAll_cons hA
  obtain ⟨v1, vs1, d1, ds1, p1, q1, rfl, rfl, rfl, h1, r1⟩ := trodAll_cons r0
  obtain ⟨v2, vs2, d2, ds2, p2, q2, rfl, rfl, rfl, h2, r2⟩ := trodAll_cons r1
  obtain ⟨rfl, rfl, rfl⟩ := trodAll_nil r2
  obtain rfl : args = #[v0, v1, v2] := by cases args; simp_all
  obtain ⟨rfl, rfl⟩ := trodVars_none hV
  simp only [List.append_nil] at hk
  obtain ⟨a0, rfl, rfl, rfl, y0⟩ := open_int Try.underlying3 (hval 0 3 v0 rfl rfl) h0
  have w0 := wf_i64 y0
  obtain ⟨a1, rfl, rfl, rfl, y1⟩ := open_int Try.underlying3 (hval 1 3 v1 rfl rfl) h1
  have w1 := wf_i64 y1
  obtain ⟨a2, len2, cap2, rfl⟩ := okWide_slice Try.underlying43 (hval 2 43 v2 rfl rfl)
  have k2 := h2
  have lt2 : ∀ x ∈ p2, x.block < W.heap.size := by obtain ⟨m, hm⟩ := k2; exact DataW.trod_lt m _ _ _ hm
  obtain ⟨l2, w2, z2⟩ := rdod_open_u Try.underlying43 Try.underlying48 (by kernel_rfl) rfl rfl rfl rfl rfl rfl rfl rfl (by kernel_rfl) (by kernel_rfl) (by kernel_rfl) (by kernel_rfl) (by kernel_rfl) (by kernel_rfl) (by kernel_rfl) (by kernel_rfl) Try.underlying4 Try.underlying3 Try.underlying3 Try.underlying3 Try.underlying3 Try.underlying5 Try.underlying29 Try.underlying45 Try.underlying5 (by kernel_rfl) Try.underlying52 (by kernel_rfl) rfl rfl (by kernel_rfl) (by kernel_rfl) Try.underlying3 Try.underlying3 (bulk_arg hk (by simp)) h2
  clear hA0
  refine (walk_DevPlays a0 a1 a2 len2 cap2 l2 W w0 w1 w2 z2).mono fun e W' ⟨he, bel⟩ => ?_
  subst he
  exact ⟨_, rfl, _, _, _, [], _, [], hW', trodAll_mk1 (shut_bool Try.underlying4 _), (trodAll_cons_mk (shut_int Try.underlying3 y0) (trodAll_cons_mk (shut_int Try.underlying3 y1) (trodAll_cons_mk (Below.trod laidOut (by kernel_rfl) (of_decide_eq_true (by kernel_rfl)) k2 bel lt2) trodAll_mk0))), rfl, bel.frame _, fun h => by cases h⟩
set_option maxRecDepth 100000 in
theorem lifted (os : Os) (started : os.Started) (H : Type) (enc : TypeId × Value → H) (F : Stop.Interp) :
    ReturnsInHanded {} Try.checked os 9 .any ((Rows.OpenSpec.upto Rows.devPlaysSpec).pre6 enc Try.prog Try.f9 Rows.devPlaysUptoRow.domain false) (((Rows.OpenSpec.upto Rows.devPlaysSpec).at F).post enc Try.prog Try.f9 false true false false) := by
  refine returnsInHanded_of_cond (C := Try.checked) (s := Rows.OpenSpec.upto Rows.devPlaysSpec) (k := Rows.uptoSmall) rfl own started (by kernel_rfl) Try.func9
    (OpenSpec.witness (enc := enc) (C := Try.checked) (s := Rows.OpenSpec.upto Rows.devPlaysSpec) (k := Rows.uptoSmall) rfl false ⟨#[], #[.int .i64 0, .int .i64 0, .slice none 0 0], []⟩ 8 (by kernel_rfl) (by kernel_rfl) (by kernel_rfl)
      (x := ([.lit (.int .i64 0), .lit (.int .i64 0), .nil], [], [])) (by kernel_rfl) rfl (by kernel_rfl)) ?_
  intro W base args ds gs before hval hW _ hk _
  exact contract H enc W base args ds gs before hval hW hk
theorem proved : Rows.DevPlaysUptoSaid :=
  OpenClaim.holds_of_cond 9 Try.f9 rfl rfl rfl rfl rfl rfl rfl ⟨rfl, rfl, rfl, rfl, rfl⟩ rfl rfl rfl rfl rfl (by kernel_rfl) Try.func9 (by kernel_rfl)
    (of_decide_eq_true (by kernel_rfl)) (by unfold Func.isWrapper; first | (rw [if_pos (by decide +kernel)]; kernel_rfl) | (rw [if_neg (by decide +kernel)]; exact ⟨rfl, rfl⟩))
    (fun os started H enc _ F => lifted os started H enc F)
#print axioms proved
end Go.Proofs.Ytjbffahmjhbpjaa.devPlays
namespace Go.Proofs.Ytjbffahmjhbpjaa
theorem devPlays_holds : Rows.DevPlaysUptoSaid := devPlays.proved
end Go.Proofs.Ytjbffahmjhbpjaa
