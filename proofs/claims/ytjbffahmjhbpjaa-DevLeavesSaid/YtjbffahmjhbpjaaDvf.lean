/- The laws' own helpers over the device: append of fates, play. -/
import Derived.Test.YtjbffahmjhbpjaaDve
set_option linter.unusedVariables false
set_option linter.unusedSimpArgs false
set_option maxRecDepth 100000
namespace Go.Proofs.Ytjbffahmjhbpjaa
open Go.RowKit
theorem info_ft : (Try.prog.info? 52).map (fun i => (i.zero, i.size, i.bytes)) = some (some (.agg #[.int .i64 0, .int .i64 0]), 2, 16) := by kernel_rfl
def fv (l : List Ft) : List Value := l.flatMap fun f => [.int .i64 f.kind, .int .i64 f.at_]
theorem fv_len : ∀ l : List Ft, (fv l).length = l.length * 2
  | [] => rfl
  | f :: r => by
    have h := fv_len r
    unfold fv at h ⊢
    rw [List.flatMap_cons, List.length_append, h, List.length_cons]
    simp only [List.length_cons, List.length_nil]; omega
theorem fv_get : ∀ (l : List Ft) (i : Nat), i < l.length → (fv l)[i * 2]? = some (.int .i64 (l.getD i default).kind) ∧ (fv l)[i * 2 + 1]? = some (.int .i64 (l.getD i default).at_)
  | [], i, h => by simp at h
  | f :: r, 0, _ => ⟨rfl, rfl⟩
  | f :: r, i + 1, h => by
    have ih := fv_get r i (by simpa using h)
    unfold fv at ih ⊢
    rw [List.flatMap_cons, show (i + 1) * 2 = i * 2 + 1 + 1 by omega]
    simpa using ih
theorem run_appF {W : World} (ty : TypeId) {A : Option Addr} {n c : Nat} {l : List Ft} (HR : RdF W A n c l) (hn : n ≤ 8796093022207) :
    ∃ A' c' w1, (Builtin.append_ #[45, 45] ty #[.slice none 0 0, .slice A n c]).run Try.prog W = .ok (.slice A' n c') w1 ∧ RdF w1 A' n c' l ∧ Below W.heap.size W w1 ∧ (∀ p, A' = some p → W.heap.size ≤ p.block) := by
  obtain ⟨i0, hi, hzz⟩ := Option.map_eq_some_iff.1 info_ft
  simp only [Prod.mk.injEq] at hzz
  obtain ⟨hz0, hz1, hz2⟩ := hzz
  have ht := Try.underlying45
  rcases Nat.eq_zero_or_pos n with rfl | hp
  · obtain rfl : l = [] := List.eq_nil_of_length_eq_zero HR.len
    refine ⟨none, 0, W, ?_, RdF.nil W, Below.refl _ W, by simp⟩
    cases A <;> simp [Builtin.append_, run_underlying ht, sizeOf, typeInfo, hi, Builtin.lenOf, Builtin.firstCells, loadCells, loadCellsFrom]
  · obtain ⟨b, o, rfl, hc⟩ := HR.at_ hp
    have hl := HR.len
    have hr := run_append_nil (P := Try.prog) W 45 ty 52 i0 _ ht hi hz0 ⟨b, o, none⟩ n c (fv l) (by rw [fv_len, hl, hz1]) (fun j v hj => by
      have hj2 : j < l.length * 2 := by
        rcases Nat.lt_or_ge j (l.length * 2) with h | h
        · exact h
        · rw [List.getElem?_eq_none (by rw [fv_len]; exact h)] at hj; cases hj
      have hg := fv_get l (j / 2) (by omega)
      have hcc := hc (j / 2) (by omega)
      rw [Addr.add_mid]
      rcases (by omega : j = j / 2 * 2 ∨ j = j / 2 * 2 + 1) with e | e
      · rw [e] at hj ⊢
        rw [hg.1] at hj; rw [← hj]; exact hcc.1
      · rw [e] at hj ⊢
        rw [hg.2] at hj; rw [← hj, ← Nat.add_assoc]; exact hcc.2) hp (by omega) (by rw [hz2]; omega)
    refine ⟨_, _, _, hr, ⟨hl, grownCap_ge _ _ _ _, by omega, fun _ => ⟨_, _, rfl, fun j hj => ?_⟩⟩, ((Below.refl _ W).drew).alloc (Nat.le_refl _) _, fun p hp => by injection hp with hp; rw [← hp]; exact Nat.le_refl _⟩
    have hg := fv_get l j (by omega)
    have hfl := fv_len l
    have hnew := heap_alloc_new W.drew (.cells ((fv l).toArray ++ Builtin.zeroCells (Value.agg #[Value.int IntKind.i64 0, Value.int IntKind.i64 0]).cells (grownCap W n 0 52 - n)) 52)
    have key : ∀ i v, (fv l)[i]? = some v → (W.drew.alloc (.cells ((fv l).toArray ++ Builtin.zeroCells (Value.agg #[Value.int IntKind.i64 0, Value.int IntKind.i64 0]).cells (grownCap W n 0 52 - n)) 52)).cell? ⟨W.heap.size, i, none⟩ = some v := fun i v hv => by
      rw [cell_of_row _ _ _ _ _ _ (show (W.drew.alloc _).heap[W.heap.size]? = _ from hnew)]
      have hi : i < (fv l).length := (List.getElem?_eq_some_iff.1 hv).1
      rw [Array.getElem?_append_left (by simpa using hi)]
      simpa using hv
    rw [Nat.zero_add]
    exact ⟨key _ _ hg.1, key _ _ hg.2⟩
section
variable {ops : Array Oper} {rest : List Oper} {o : Oper} {a : Act} {Q : Exit → Act → World → Prop}
theorem wp_appF {W : World} {A : Option Addr} {n c : Nat} {l : List Ft} (HR : RdF W A n c l) (hn : n ≤ 8796093022207) (s x : Operand) (hgd : o.guard = none)
    (ho : o.op = .call { callee := .builtin .append, args := #[s, x], argTypes := #[45, 45] }) (hs : a.eval s = .slice none 0 0) (hx : a.eval x = .slice A n c)
    (h : ∀ A' c' w1, RdF w1 A' n c' l → Below W.heap.size W w1 → (∀ p, A' = some p → W.heap.size ≤ p.block) → wpList Try.prog ops Q rest (a.put o.dst (.slice A' n c')) w1) :
    wpList Try.prog ops Q (o :: rest) a W := by
  obtain ⟨A', c', w1, hr, h1, h2, h3⟩ := run_appF o.type HR hn
  refine wpList_plain hgd fun K hK => ?_
  unfold Oper.wp execOp
  simp only [ho, resolve, invoke, builtin, Sem.run_bind, Sem.run_pure, Result.andThen_ok, List.map_toArray, List.map_cons, List.map_nil, hs, hx, hr]
  exact hK _ _ (h A' c' w1 h1 h2 h3)
end
def plD (D : DS) (x : OpD) : Int × DS :=
  if x.kind = 3 then wrD D x.blk (blkL (opN x) x.fill) else if x.kind = 4 then flD D else if x.kind = 9 then edD D x.blk x.num x.B else if x.kind = 6 then armD D x.num else if x.kind = 8 then (0, crD D x.F) else (0, D)
/-- numbers that stay small -/
structure DS.le (D : DS) (m : Nat) : Prop where
  left : D.left < 9223372036854775808
  ca : D.C.length ≤ m
  wr : D.wr ≤ m
  fl : D.fl ≤ m
  rd : D.rd ≤ m
theorem plD_le {D : DS} {m : Nat} (x : OpD) (hx : x.ok) (h : D.le m) : (plD D x).2.le (m + 1) := by
  have ha : (actD D).2.left ≤ D.left ∧ (actD D).2.C = D.C ∧ (actD D).2.rd = D.rd ∧ (actD D).2.wr = D.wr ∧ (actD D).2.fl = D.fl := by
    have hk := actD_keeps D
    refine ⟨?_, hk.1, hk.2.2.2.1, hk.2.2.2.2.1, hk.2.2.2.2.2⟩
    unfold actD; split
    · exact Nat.le_refl _
    · split
      · exact Nat.le_refl _
      · split
        · exact Nat.sub_le _ _
        · exact Nat.le_refl _
  have h1 := h.left
  have h2 := h.ca
  have h3 := h.wr
  have h4 := h.fl
  have h5 := h.rd
  have hD : D.le (m + 1) := ⟨h1, by omega, by omega, by omega, by omega⟩
  have hA : (actD D).2.le (m + 1) := ⟨by omega, by rw [ha.2.1]; omega, by omega, by omega, by omega⟩
  unfold plD
  split
  · unfold wrD; split
    · exact hD
    · split
      · exact hD
      · split
        · exact ⟨by show (actD D).2.left < _; omega, by show ((actD D).2.C ++ _).length ≤ _; rw [ha.2.1, List.length_append]; simp; omega, by show (actD D).2.wr + 1 ≤ _; omega, hA.fl, hA.rd⟩
        · exact hA
  · split
    · unfold flD; split
      · exact ⟨by show (actD D).2.left < _; omega, Nat.zero_le _, hA.wr, by show (actD D).2.fl + 1 ≤ _; omega, hA.rd⟩
      · exact hA
    · split
      · unfold edD; split
        · exact hD
        · split
          · exact hD
          · exact ⟨hD.left, hD.ca, hD.wr, hD.fl, hD.rd⟩
      · split
        · unfold armD; split
          · exact hD
          · split
            · exact hD
            · have := hx.2.2.1.2
              exact ⟨by show x.num.toNat < _; omega, hD.ca, hD.wr, hD.fl, hD.rd⟩
        · split
          · exact ⟨by show 0 < _; omega, Nat.zero_le _, hD.wr, hD.fl, hD.rd⟩
          · exact hD
end Go.Proofs.Ytjbffahmjhbpjaa
