/- Words on memory: a slice of ints that the call itself made, and append onto it. -/
import Derived.Test.YtlandlgjhnnaiaaOnly
import Derived.ArgAppend
set_option linter.unusedVariables false
set_option linter.unusedSimpArgs false
namespace Go.Proofs.Ytlandlgjhnnaiaa
open Go.RowKit
theorem info_int : (Try.prog.info? 3).map (fun i => (i.zero, i.size, i.bytes)) = some (some (.int .i64 0), 1, 8) := by kernel_rfl
/-- v is a slice of ints in a block from base on, unfrozen, that holds l (or nil and l empty). -/
def OwnI (w : World) (base : Nat) (v : Value) (n : Nat) (l : List Int) : Prop := w.ownsRow base 3 1 v n (iv_ l)
theorem OwnI.len {w : World} {base n : Nat} {v : Value} {l : List Int} (h : OwnI w base v n l) : l.length = n := by
  have := h.1; rwa [iv_length, Nat.mul_one] at this
theorem OwnI.nil (w : World) (base : Nat) : OwnI w base (.slice none 0 0) 0 [] := World.ownsRow_nil w base _ _
theorem OwnI.mono {w : World} {base base' n : Nat} {v : Value} {l : List Int} (h : OwnI w base v n l) (hb : base' ≤ base) : OwnI w base' v n l := by
  refine ⟨h.1, ?_⟩
  rcases h.2 with h | ⟨g, cap, cur, h1, h2, h3⟩
  · exact .inl h
  · exact .inr ⟨g, cap, cur, h1, Nat.le_trans hb h2, h3⟩
theorem OwnI.only {w w' : World} {base n : Nat} {v : Value} {l : List Int} {S : List Nat} (h : OwnI w base v n l) (hw : Only S w w') (hs : ∀ k ∈ S, k < base) : OwnI w' base v n l := by
  refine ⟨h.1, ?_⟩
  rcases h.2 with h | ⟨g, cap, cur, h1, h2, h3, h4⟩
  · exact .inl h
  · exact .inr ⟨g, cap, cur, h1, h2, (hw.blk g (lt_of_block h3) (fun hm => by have := hs g hm; omega)).trans h3, h4⟩
theorem OwnI.ext {w w' : World} {base n : Nat} {v : Value} {l : List Int} (h : OwnI w base v n l) (hb : Below w.heap.size w w') : OwnI w' base v n l := h.only (Only.of_below [] hb) (by simp)
theorem OwnI.alloc {w : World} {base n : Nat} {v : Value} {l : List Int} (h : OwnI w base v n l) (o : Obj) : OwnI (w.alloc o) base v n l := World.ownsRow.alloc h o
theorem OwnI.drewN {w : World} {base n : Nat} {v : Value} {l : List Int} (h : OwnI w base v n l) (k : Nat) : OwnI (w.drewN k) base v n l := h
theorem OwnI.slice {w : World} {base n : Nat} {v : Value} {l : List Int} (h : OwnI w base v n l) : ∃ A c, v = .slice A n c := by
  rcases h.2 with ⟨rfl, h0⟩ | ⟨g, cap, cur, rfl, _⟩
  · subst h0; exact ⟨none, 0, rfl⟩
  · exact ⟨_, cap, rfl⟩
theorem OwnI.rd {w : World} {base n : Nat} {v : Value} {l : List Int} (D : List Nat) (h : OwnI w base v n l) (hm : n ≤ 140737488355328) (hD : ∀ k ∈ D, k < base) : ∃ A c, v = .slice A n c ∧ RdI D w A n c l := by
  have hl := h.len
  rcases h.2 with ⟨rfl, h0⟩ | ⟨g, cap, cur, rfl, hb, hh, h1, h2, h3, h4⟩
  · subst h0
    exact ⟨none, 0, rfl, hl, Nat.le_refl _, by omega, fun hp => absurd hp (by omega)⟩
  · refine ⟨_, cap, rfl, hl, h1, hm, fun hp => ⟨g, 0, rfl, fun hm => by have := hD g hm; omega, fun j hj => ?_⟩⟩
    have := World.ownsRow.cells h (g := g) rfl j _ (iv_get l j (by omega))
    rwa [Addr.add_mid] at this
theorem OwnI.rdA {w : World} {base n cap : Nat} {A : Option Addr} {l : List Int} (D : List Nat) (h : OwnI w base (.slice A n cap) n l) (hm : n ≤ 140737488355328) (hD : ∀ k ∈ D, k < base) : RdI D w A n cap l := by
  obtain ⟨A9, c9, he, hr⟩ := h.rd D hm hD
  injection he with h1 h2 h3
  subst h1 h3
  exact hr
theorem OwnI.form {w : World} {base n : Nat} {v : Value} {l : List Int} (h : OwnI w base v n l) (hp : 0 < n) : ∃ g c, v = .slice (some ⟨g, 0, none⟩) n c ∧ base ≤ g ∧ g < w.heap.size := by
  rcases h.2 with ⟨_, h0⟩ | ⟨g, cap, cur, rfl, hb, hh, _⟩
  · omega
  · exact ⟨g, cap, rfl, hb, lt_of_block hh⟩
theorem RdI.lit (D : List Nat) (w : World) (l : List Int) (n : Nat) (hn : l.length = n) (hm : n ≤ 140737488355328) (hD : ∀ k ∈ D, k < w.heap.size) (fr : Nat × Nat := (0, 0)) : RdI D (w.alloc (.cells (iv_ l).toArray 3 fr)) (some ⟨w.heap.size, 0, none⟩) n n l :=
  ⟨hn, Nat.le_refl _, hm, fun _ => ⟨_, _, rfl, fun hm => by have := hD _ hm; omega, fun j hj => by
    rw [cell_of_row _ _ _ _ _ _ (heap_alloc_new w _)]
    simpa using iv_get l j (by omega)⟩⟩
theorem run_appI {W : World} {D : List Nat} (base : Nat) (ty : TypeId) {v : Value} {n : Nat} {xs ys : List Int} {A : Option Addr} {m c : Nat}
    (HO : OwnI W base v n xs) (HR : RdI D W A m c ys) (hbase : base ≤ W.heap.size) (hl : (n + m) * 8 ≤ 140737488355328) :
    ∃ v1 w1, (Builtin.append_ #[23, 23] ty #[v, .slice A m c]).run Try.prog W = .ok v1 w1 ∧ OwnI w1 base v1 (n + m) (xs ++ ys) ∧ W.grownBy w1 v.ownBlock ∧ (v1.ownBlock = v.ownBlock ∨ v1.ownBlock = some W.heap.size) := by
  obtain ⟨i0, hi, hzz⟩ := Option.map_eq_some_iff.1 info_int
  simp only [Prod.mk.injEq] at hzz
  obtain ⟨hz0, hz1, hz2⟩ := hzz
  have ht := Try.underlying23
  have hm : ys.length = m := HR.len
  rcases A with _ | ad
  · have h0 : m = 0 := by
      rcases Nat.eq_zero_or_pos m with h0 | h0
      · exact h0
      · obtain ⟨b, o', h, _⟩ := HR.at_ h0
        cases h
    subst h0
    obtain rfl : ys = [] := List.eq_nil_of_length_eq_zero hm
    refine ⟨v, W, ?_, by simpa using HO, World.grownBy.refl W _, .inl rfl⟩
    rcases HO.2 with ⟨rfl, hn⟩ | ⟨g, cap, cur, rfl, _, _, hnc, _⟩
    · simp [Builtin.append_, run_underlying ht, sizeOf, typeInfo, hi, Builtin.lenOf, Builtin.firstCells]
    · simp [Builtin.append_, run_underlying ht, sizeOf, typeInfo, hi, Builtin.lenOf, Builtin.firstCells, hnc, storeCells]
  · have hcells : ∀ j u, (iv_ ys)[j]? = some u → W.cell? (ad.add j) = some u := by
      intro j u hu
      have hj : j < ys.length := by
        rcases Nat.lt_or_ge j ys.length with h | h
        · exact h
        · simp [iv_, List.getElem?_eq_none h] at hu
      obtain ⟨b, o', h', _, hc⟩ := HR.at_ (by omega)
      injection h' with h'
      subst h'
      rw [iv_get ys j hj] at hu
      rw [Addr.add_mid, hc j (by omega), hu]
    obtain ⟨v1, w1, hr, h2, h3, _, h5⟩ := run_append_own_at (P := Try.prog) W base 23 ty 3 i0 (.int .i64 0) 1 8 ht hi hz0 hz1 hz2 rfl (by omega) v n (iv_ xs) HO ad m c (iv_ ys) (by rw [iv_length]; omega) hcells
      (iv_one ys) (by simp only [maxLen]; omega) hl hbase
    exact ⟨v1, w1, hr, by unfold OwnI; rw [iv_append]; exact h2, h3, h5⟩
section
variable {ops : Array Oper} {rest : List Oper} {o : Oper} {a : Act} {Q : Exit → Act → World → Prop}
theorem wp_appI {w0 W : World} {D : List Nat} (base : Nat) {v : Value} {n : Nat} {xs ys : List Int} {A : Option Addr} {m c : Nat}
    (HO : OwnI W base v n xs) (HR : RdI D W A m c ys) (HB : Below base w0 W) (hbase : base ≤ W.heap.size) (hl : (n + m) * 8 ≤ 140737488355328) (s x : Operand) (hgd : o.guard = none)
    (ho : o.op = .call { callee := .builtin .append, args := #[s, x], argTypes := #[23, 23] }) (hs : a.eval s = v) (hx : a.eval x = .slice A m c)
    (h : ∀ v1 w1, OwnI w1 base v1 (n + m) (xs ++ ys) → Below base w0 w1 → wpList Try.prog ops Q rest (a.put o.dst v1) w1) :
    wpList Try.prog ops Q (o :: rest) a W := by
  obtain ⟨v1, w1, hr, hown, hg, hat⟩ := run_appI base o.type HO HR hbase hl
  refine wpList_plain hgd fun K hK => ?_
  unfold Oper.wp execOp
  simp only [ho, resolve, invoke, builtin, Sem.run_bind, Sem.run_pure, Result.andThen_ok, List.map_toArray, List.map_cons, List.map_nil, hs, hx, hr]
  refine hK _ _ (h v1 w1 hown (HB.grown hg hbase ?_))
  intro k hk
  exact ((World.ownsRow.lt HO) k hk).1
theorem wp_appI1 {w0 W : World} (base : Nat) {v : Value} {n : Nat} {xs : List Int} (y : Int)
    (HO : OwnI W base v n xs) (HB : Below base w0 W) (hbase : base ≤ W.heap.size) (hl : (n + 1) * 8 ≤ 140737488355328) (s x : Operand) (hgd : o.guard = none)
    (ho : o.op = .call { callee := .builtin .append, args := #[s, x], argTypes := #[23, 23] }) (hs : a.eval s = v) (hx : a.eval x = .slice (some ⟨W.heap.size, 0, none⟩) 1 1)
    (h : ∀ v1 w1, OwnI w1 base v1 (n + 1) (xs ++ [y]) → Below base w0 w1 → wpList Try.prog ops Q rest (a.put o.dst v1) w1) :
    wpList Try.prog ops Q (o :: rest) a (W.alloc (.cells #[.int .i64 y] 3)) :=
  wp_appI base (D := []) (HO.alloc _) (RdI.lit [] W [y] 1 rfl (by decide) (by simp)) (HB.alloc hbase _) (by simp; omega) hl s x hgd ho hs hx h
end
end Go.Proofs.Ytlandlgjhnnaiaa
