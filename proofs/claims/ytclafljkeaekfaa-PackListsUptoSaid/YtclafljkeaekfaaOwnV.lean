/- Words on memory: a slice of values that the call itself made, and append of one value onto it. -/
import Derived.Test.YtclafljkeaekfaaPk9
set_option linter.unusedVariables false
set_option linter.unusedSimpArgs false
set_option maxRecDepth 100000
namespace Go.Proofs.Ytclafljkeaekfaa
open Go.RowKit
theorem info_val : (Try.prog.info? 27).map (fun i => (i.zero, i.size, i.bytes)) = some (some (.agg #[.int .i64 0, .int .u64 0, .int .i64 0, .string ⟨#[]⟩]), 4, 40) := by kernel_rfl
def vc (x : ValV) : List Value := [.int .i64 x.kind, .int .u64 x.u, .int .i64 x.i, .string x.s]
def vcs (l : List ValV) : List Value := l.flatMap vc
theorem vcs_length (l : List ValV) : (vcs l).length = l.length * 4 := by
  induction l with
  | nil => rfl
  | cons a r ih => rw [vcs, List.flatMap_cons, List.length_append, ← vcs, ih]; simp [vc]; omega
theorem vcs_append (l m : List ValV) : vcs (l ++ m) = vcs l ++ vcs m := by simp [vcs]
theorem vcs_get : ∀ (l : List ValV) (j i : Nat), j < l.length → i < 4 → (vcs l)[j * 4 + i]? = (vc (l.getD j default))[i]?
  | [], j, i, h, _ => by simp at h
  | a :: r, 0, i, _, hi => by
    rw [vcs, List.flatMap_cons, List.getElem?_append_left (by simp [vc]; omega)]
    simp
  | a :: r, j + 1, i, h, hi => by
    have ih := vcs_get r j i (by simpa using h) hi
    rw [vcs, List.flatMap_cons, List.getElem?_append_right (by simp [vc]; omega)]
    rw [show (j + 1) * 4 + i - (vc a).length = j * 4 + i by simp [vc]; omega]
    rw [← vcs, ih]
    simp
theorem vcs_one (l : List ValV) : ∀ u ∈ vcs l, u.oneCell' = true := by
  intro u hu
  simp only [vcs, List.mem_flatMap] at hu
  obtain ⟨x, _, hx⟩ := hu
  simp only [vc, List.mem_cons, List.not_mem_nil, or_false] at hx
  rcases hx with rfl | rfl | rfl | rfl <;> rfl
def OwnV (w : World) (base : Nat) (v : Value) (n : Nat) (l : List ValV) : Prop := w.ownsRow base 27 4 v n (vcs l)
theorem OwnV.len {w : World} {base n : Nat} {v : Value} {l : List ValV} (h : OwnV w base v n l) : l.length = n := by
  have := h.1; rw [vcs_length] at this; omega
theorem OwnV.nil (w : World) (base : Nat) : OwnV w base (.slice none 0 0) 0 [] := World.ownsRow_nil w base _ _
theorem OwnV.mono {w : World} {base base' n : Nat} {v : Value} {l : List ValV} (h : OwnV w base v n l) (hb : base' ≤ base) : OwnV w base' v n l := by
  refine ⟨h.1, ?_⟩
  rcases h.2 with h | ⟨g, cap, cur, h1, h2, h3⟩
  · exact .inl h
  · exact .inr ⟨g, cap, cur, h1, Nat.le_trans hb h2, h3⟩
theorem OwnV.keep {w w' : World} {base n : Nat} {v : Value} {l : List ValV} {S : List Nat} (h : OwnV w base v n l) (hw : Only S w w') (hs : ∀ k, v.ownBlock = some k → k ∉ S) : OwnV w' base v n l := by
  refine ⟨h.1, ?_⟩
  rcases h.2 with h1 | ⟨g, cap, cur, rfl, hb, hh, h3⟩
  · exact .inl h1
  · exact .inr ⟨g, cap, cur, rfl, hb, (hw.blk g (lt_of_block hh) (hs g rfl)).trans hh, h3⟩
theorem OwnV.ext {w w' : World} {base n : Nat} {v : Value} {l : List ValV} (h : OwnV w base v n l) (hb : Below w.heap.size w w') : OwnV w' base v n l := h.keep (Only.of_below [] hb) (by simp)
theorem OwnV.alloc {w : World} {base n : Nat} {v : Value} {l : List ValV} (h : OwnV w base v n l) (o : Obj) : OwnV (w.alloc o) base v n l := World.ownsRow.alloc h o
theorem OwnV.blk {w : World} {base n : Nat} {v : Value} {l : List ValV} (h : OwnV w base v n l) : Blk v base w.heap.size := fun k hk => (World.ownsRow.lt h) k hk
theorem OwnV.rd {w : World} {base n : Nat} {v : Value} {l : List ValV} (h : OwnV w base v n l) (hm : n ≤ 140737488355328) (ho : ∀ x ∈ l, x.ok) : ∃ A c, v = .slice A n c ∧ RdV w A n c l := by
  have hl := h.len
  rcases h.2 with ⟨rfl, h0⟩ | ⟨g, cap, cur, rfl, hb, hh, h1, h2, h3, h4⟩
  · subst h0
    exact ⟨none, 0, rfl, hl, Nat.le_refl _, by omega, ho, fun hp => absurd hp (by omega)⟩
  · refine ⟨_, cap, rfl, hl, h1, hm, ho, fun hp => ⟨g, 0, rfl, fun j hj => ?_⟩⟩
    have key : ∀ i u, i < 4 → (vc (l.getD j default))[i]? = some u → w.cell? ⟨g, 0 + j * 4 + i, none⟩ = some u := fun i u hi hu => by
      have := World.ownsRow.cells h (g := g) rfl (j * 4 + i) u (by rw [vcs_get l j i (by omega) hi, hu])
      rwa [Addr.add_mid, ← Nat.add_assoc] at this
    exact ⟨key 0 _ (by omega) rfl, key 1 _ (by omega) rfl, key 2 _ (by omega) rfl, key 3 _ (by omega) rfl⟩
section
variable {ops : Array Oper} {rest : List Oper} {o : Oper} {a : Act} {Q : Exit → Act → World → Prop}
theorem wp_appV1 {W : World} (base : Nat) {v : Value} {n : Nat} {xs : List ValV} (y : ValV) (HO : OwnV W base v n xs) (hbase : base ≤ W.heap.size) (hl : (n + 1) * 40 ≤ 140737488355328) (sl x : Operand) (hgd : o.guard = none)
    (ho : o.op = .call { callee := .builtin .append, args := #[sl, x], argTypes := #[22, 22] }) (hs : a.eval sl = v) (g : Nat) (hg : g = W.heap.size) (hx : a.eval x = .slice (some ⟨g, 0, none⟩) 1 1)
    (h : ∀ v1 w1, OwnV w1 base v1 (n + 1) (xs ++ [y]) → (W.alloc (.cells #[.int .i64 y.kind, .int .u64 y.u, .int .i64 y.i, .string y.s] 27)).grownBy w1 v.ownBlock → wpList Try.prog ops Q rest (a.put o.dst v1) w1) :
    wpList Try.prog ops Q (o :: rest) a (W.alloc (.cells #[.int .i64 y.kind, .int .u64 y.u, .int .i64 y.i, .string y.s] 27)) := by
  subst hg
  obtain ⟨i0, hi, hzz⟩ := Option.map_eq_some_iff.1 info_val
  simp only [Prod.mk.injEq] at hzz
  obtain ⟨hz0, hz1, hz2⟩ := hzz
  have ht := Try.underlying22
  obtain ⟨v1, w1, hr, h2, h3, _, _⟩ := run_append_own_at (P := Try.prog) (W.alloc (.cells #[.int .i64 y.kind, .int .u64 y.u, .int .i64 y.i, .string y.s] 27)) base 22 o.type 27 i0 _ 4 40 ht hi hz0 hz1 hz2 rfl (by omega) v n (vcs xs) (HO.alloc _) ⟨W.heap.size, 0, none⟩ 1 1 (vcs [y])
    (by rw [vcs_length]; rfl) (fun j u hu => by
      rw [Addr.add_mid, cell_of_row _ _ _ _ _ _ (heap_alloc_new W _)]
      simpa [vcs, vc] using hu) (vcs_one _) (by simp only [maxLen]; omega) hl (by simp; omega)
  refine wpList_plain hgd fun K hK => ?_
  unfold Oper.wp execOp
  simp only [ho, resolve, invoke, builtin, Sem.run_bind, Sem.run_pure, Result.andThen_ok, List.map_toArray, List.map_cons, List.map_nil, hs, hx, hr]
  exact hK _ _ (h v1 w1 (by unfold OwnV; rw [vcs_append]; exact h2) h3)
end
/-- the values made right, as long as they are small together -/
def sml : List ValV → Nat → List ValV
  | [], _ => []
  | x :: r, sum => if 1048576 < sum + 10 + (rgt x).s.size then [] else rgt x :: sml r (sum + 10 + (rgt x).s.size)
def smS : List ValV → Nat → Nat
  | [], sum => sum
  | x :: r, sum => if 1048576 < sum + 10 + (rgt x).s.size then sum else smS r (sum + 10 + (rgt x).s.size)
theorem rgt_ok (x : ValV) (h : x.ok) : (rgt x).ok := by
  unfold rgt
  have h1 := h.u
  have h2 := h.i
  split
  all_goals (refine ⟨?_, ?_, ?_⟩ <;> first | exact h.s | exact h.i | (simp [ByteArray.size]; done) | (dsimp only; omega))
end Go.Proofs.Ytclafljkeaekfaa
