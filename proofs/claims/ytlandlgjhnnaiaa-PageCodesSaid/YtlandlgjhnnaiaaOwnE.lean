/- Words on memory: a slice of entries (two texts each) that is read; one that the call itself made, and append onto it. -/
import Derived.Test.YtlandlgjhnnaiaaBlk
import Derived.Test.YtlandlgjhnnaiaaOwnT
import Derived.Deep.DeepAppendWide
set_option linter.unusedVariables false
set_option linter.unusedSimpArgs false
set_option maxRecDepth 100000
namespace Go.Proofs.Ytlandlgjhnnaiaa
open Go.RowKit
theorem info_en : (Try.prog.info? 46).map (fun i => (i.zero, i.size, i.bytes)) = some (some (.agg #[.string ⟨#[]⟩, .string ⟨#[]⟩]), 2, 32) := by kernel_rfl
structure En where
  key : ByteArray
  val : ByteArray
instance : Inhabited En := ⟨⟨⟨#[]⟩, ⟨#[]⟩⟩⟩
def ev (l : List En) : List Value := l.flatMap fun e => [.string e.key, .string e.val]
theorem ev_length : ∀ l : List En, (ev l).length = l.length * 2
  | [] => rfl
  | f :: r => by
    have h := ev_length r
    unfold ev at h ⊢
    rw [List.flatMap_cons, List.length_append, h, List.length_cons]
    simp only [List.length_cons, List.length_nil]; omega
theorem ev_append (l m : List En) : ev (l ++ m) = ev l ++ ev m := by simp [ev]
theorem ev_get : ∀ (l : List En) (i : Nat), i < l.length → (ev l)[i * 2]? = some (.string (l.getD i default).key) ∧ (ev l)[i * 2 + 1]? = some (.string (l.getD i default).val)
  | [], i, h => by simp at h
  | f :: r, 0, _ => ⟨rfl, rfl⟩
  | f :: r, i + 1, h => by
    have ih := ev_get r i (by simpa using h)
    unfold ev at ih ⊢
    rw [List.flatMap_cons, show (i + 1) * 2 = i * 2 + 1 + 1 by omega]
    simpa using ih
theorem ev_one (l : List En) : ∀ u ∈ ev l, u.oneCell' = true := by
  intro u hu; simp only [ev, List.mem_flatMap] at hu; obtain ⟨c, _, h⟩ := hu
  simp only [List.mem_cons, List.not_mem_nil, or_false] at h
  rcases h with rfl | rfl <;> rfl
/-- a cell of the row, told by its element -/
theorem ev_cell {l : List En} {P : Nat → Value → Prop} (h : ∀ j, j < l.length → P (j * 2) (.string (l.getD j default).key) ∧ P (j * 2 + 1) (.string (l.getD j default).val)) : ∀ j u, (ev l)[j]? = some u → P j u := by
  intro j u hj
  have hj2 : j < l.length * 2 := by
    rcases Nat.lt_or_ge j (l.length * 2) with h | h
    · exact h
    · rw [List.getElem?_eq_none (by rw [ev_length]; exact h)] at hj; cases hj
  have hg := ev_get l (j / 2) (by omega)
  have hh := h (j / 2) (by omega)
  rcases (by omega : j = j / 2 * 2 ∨ j = j / 2 * 2 + 1) with e | e
  · rw [e] at hj ⊢
    rw [hg.1] at hj; injection hj with hj; rw [← hj]; exact hh.1
  · rw [e] at hj ⊢
    rw [hg.2] at hj; injection hj with hj; rw [← hj]; exact hh.2
/-- The cells of a slice of texts hold the list l. -/
structure RdE (w : World) (A : Option Addr) (n c : Nat) (l : List En) : Prop where
  len : l.length = n
  cap : n ≤ c
  max : n ≤ 6500000000000
  at_ : 0 < n → ∃ b o, A = some ⟨b, o, none⟩ ∧ ∀ j, j < n → w.cell? ⟨b, o + j * 2, none⟩ = some (.string (l.getD j default).key) ∧ w.cell? ⟨b, o + j * 2 + 1, none⟩ = some (.string (l.getD j default).val)
theorem RdE.nil (w : World) : RdE w none 0 0 [] := ⟨rfl, Nat.le_refl _, by omega, fun hp => absurd hp (by omega)⟩
theorem RdE.keep {w w' : World} {A : Option Addr} {n c : Nat} {l : List En} {S : List Nat} (h : RdE w A n c l) (hw : Only S w w') (hs : 0 < n → ∀ p, A = some p → p.block ∉ S) : RdE w' A n c l :=
  ⟨h.len, h.cap, h.max, fun hn => by
    obtain ⟨b, o, e, hc⟩ := h.at_ hn
    refine ⟨b, o, e, fun j hj => ?_⟩
    have h1 := hc j hj
    have h2 := World.block_lt_of_cell? w _ h1.1
    have h3 : b ∉ S := hs hn ⟨b, o, none⟩ e
    have h4 := hw.blk b h2 h3
    simp only [World.cell?] at h1 ⊢
    rw [h4]
    exact h1⟩
theorem RdE.ext {w w' : World} {A : Option Addr} {n c : Nat} {l : List En} (h : RdE w A n c l) (hb : Below w.heap.size w w') : RdE w' A n c l := h.keep (Only.of_below [] hb) (by simp)
theorem RdE.drew {w : World} {A : Option Addr} {n c : Nat} {l : List En} (h : RdE w A n c l) (k : Nat) : RdE (w.drewN k) A n c l := ⟨h.len, h.cap, h.max, h.at_⟩
theorem RdE.takeE {w : World} {A : Option Addr} {n c : Nat} {l : List En} (h : RdE w A n c l) (m : Nat) (hm : m ≤ n) : RdE w A m c (l.take m) := by
  have h1 := h.len
  refine ⟨by simp; omega, Nat.le_trans hm h.cap, Nat.le_trans hm h.max, fun hp => ?_⟩
  obtain ⟨b, o, e, hc⟩ := h.at_ (by omega)
  refine ⟨b, o, e, fun j hj => ?_⟩
  have h2 := hc j (by omega)
  rw [h2.1, h2.2]
  simp [List.getD_eq_getElem?_getD, hj]
theorem RdE.lit (w : World) (l : List En) (n : Nat) (hn : l.length = n) (hm : n ≤ 6500000000000) (fr : Nat × Nat := (0, 0)) : RdE (w.alloc (.cells (ev l).toArray 46 fr)) (some ⟨w.heap.size, 0, none⟩) n n l :=
  ⟨hn, Nat.le_refl _, hm, fun _ => ⟨_, _, rfl, fun j hj => by
    have hg := ev_get l j (by omega)
    rw [cell_of_row _ _ _ _ _ _ (heap_alloc_new w _), cell_of_row _ _ _ _ _ _ (heap_alloc_new w _), Nat.zero_add]
    simpa using hg⟩⟩
/-- v is a slice of texts in a block from base on, unfrozen, that holds l (or nil and l empty). -/
def OwnE (w : World) (base : Nat) (v : Value) (n : Nat) (l : List En) : Prop := w.ownsRow base 46 2 v n (ev l)
section
variable {w w' : World} {base base' n : Nat} {v : Value} {l : List En}
theorem OwnE.len (h : OwnE w base v n l) : l.length = n := by
  have h1 := h.1; rw [ev_length] at h1; omega
theorem OwnE.nil (w : World) (base : Nat) : OwnE w base (.slice none 0 0) 0 [] := World.ownsRow_nil w base _ _
theorem OwnE.mono (h : OwnE w base v n l) (hb : base' ≤ base) : OwnE w base' v n l := by
  refine ⟨h.1, ?_⟩
  rcases h.2 with h | ⟨g, cap, cur, h1, h2, h3⟩
  · exact .inl h
  · exact .inr ⟨g, cap, cur, h1, Nat.le_trans hb h2, h3⟩
theorem OwnE.keep {S : List Nat} (h : OwnE w base v n l) (hw : Only S w w') (hs : ∀ k, v.ownBlock = some k → k ∉ S) : OwnE w' base v n l := by
  refine ⟨h.1, ?_⟩
  rcases h.2 with h1 | ⟨g, cap, cur, rfl, hb, hh, h3⟩
  · exact .inl h1
  · exact .inr ⟨g, cap, cur, rfl, hb, (hw.blk g (lt_of_block hh) (hs g rfl)).trans hh, h3⟩
theorem OwnE.ext (h : OwnE w base v n l) (hb : Below w.heap.size w w') : OwnE w' base v n l := h.keep (Only.of_below [] hb) (by simp)
theorem OwnE.alloc (h : OwnE w base v n l) (o : Obj) : OwnE (w.alloc o) base v n l := World.ownsRow.alloc h o
theorem OwnE.drewN (h : OwnE w base v n l) (k : Nat) : OwnE (w.drewN k) base v n l := h
theorem OwnE.drew (h : OwnE w base v n l) : OwnE w.drew base v n l := h
theorem OwnE.blk (h : OwnE w base v n l) : Blk v base w.heap.size := fun k hk => (World.ownsRow.lt h) k hk
theorem OwnE.slice (h : OwnE w base v n l) : ∃ A c, v = .slice A n c := by
  rcases h.2 with ⟨rfl, h0⟩ | ⟨g, cap, cur, rfl, _⟩
  · subst h0; exact ⟨none, 0, rfl⟩
  · exact ⟨_, cap, rfl⟩
theorem OwnE.rd (h : OwnE w base v n l) (hm : n ≤ 6500000000000) : ∃ A c, v = .slice A n c ∧ RdE w A n c l := by
  have hl := h.len
  rcases h.2 with ⟨rfl, h0⟩ | ⟨g, cap, cur, rfl, hb, hh, h1, h2, h3, h4⟩
  · subst h0
    exact ⟨none, 0, rfl, hl, Nat.le_refl _, by omega, fun hp => absurd hp (by omega)⟩
  · refine ⟨_, cap, rfl, hl, h1, hm, fun hp => ⟨g, 0, rfl, fun j hj => ?_⟩⟩
    have hg := ev_get l j (by omega)
    have c0 := World.ownsRow.cells h (g := g) rfl _ _ hg.1
    have c1 := World.ownsRow.cells h (g := g) rfl _ _ hg.2
    rw [Addr.add_mid] at c0 c1
    exact ⟨c0, c1⟩
theorem OwnE.rdA {A : Option Addr} {cap : Nat} (h : OwnE w base (.slice A n cap) n l) (hm : n ≤ 6500000000000) : RdE w A n cap l := by
  obtain ⟨A9, c9, he, hr⟩ := h.rd hm
  injection he with h1 h2 h3
  subst h1 h3
  exact hr
theorem OwnE.form (h : OwnE w base v n l) (hp : 0 < n) : ∃ g c, v = .slice (some ⟨g, 0, none⟩) n c ∧ base ≤ g ∧ g < w.heap.size := by
  rcases h.2 with ⟨_, h0⟩ | ⟨g, cap, cur, rfl, hb, hh, _⟩
  · omega
  · exact ⟨g, cap, rfl, hb, lt_of_block hh⟩
end
theorem run_appE {W : World} (base : Nat) (ty : TypeId) {v : Value} {n : Nat} {xs ys : List En} {A : Option Addr} {m c : Nat}
    (HO : OwnE W base v n xs) (HR : RdE W A m c ys) (hbase : base ≤ W.heap.size) (hl : n + m ≤ 6500000000000) :
    ∃ v1 w1, (Builtin.append_ #[22, 22] ty #[v, .slice A m c]).run Try.prog W = .ok v1 w1 ∧ OwnE w1 base v1 (n + m) (xs ++ ys) ∧ W.grownBy w1 v.ownBlock ∧ (v1.ownBlock = v.ownBlock ∨ Blk v1 W.heap.size w1.heap.size) := by
  obtain ⟨i0, hi, hzz⟩ := Option.map_eq_some_iff.1 info_en
  simp only [Prod.mk.injEq] at hzz
  obtain ⟨hz0, hz1, hz2⟩ := hzz
  have ht := Try.underlying22
  have hm : ys.length = m := HR.len
  rcases A with _ | ad
  · have h0 : m = 0 := by
      rcases Nat.eq_zero_or_pos m with h0 | h0
      · exact h0
      · obtain ⟨b, o', h, _⟩ := HR.at_ h0
        cases h
    subst h0
    obtain rfl : ys = [] := List.eq_nil_of_length_eq_zero hm
    refine ⟨v, W, ?_, by simpa using HO, World.grownBy.refl W _, .inl rfl⟩
    rcases HO.2 with ⟨rfl, hn⟩ | ⟨g, cap, cur, rfl, _, _, hnc, _⟩
    · simp [Builtin.append_, run_underlying ht, sizeOf, typeInfo, hi, Builtin.lenOf, Builtin.firstCells]
    · simp [Builtin.append_, run_underlying ht, sizeOf, typeInfo, hi, Builtin.lenOf, Builtin.firstCells, hnc, storeCells]
  · have hcells : ∀ j u, (ev ys)[j]? = some u → W.cell? (ad.add j) = some u := by
      refine ev_cell (P := fun j u => W.cell? (ad.add j) = some u) fun j hj => ?_
      obtain ⟨b, o', h', hc⟩ := HR.at_ (by omega)
      injection h' with h'
      subst h'
      rw [Addr.add_mid, Addr.add_mid, ← Nat.add_assoc]
      exact hc j (by omega)
    obtain ⟨v1, w1, hr, h2, h3, h4⟩ := run_append_own_wide (P := Try.prog) W base 22 ty 46 i0 (.agg #[.string ⟨#[]⟩, .string ⟨#[]⟩]) 2 32 ht hi hz0 hz1 hz2 rfl (by omega) v n (ev xs) HO ad m c (ev ys) (by rw [ev_length]; omega) hcells
      (ev_one ys) (by simp only [maxLen]; omega) (by omega) hbase
    have h2' : OwnE w1 base v1 (n + m) (xs ++ ys) := by unfold OwnE; rw [ev_append]; exact h2
    refine ⟨v1, w1, hr, h2', h3, ?_⟩
    rcases HO.2 with ⟨rfl, h0⟩ | ⟨g, cap, cur, rfl, hb, hh, hnc, hcm, hcs, htake⟩
    · by_cases hm0 : m = 0
      · rw [h4.2 ⟨rfl, hm0⟩]; exact .inl rfl
      · have hr2 := run_append_nil (P := Try.prog) W 22 ty 46 i0 (.agg #[.string ⟨#[]⟩, .string ⟨#[]⟩]) ht hi hz0 ad m c (ev ys) (by rw [ev_length, hz1]; omega) hcells (by omega) (by omega) (by rw [hz2]; omega)
        rw [hr] at hr2
        injection hr2 with e1 e2
        refine .inr fun k hk => ?_
        have h9 := (World.ownsRow.lt h2') k hk
        rw [e1] at hk
        injection hk with hk
        have hk : W.heap.size = k := hk
        exact ⟨by omega, h9.2⟩
    · by_cases hroom : n + m ≤ cap
      · have hr2 := run_append_room (P := Try.prog) W 22 ty 46 i0 ht hi g n cap cur hh ad m c (ev ys) (by rw [ev_length, hz1]; omega) hcells (ev_one ys) hroom (by rw [ev_length, hz1]; omega)
        rw [hr] at hr2
        injection hr2 with e1 e2
        rw [e1]; exact .inl rfl
      · have hr2 := run_append_grow (P := Try.prog) W 22 ty 46 i0 (.agg #[.string ⟨#[]⟩, .string ⟨#[]⟩]) ht hi hz0 ⟨g, 0, none⟩ n cap (ev xs) (by rw [hz1]; exact HO.1) (World.ownsRow.cells HO (g := g) rfl) ad m c (ev ys) (by rw [ev_length, hz1]; omega) hcells (by omega) (by omega) (by rw [hz2]; exact growslice_fits_wide (by omega) (by omega))
        rw [hr] at hr2
        injection hr2 with e1 e2
        refine .inr fun k hk => ?_
        have h9 := (World.ownsRow.lt h2') k hk
        rw [e1] at hk
        injection hk with hk
        have hk : W.heap.size = k := hk
        exact ⟨by omega, h9.2⟩
section
variable {ops : Array Oper} {rest : List Oper} {o : Oper} {a : Act} {Q : Exit → Act → World → Prop}
theorem wp_appE {W : World} (base : Nat) {v : Value} {n : Nat} {xs ys : List En} {A : Option Addr} {m c : Nat} (HO : OwnE W base v n xs) (HR : RdE W A m c ys) (hbase : base ≤ W.heap.size) (hl : n + m ≤ 6500000000000) (sl x : Operand) (hgd : o.guard = none)
    (ho : o.op = .call { callee := .builtin .append, args := #[sl, x], argTypes := #[22, 22] }) (hs : a.eval sl = v) (hx : a.eval x = .slice A m c)
    (h : ∀ v1 w1, OwnE w1 base v1 (n + m) (xs ++ ys) → W.grownBy w1 v.ownBlock → (v1.ownBlock = v.ownBlock ∨ Blk v1 W.heap.size w1.heap.size) → wpList Try.prog ops Q rest (a.put o.dst v1) w1) :
    wpList Try.prog ops Q (o :: rest) a W := by
  obtain ⟨v1, w1, hr, hown, hg, hat⟩ := run_appE base o.type HO HR hbase hl
  refine wpList_plain hgd fun K hK => ?_
  unfold Oper.wp execOp
  simp only [ho, resolve, invoke, builtin, Sem.run_bind, Sem.run_pure, Result.andThen_ok, List.map_toArray, List.map_cons, List.map_nil, hs, hx, hr]
  exact hK _ _ (h v1 w1 hown hg hat)
/-- append(v, s), one entry, behind its box -/
theorem wp_appE1 {W : World} (base : Nat) {v : Value} {n : Nat} {xs : List En} (y : En) (HO : OwnE W base v n xs) (hbase : base ≤ W.heap.size) (hl : n + 1 ≤ 6500000000000) (sl x : Operand) (hgd : o.guard = none)
    (ho : o.op = .call { callee := .builtin .append, args := #[sl, x], argTypes := #[22, 22] }) (hs : a.eval sl = v) (hx : a.eval x = .slice (some ⟨W.heap.size, 0, none⟩) 1 1)
    (h : ∀ v1 w1, OwnE w1 base v1 (n + 1) (xs ++ [y]) → (W.alloc (.cells #[.string y.key, .string y.val] 46)).grownBy w1 v.ownBlock → (v1.ownBlock = v.ownBlock ∨ Blk v1 W.heap.size w1.heap.size) → wpList Try.prog ops Q rest (a.put o.dst v1) w1) :
    wpList Try.prog ops Q (o :: rest) a (W.alloc (.cells #[.string y.key, .string y.val] 46)) := by
  refine wp_appE base (HO.alloc _) (RdE.lit W [y] 1 rfl (by omega)) (by simp; omega) hl sl x hgd ho hs hx ?_
  intro v1 w1 h1 h2 h3
  refine h v1 w1 h1 h2 ?_
  rcases h3 with h3 | h3
  · exact .inl h3
  · exact .inr (h3.mono (by simp) (Nat.le_refl _))
end
end Go.Proofs.Ytlandlgjhnnaiaa
