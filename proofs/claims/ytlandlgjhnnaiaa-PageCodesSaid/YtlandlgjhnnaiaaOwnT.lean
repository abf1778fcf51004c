/- Words on memory: a slice of texts that is read; one that the call itself made, and append onto it. -/
import Derived.Test.YtlandlgjhnnaiaaBlk
import Derived.Deep.DeepAppendWide
set_option linter.unusedVariables false
set_option linter.unusedSimpArgs false
set_option maxRecDepth 100000
namespace Go.Proofs.Ytlandlgjhnnaiaa
open Go.RowKit
theorem info_str : (Try.prog.info? 9).map (fun i => (i.zero, i.size, i.bytes)) = some (some (.string ⟨#[]⟩), 1, 16) := by kernel_rfl
def tv (l : List ByteArray) : List Value := l.map fun s => .string s
theorem tv_length (l : List ByteArray) : (tv l).length = l.length := by simp [tv]
theorem tv_append (l m : List ByteArray) : tv (l ++ m) = tv l ++ tv m := by simp [tv]
theorem tv_get (l : List ByteArray) (j : Nat) (h : j < l.length) : (tv l)[j]? = some (.string (l.getD j default)) := by
  simp [tv, List.getElem?_eq_getElem h, List.getD_eq_getElem?_getD]
theorem tv_one (l : List ByteArray) : ∀ u ∈ tv l, u.oneCell' = true := by
  intro u hu; simp only [tv, List.mem_map] at hu; obtain ⟨c, _, rfl⟩ := hu; rfl
/-- The cells of a slice of texts hold the list l. -/
structure RdT (w : World) (A : Option Addr) (n c : Nat) (l : List ByteArray) : Prop where
  len : l.length = n
  cap : n ≤ c
  max : n ≤ 13000000000000
  at_ : 0 < n → ∃ b o, A = some ⟨b, o, none⟩ ∧ ∀ j, j < n → w.cell? ⟨b, o + j, none⟩ = some (.string (l.getD j default))
theorem RdT.nil (w : World) : RdT w none 0 0 [] := ⟨rfl, Nat.le_refl _, by omega, fun hp => absurd hp (by omega)⟩
theorem RdT.keep {w w' : World} {A : Option Addr} {n c : Nat} {l : List ByteArray} {S : List Nat} (h : RdT w A n c l) (hw : Only S w w') (hs : 0 < n → ∀ p, A = some p → p.block ∉ S) : RdT w' A n c l :=
  ⟨h.len, h.cap, h.max, fun hn => by
    obtain ⟨b, o, e, hc⟩ := h.at_ hn
    refine ⟨b, o, e, fun j hj => ?_⟩
    have h1 := hc j hj
    have h2 := World.block_lt_of_cell? w _ h1
    have h3 : b ∉ S := hs hn ⟨b, o, none⟩ e
    have h4 := hw.blk b h2 h3
    simp only [World.cell?] at h1 ⊢
    rw [h4]
    exact h1⟩
theorem RdT.ext {w w' : World} {A : Option Addr} {n c : Nat} {l : List ByteArray} (h : RdT w A n c l) (hb : Below w.heap.size w w') : RdT w' A n c l := h.keep (Only.of_below [] hb) (by simp)
theorem RdT.drew {w : World} {A : Option Addr} {n c : Nat} {l : List ByteArray} (h : RdT w A n c l) (k : Nat) : RdT (w.drewN k) A n c l := ⟨h.len, h.cap, h.max, h.at_⟩
theorem RdT.takeT {w : World} {A : Option Addr} {n c : Nat} {l : List ByteArray} (h : RdT w A n c l) (m : Nat) (hm : m ≤ n) : RdT w A m c (l.take m) := by
  have h1 := h.len
  refine ⟨by simp; omega, Nat.le_trans hm h.cap, Nat.le_trans hm h.max, fun hp => ?_⟩
  obtain ⟨b, o, e, hc⟩ := h.at_ (by omega)
  refine ⟨b, o, e, fun j hj => ?_⟩
  rw [hc j (by omega)]
  simp [List.getD_eq_getElem?_getD, hj]
theorem RdT.lit (w : World) (l : List ByteArray) (n : Nat) (hn : l.length = n) (hm : n ≤ 13000000000000) (fr : Nat × Nat := (0, 0)) : RdT (w.alloc (.cells (tv l).toArray 9 fr)) (some ⟨w.heap.size, 0, none⟩) n n l :=
  ⟨hn, Nat.le_refl _, hm, fun _ => ⟨_, _, rfl, fun j hj => by
    rw [cell_of_row _ _ _ _ _ _ (heap_alloc_new w _)]
    simpa using tv_get l j (by omega)⟩⟩
/-- v is a slice of texts in a block from base on, unfrozen, that holds l (or nil and l empty). -/
def OwnT (w : World) (base : Nat) (v : Value) (n : Nat) (l : List ByteArray) : Prop := w.ownsRow base 9 1 v n (tv l)
section
variable {w w' : World} {base base' n : Nat} {v : Value} {l : List ByteArray}
theorem OwnT.len (h : OwnT w base v n l) : l.length = n := by
  have := h.1; rwa [tv_length, Nat.mul_one] at this
theorem OwnT.nil (w : World) (base : Nat) : OwnT w base (.slice none 0 0) 0 [] := World.ownsRow_nil w base _ _
theorem OwnT.mono (h : OwnT w base v n l) (hb : base' ≤ base) : OwnT w base' v n l := by
  refine ⟨h.1, ?_⟩
  rcases h.2 with h | ⟨g, cap, cur, h1, h2, h3⟩
  · exact .inl h
  · exact .inr ⟨g, cap, cur, h1, Nat.le_trans hb h2, h3⟩
theorem OwnT.keep {S : List Nat} (h : OwnT w base v n l) (hw : Only S w w') (hs : ∀ k, v.ownBlock = some k → k ∉ S) : OwnT w' base v n l := by
  refine ⟨h.1, ?_⟩
  rcases h.2 with h1 | ⟨g, cap, cur, rfl, hb, hh, h3⟩
  · exact .inl h1
  · exact .inr ⟨g, cap, cur, rfl, hb, (hw.blk g (lt_of_block hh) (hs g rfl)).trans hh, h3⟩
theorem OwnT.ext (h : OwnT w base v n l) (hb : Below w.heap.size w w') : OwnT w' base v n l := h.keep (Only.of_below [] hb) (by simp)
theorem OwnT.alloc (h : OwnT w base v n l) (o : Obj) : OwnT (w.alloc o) base v n l := World.ownsRow.alloc h o
theorem OwnT.drewN (h : OwnT w base v n l) (k : Nat) : OwnT (w.drewN k) base v n l := h
theorem OwnT.drew (h : OwnT w base v n l) : OwnT w.drew base v n l := h
theorem OwnT.blk (h : OwnT w base v n l) : Blk v base w.heap.size := fun k hk => (World.ownsRow.lt h) k hk
theorem OwnT.slice (h : OwnT w base v n l) : ∃ A c, v = .slice A n c := by
  rcases h.2 with ⟨rfl, h0⟩ | ⟨g, cap, cur, rfl, _⟩
  · subst h0; exact ⟨none, 0, rfl⟩
  · exact ⟨_, cap, rfl⟩
theorem OwnT.rd (h : OwnT w base v n l) (hm : n ≤ 13000000000000) : ∃ A c, v = .slice A n c ∧ RdT w A n c l := by
  have hl := h.len
  rcases h.2 with ⟨rfl, h0⟩ | ⟨g, cap, cur, rfl, hb, hh, h1, h2, h3, h4⟩
  · subst h0
    exact ⟨none, 0, rfl, hl, Nat.le_refl _, by omega, fun hp => absurd hp (by omega)⟩
  · refine ⟨_, cap, rfl, hl, h1, hm, fun hp => ⟨g, 0, rfl, fun j hj => ?_⟩⟩
    have := World.ownsRow.cells h (g := g) rfl j _ (tv_get l j (by omega))
    rwa [Addr.add_mid] at this
theorem OwnT.rdA {A : Option Addr} {cap : Nat} (h : OwnT w base (.slice A n cap) n l) (hm : n ≤ 13000000000000) : RdT w A n cap l := by
  obtain ⟨A9, c9, he, hr⟩ := h.rd hm
  injection he with h1 h2 h3
  subst h1 h3
  exact hr
theorem OwnT.form (h : OwnT w base v n l) (hp : 0 < n) : ∃ g c, v = .slice (some ⟨g, 0, none⟩) n c ∧ base ≤ g ∧ g < w.heap.size := by
  rcases h.2 with ⟨_, h0⟩ | ⟨g, cap, cur, rfl, hb, hh, _⟩
  · omega
  · exact ⟨g, cap, rfl, hb, lt_of_block hh⟩
end
theorem run_appT {W : World} (base : Nat) (ty : TypeId) {v : Value} {n : Nat} {xs ys : List ByteArray} {A : Option Addr} {m c : Nat}
    (HO : OwnT W base v n xs) (HR : RdT W A m c ys) (hbase : base ≤ W.heap.size) (hl : n + m ≤ 13000000000000) :
    ∃ v1 w1, (Builtin.append_ #[24, 24] ty #[v, .slice A m c]).run Try.prog W = .ok v1 w1 ∧ OwnT w1 base v1 (n + m) (xs ++ ys) ∧ W.grownBy w1 v.ownBlock ∧ (v1.ownBlock = v.ownBlock ∨ Blk v1 W.heap.size w1.heap.size) := by
  obtain ⟨i0, hi, hzz⟩ := Option.map_eq_some_iff.1 info_str
  simp only [Prod.mk.injEq] at hzz
  obtain ⟨hz0, hz1, hz2⟩ := hzz
  have ht := Try.underlying24
  have hm : ys.length = m := HR.len
  rcases A with _ | ad
  · have h0 : m = 0 := by
      rcases Nat.eq_zero_or_pos m with h0 | h0
      · exact h0
      · obtain ⟨b, o', h, _⟩ := HR.at_ h0
        cases h
    subst h0
    obtain rfl : ys = [] := List.eq_nil_of_length_eq_zero hm
    refine ⟨v, W, ?_, by simpa using HO, World.grownBy.refl W _, .inl rfl⟩
    rcases HO.2 with ⟨rfl, hn⟩ | ⟨g, cap, cur, rfl, _, _, hnc, _⟩
    · simp [Builtin.append_, run_underlying ht, sizeOf, typeInfo, hi, Builtin.lenOf, Builtin.firstCells]
    · simp [Builtin.append_, run_underlying ht, sizeOf, typeInfo, hi, Builtin.lenOf, Builtin.firstCells, hnc, storeCells]
  · have hcells : ∀ j u, (tv ys)[j]? = some u → W.cell? (ad.add j) = some u := by
      intro j u hu
      have hj : j < ys.length := by
        rcases Nat.lt_or_ge j ys.length with h | h
        · exact h
        · simp [tv, List.getElem?_eq_none h] at hu
      obtain ⟨b, o', h', hc⟩ := HR.at_ (by omega)
      injection h' with h'
      subst h'
      rw [tv_get ys j hj] at hu
      rw [Addr.add_mid, hc j (by omega), hu]
    obtain ⟨v1, w1, hr, h2, h3, h4⟩ := run_append_own_wide (P := Try.prog) W base 24 ty 9 i0 (.string ⟨#[]⟩) 1 16 ht hi hz0 hz1 hz2 rfl (by omega) v n (tv xs) HO ad m c (tv ys) (by rw [tv_length]; omega) hcells
      (tv_one ys) (by simp only [maxLen]; omega) (by omega) hbase
    have h2' : OwnT w1 base v1 (n + m) (xs ++ ys) := by unfold OwnT; rw [tv_append]; exact h2
    refine ⟨v1, w1, hr, h2', h3, ?_⟩
    rcases HO.2 with ⟨rfl, h0⟩ | ⟨g, cap, cur, rfl, hb, hh, hnc, hcm, hcs, htake⟩
    · by_cases hm0 : m = 0
      · rw [h4.2 ⟨rfl, hm0⟩]; exact .inl rfl
      · have hr2 := run_append_nil (P := Try.prog) W 24 ty 9 i0 (.string ⟨#[]⟩) ht hi hz0 ad m c (tv ys) (by rw [tv_length, hz1]; omega) hcells (by omega) (by omega) (by rw [hz2]; omega)
        rw [hr] at hr2
        injection hr2 with e1 e2
        refine .inr fun k hk => ?_
        have h9 := (World.ownsRow.lt h2') k hk
        rw [e1] at hk
        injection hk with hk
        have hk : W.heap.size = k := hk
        exact ⟨by omega, h9.2⟩
    · by_cases hroom : n + m ≤ cap
      · have hr2 := run_append_room (P := Try.prog) W 24 ty 9 i0 ht hi g n cap cur hh ad m c (tv ys) (by rw [tv_length, hz1]; omega) hcells (tv_one ys) hroom (by rw [tv_length, hz1]; omega)
        rw [hr] at hr2
        injection hr2 with e1 e2
        rw [e1]; exact .inl rfl
      · have hr2 := run_append_grow (P := Try.prog) W 24 ty 9 i0 (.string ⟨#[]⟩) ht hi hz0 ⟨g, 0, none⟩ n cap (tv xs) (by rw [hz1]; exact HO.1) (World.ownsRow.cells HO (g := g) rfl) ad m c (tv ys) (by rw [tv_length, hz1]; omega) hcells (by omega) (by omega) (by rw [hz2]; exact growslice_fits_wide (by omega) (by omega))
        rw [hr] at hr2
        injection hr2 with e1 e2
        refine .inr fun k hk => ?_
        have h9 := (World.ownsRow.lt h2') k hk
        rw [e1] at hk
        injection hk with hk
        have hk : W.heap.size = k := hk
        exact ⟨by omega, h9.2⟩
section
variable {ops : Array Oper} {rest : List Oper} {o : Oper} {a : Act} {Q : Exit → Act → World → Prop}
theorem wp_appT {W : World} (base : Nat) {v : Value} {n : Nat} {xs ys : List ByteArray} {A : Option Addr} {m c : Nat} (HO : OwnT W base v n xs) (HR : RdT W A m c ys) (hbase : base ≤ W.heap.size) (hl : n + m ≤ 13000000000000) (sl x : Operand) (hgd : o.guard = none)
    (ho : o.op = .call { callee := .builtin .append, args := #[sl, x], argTypes := #[24, 24] }) (hs : a.eval sl = v) (hx : a.eval x = .slice A m c)
    (h : ∀ v1 w1, OwnT w1 base v1 (n + m) (xs ++ ys) → W.grownBy w1 v.ownBlock → (v1.ownBlock = v.ownBlock ∨ Blk v1 W.heap.size w1.heap.size) → wpList Try.prog ops Q rest (a.put o.dst v1) w1) :
    wpList Try.prog ops Q (o :: rest) a W := by
  obtain ⟨v1, w1, hr, hown, hg, hat⟩ := run_appT base o.type HO HR hbase hl
  refine wpList_plain hgd fun K hK => ?_
  unfold Oper.wp execOp
  simp only [ho, resolve, invoke, builtin, Sem.run_bind, Sem.run_pure, Result.andThen_ok, List.map_toArray, List.map_cons, List.map_nil, hs, hx, hr]
  exact hK _ _ (h v1 w1 hown hg hat)
/-- append(v, s), one text, behind its box -/
theorem wp_appT1 {W : World} (base : Nat) {v : Value} {n : Nat} {xs : List ByteArray} (y : ByteArray) (HO : OwnT W base v n xs) (hbase : base ≤ W.heap.size) (hl : n + 1 ≤ 13000000000000) (sl x : Operand) (hgd : o.guard = none)
    (ho : o.op = .call { callee := .builtin .append, args := #[sl, x], argTypes := #[24, 24] }) (hs : a.eval sl = v) (hx : a.eval x = .slice (some ⟨W.heap.size, 0, none⟩) 1 1)
    (h : ∀ v1 w1, OwnT w1 base v1 (n + 1) (xs ++ [y]) → (W.alloc (.cells #[.string y] 9)).grownBy w1 v.ownBlock → (v1.ownBlock = v.ownBlock ∨ Blk v1 W.heap.size w1.heap.size) → wpList Try.prog ops Q rest (a.put o.dst v1) w1) :
    wpList Try.prog ops Q (o :: rest) a (W.alloc (.cells #[.string y] 9)) := by
  refine wp_appT base (HO.alloc _) (RdT.lit W [y] 1 rfl (by omega)) (by simp; omega) hl sl x hgd ho hs hx ?_
  intro v1 w1 h1 h2 h3
  refine h v1 w1 h1 h2 ?_
  rcases h3 with h3 | h3
  · exact .inl h3
  · exact .inr (h3.mono (by simp) (Nat.le_refl _))
end
end Go.Proofs.Ytlandlgjhnnaiaa
