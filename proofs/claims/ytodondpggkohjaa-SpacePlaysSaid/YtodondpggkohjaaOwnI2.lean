/- Words on memory: more on slices of ints: cut, append as a region's step, append that keeps the elder slice. -/
import Derived.Test.YtodondpggkohjaaOwnI
import Derived.Maps.AppendAt
import Derived.ArgAppend
set_option linter.unusedVariables false
set_option linter.unusedSimpArgs false
namespace Go.Proofs.Ytodondpggkohjaa
open Go.RowKit
section
variable {ops : Array Oper} {rest : List Oper} {o : Oper} {a : Act} {Q : Exit → Act → World → Prop}
theorem step_appI {w0 W : World} {K : Act → World → Prop} {E : Prop} (base : Nat) {v : Value} {n : Nat} {xs ys : List Int} {D : List Nat} {A : Option Addr} {m c : Nat}
    (HO : OwnI W base v n xs) (HR : RdI D W A m c ys) (HB : Below base w0 W) (hbase : base ≤ W.heap.size) (hl : (n + m) * 8 ≤ 140737488355328) (s x : Operand) (hgd : o.guard = none)
    (ho : o.op = .call { callee := .builtin .append, args := #[s, x], argTypes := #[27, 27] }) (hs : a.eval s = v) (hx : a.eval x = .slice A m c)
    (h : ∀ v1 w1, OwnI w1 base v1 (n + m) (xs ++ ys) → Below base w0 w1 → W.grownBy w1 v.ownBlock → (v1.ownBlock = v.ownBlock ∨ v1.ownBlock = some W.heap.size) → K (a.put o.dst v1) w1) :
    if Region.wanted o (yielded ops a.tmps) = true then Oper.wp Try.prog o a W K Q else E := by
  have hw : Region.wanted o (yielded ops a.tmps) = true := by simp [Region.wanted, hgd]
  rw [if_pos hw]
  obtain ⟨v1, w1, hr, hown, hg, hat⟩ := run_appI base o.type HO HR hbase hl
  unfold Oper.wp execOp
  simp only [ho, resolve, invoke, builtin, Sem.run_bind, Sem.run_pure, Result.andThen_ok, List.map_toArray, List.map_cons, List.map_nil, hs, hx, hr]
  refine h v1 w1 hown (HB.grown hg hbase ?_) hg hat
  intro k hk
  exact ((World.ownsRow.lt HO) k hk).1
end
/-- b[m:], whatever the capacity. -/
theorem cut_fromI (A : Option Addr) (n c m : Nat) (hm : m ≤ n) :
    ∃ A' : Option Addr, (∀ W : World, (Instr.slice 27 (.slice A n c) (some (.int .i64 (m : Int))) none none).run Try.prog W = .ok (.slice A' (n - m) (c - m)) W) ∧
      ∀ (D : List Nat) (w : World) (l : List Int), RdI D w A n c l → RdI D w A' (n - m) (c - m) (l.drop m) := by
  obtain ⟨i0, hi, hzz⟩ := Option.map_eq_some_iff.1 info_int
  simp only [Prod.mk.injEq] at hzz
  obtain ⟨hz0, hz1, hz2⟩ := hzz
  refine ⟨if c = m then A else A.map (·.add m), fun W => ?_, fun D w l h => ?_⟩
  · have hel : Try.prog.elem 27 = 3 := by simp [Program.elem, Try.underlying27]
    have hu : Try.prog.underlying 27 = some (.slice (Try.prog.elem 27)) := by rw [hel]; exact Try.underlying27
    rw [run_slice_l W 27 A n c hu .i64 (m : Int) (Int.natCast_nonneg _) (by omega), hel]
    simp [sizeOf, typeInfo, hi, hz1, sliced, Result.andThen]
  · have h1 := h.len
    have h2 := h.cap
    have h3 := h.max
    refine ⟨by simp; omega, by omega, by omega, fun hp => ?_⟩
    obtain ⟨b, o, rfl, hnd, hc⟩ := h.at_ (by omega)
    rw [if_neg (by omega)]
    refine ⟨b, o + m, by simp [Addr.add_mid], hnd, fun j hj => ?_⟩
    have := hc (m + j) (by omega)
    rw [← Nat.add_assoc] at this
    rw [this]
    simp [List.getD_eq_getElem?_getD]
/-- b[lo:hi], whatever the capacity. -/
theorem cut_midI (A : Option Addr) (n c lo hi : Nat) (h1 : lo ≤ hi) (h2 : hi ≤ n) (h3 : n ≤ c) :
    ∃ A' : Option Addr, (∀ W : World, (Instr.slice 27 (.slice A n c) (some (.int .i64 (lo : Int))) (some (.int .i64 (hi : Int))) none).run Try.prog W = .ok (.slice A' (hi - lo) (c - lo)) W) ∧
      ∀ (D : List Nat) (w : World) (l : List Int), RdI D w A n c l → RdI D w A' (hi - lo) (c - lo) ((l.drop lo).take (hi - lo)) := by
  obtain ⟨A1, e1, r1⟩ := cut_fromI A n c lo (by omega)
  obtain ⟨i0, hi0, hzz⟩ := Option.map_eq_some_iff.1 info_int
  simp only [Prod.mk.injEq] at hzz
  obtain ⟨hz0, hz1, hz2⟩ := hzz
  refine ⟨if c = lo then A else A.map (·.add lo), fun W => ?_, fun D w l h => ?_⟩
  · have hel : Try.prog.elem 27 = 3 := by simp [Program.elem, Try.underlying27]
    have hu : Try.prog.underlying 27 = some (.slice (Try.prog.elem 27)) := by rw [hel]; exact Try.underlying27
    rw [run_slice_lh W 27 A n c hu .i64 .i64 (lo : Int) (hi : Int) (Int.natCast_nonneg _) (by omega) (by omega), hel]
    simp [sizeOf, typeInfo, hi0, hz1, sliced, Result.andThen]
  · have q1 := h.len
    have q2 := h.cap
    have q3 := h.max
    refine ⟨by simp; omega, by omega, by omega, fun hp => ?_⟩
    obtain ⟨b, o, rfl, hnd, hc⟩ := h.at_ (by omega)
    rw [if_neg (by omega)]
    refine ⟨b, o + lo, by simp [Addr.add_mid], hnd, fun j hj => ?_⟩
    have := hc (lo + j) (by omega)
    rw [← Nat.add_assoc] at this
    rw [this]
    simp [List.getD_eq_getElem?_getD, hj]
theorem OwnI.other {w w' : World} {base n : Nat} {v : Value} {l : List Int} (h : OwnI w base v n l) {row : Option Nat} (hg : w.grownBy w' row) (hne : v.ownBlock = none ∨ v.ownBlock ≠ row) : OwnI w' base v n l := World.ownsRow.kept h hg hne
theorem OwnI.cell {W : World} {base n g cap : Nat} {l : List Int} (h : OwnI W base (.slice (some ⟨g, 0, none⟩) n cap) n l) (j : Nat) (hj : j < n) : W.cell? ⟨g, j, none⟩ = some (.int .i64 (l.getD j 0)) := by
  have := World.ownsRow.cellAt h j (by omega)
  rw [this, iv_get l j (by rw [h.len]; exact hj)]
theorem OwnI.free {W : World} {base n g cap : Nat} {l : List Int} (h : OwnI W base (.slice (some ⟨g, 0, none⟩) n cap) n l) (j : Nat) : W.frozen? ⟨g, j, none⟩ = false := World.ownsRow.frozenAt h j
theorem OwnI.store {W : World} {base n g cap : Nat} {l : List Int} (h : OwnI W base (.slice (some ⟨g, 0, none⟩) n cap) n l) (j : Nat) (c : Int) : OwnI (W.setCell ⟨g, j, none⟩ (.int .i64 c)) base (.slice (some ⟨g, 0, none⟩) n cap) n (l.set j c) := by
  have := (World.ownsRow.stored h j (.int .i64 c)).1
  unfold OwnI
  rwa [show iv_ (l.set j c) = (iv_ l).set j (.int .i64 c) by simp [iv_, List.map_set]]
theorem OwnI.base_le {W : World} {base n g cap : Nat} {l : List Int} (h : OwnI W base (.slice (some ⟨g, 0, none⟩) n cap) n l) : base ≤ g := ((World.ownsRow.lt h) g rfl).1
theorem OwnI.below_store {W : World} {base n : Nat} {v : Value} {l : List Int} (h : OwnI W base v n l) {p : Addr} (hp : p.block < base) (u : Value) : OwnI (W.setCell p u) base v n l := ownsRow_setCell_below h hp u
theorem OwnI.shorter {W : World} {base n m g cap : Nat} {l l2 : List Int} (h : OwnI W base (.slice (some ⟨g, 0, none⟩) (n + m) cap) (n + m) (l ++ l2)) (hl : l.length = n) : OwnI W base (.slice (some ⟨g, 0, none⟩) n cap) n l := by
  have hlen := h.len
  rcases h.2 with ⟨h', _⟩ | ⟨g', cap', cur, h', hb, hg, hnc, hcm, hcs, htake⟩
  · simp at h'
  · simp only [Value.slice.injEq, Option.some.injEq, Addr.mk.injEq, and_true, true_and] at h'
    obtain ⟨rfl, rfl⟩ := h'
    refine ⟨by rw [iv_length]; omega, .inr ⟨g, cap, cur, rfl, hb, hg, by omega, hcm, hcs, ?_⟩⟩
    have := congrArg (List.take n) htake
    rw [List.take_take, show min n ((n + m) * 1) = n * 1 by omega, iv_append, List.take_append_of_le_length (by rw [iv_length]; omega)] at this
    rw [this]
    exact List.take_of_length_le (by rw [iv_length]; omega)
/-- append(v, ys...) leaves v itself as it was. -/
theorem run_appI_keep {W : World} (base : Nat) (ty : TypeId) {v : Value} {n : Nat} {xs ys : List Int} {D : List Nat} {A : Option Addr} {m c : Nat}
    (HO : OwnI W base v n xs) (HR : RdI D W A m c ys) (hbase : base ≤ W.heap.size) (hl : (n + m) * 8 ≤ 140737488355328) (hm0 : 0 < m) :
    ∃ v1 w1, (Builtin.append_ #[27, 27] ty #[v, .slice A m c]).run Try.prog W = .ok v1 w1 ∧ OwnI w1 base v1 (n + m) (xs ++ ys) ∧ OwnI w1 base v n xs ∧ W.grownBy w1 v.ownBlock := by
  obtain ⟨i0, hi, hzz⟩ := Option.map_eq_some_iff.1 info_int
  simp only [Prod.mk.injEq] at hzz
  obtain ⟨hz0, hz1, hz2⟩ := hzz
  have ht := Try.underlying27
  rcases HO.2 with ⟨rfl, h0⟩ | ⟨g, cap, cur, rfl, hb, hh, h1, h2, h3, h4⟩
  · subst h0
    obtain ⟨v1, w1, hr, h1, h2, h3⟩ := run_appI base ty HO HR hbase hl
    obtain rfl : xs = [] := List.eq_nil_of_length_eq_zero HO.len
    exact ⟨v1, w1, hr, h1, OwnI.nil _ _, h2⟩
  · have hm : ys.length = m := HR.len
    obtain ⟨b, o, rfl, hnd, hc⟩ := HR.at_ hm0
    have hcells : ∀ j u, (iv_ ys)[j]? = some u → W.cell? ((⟨b, o, none⟩ : Addr).add j) = some u := by
      intro j u hu
      have hj : j < ys.length := by
        rcases Nat.lt_or_ge j ys.length with h | h
        · exact h
        · simp [iv_, List.getElem?_eq_none h] at hu
      rw [iv_get ys j hj] at hu
      rw [Addr.add_mid, hc j (by omega), hu]
    by_cases hroom : n + m ≤ cap
    · obtain ⟨w1, hr, h5, h6⟩ := run_append_fits (P := Try.prog) W base 27 ty 3 i0 1 ht hi hz1 g n cap (iv_ xs) HO ⟨b, o, none⟩ m c (iv_ ys) (by rw [iv_length]; omega) hcells (iv_one ys) hroom
      have h5' : OwnI w1 base (.slice (some ⟨g, 0, none⟩) (n + m) cap) (n + m) (xs ++ ys) := by unfold OwnI; rw [iv_append]; exact h5
      exact ⟨_, w1, hr, h5', h5'.shorter HO.len, h6⟩
    · obtain ⟨v1, w1, hr, h5, h6⟩ := run_append_arg_grows (P := Try.prog) W 27 ty 3 i0 (.int .i64 0) 1 8 ht hi hz0 hz1 hz2 rfl (by omega) ⟨g, 0, none⟩ n cap (iv_ xs) HO.1
        (World.ownsRow.cells HO (g := g) rfl) ⟨b, o, none⟩ m c (iv_ ys) (by rw [iv_length]; omega) hcells (by omega) (by simp only [maxLen]; omega) (by omega)
      have h5' : OwnI w1 W.heap.size v1 (n + m) (xs ++ ys) := by unfold OwnI; rw [iv_append]; exact h5
      refine ⟨v1, w1, hr, h5'.mono hbase, HO.other h6 (.inr (by simp [Value.ownBlock])), ⟨h6.os, h6.tape, h6.output, h6.size, fun k hk _ => h6.block k hk (by simp)⟩⟩
section
variable {ops : Array Oper} {rest : List Oper} {o : Oper} {a : Act} {Q : Exit → Act → World → Prop}
theorem wp_appI_keep {w0 W : World} (base : Nat) {v : Value} {n : Nat} {xs ys : List Int} {D : List Nat} {A : Option Addr} {m c : Nat}
    (HO : OwnI W base v n xs) (HR : RdI D W A m c ys) (HB : Below base w0 W) (hbase : base ≤ W.heap.size) (hl : (n + m) * 8 ≤ 140737488355328) (hm0 : 0 < m) (s x : Operand) (hgd : o.guard = none)
    (ho : o.op = .call { callee := .builtin .append, args := #[s, x], argTypes := #[27, 27] }) (hs : a.eval s = v) (hx : a.eval x = .slice A m c)
    (h : ∀ v1 w1, OwnI w1 base v1 (n + m) (xs ++ ys) → OwnI w1 base v n xs → Below base w0 w1 → W.grownBy w1 v.ownBlock → wpList Try.prog ops Q rest (a.put o.dst v1) w1) :
    wpList Try.prog ops Q (o :: rest) a W := by
  obtain ⟨v1, w1, hr, hown, hkeep, hg⟩ := run_appI_keep base o.type HO HR hbase hl hm0
  refine wpList_plain hgd fun K hK => ?_
  unfold Oper.wp execOp
  simp only [ho, resolve, invoke, builtin, Sem.run_bind, Sem.run_pure, Result.andThen_ok, List.map_toArray, List.map_cons, List.map_nil, hs, hx, hr]
  refine hK _ _ (h v1 w1 hown hkeep (HB.grown hg hbase ?_) hg)
  intro k hk
  exact ((World.ownsRow.lt HO) k hk).1
end
end Go.Proofs.Ytodondpggkohjaa
