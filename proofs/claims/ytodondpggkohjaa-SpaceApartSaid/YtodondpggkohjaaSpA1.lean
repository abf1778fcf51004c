/- The plain law behind SpaceApart: New of what is taken gives the same states; behind the gives what is held is what was taken. Conditions: the states are free or old. -/
import Derived.Test.YtodondpggkohjaaSpM2
import Derived.Test.YtodondpggkohjaaOwnI2
set_option linter.unusedVariables false
set_option linter.unusedSimpArgs false
namespace Go.Proofs.Ytodondpggkohjaa
open Go.RowKit
theorem getD_app_l (l l2 : List Int) (k : Nat) (h : k < l.length) : (l ++ l2).getD k 0 = l.getD k 0 := by
  simp [List.getD_eq_getElem?_getD, List.getElem?_append_left h]
theorem nk_append (l l2 : List Int) (first m : Nat) : ∀ k, k ≤ l.length → nk (l ++ l2) first m k = nk l first m k
  | 0, _ => rfl
  | k + 1, h => by
    rw [nk, nk, nk_append l l2 first m k (by omega), getD_app_l l l2 k (by omega)]
theorem nk_sel_get {is : List Int} (h : StC is) : ∀ k, k ≤ is.length → ∀ j, j < is.length → (nk (sel pT 2 is k) 2 is.length (sel pT 2 is k).length).getD j 0 = if j < k then is.getD j 0 else 0
  | 0, _, j, hj => by simp [sel, nk, List.getD_eq_getElem?_getD, List.getElem?_replicate, hj]
  | k + 1, hk, j, hj => by
    have ih := nk_sel_get h k (by omega) j hj
    rcases h.at_ k (by omega) with h0 | h2
    · have hp : pT (is.getD k 0) = false := by rw [h0]; decide
      have hs : sel pT 2 is (k + 1) = sel pT 2 is k := by rw [sel, hp]; rfl
      rw [hs, ih]
      by_cases e : j = k
      · subst e; rw [if_neg (by omega), if_pos (by omega), h0]
      · by_cases e2 : j < k
        · rw [if_pos e2, if_pos (by omega)]
        · rw [if_neg e2, if_neg (by omega)]
    · have hp : pT (is.getD k 0) = true := by rw [h2]; decide
      have hs : sel pT 2 is (k + 1) = sel pT 2 is k ++ [((2 + k : Nat) : Int)] := by rw [sel, hp]; rfl
      rw [hs, List.length_append, List.length_singleton, nk, nk_append _ _ _ _ _ (Nat.le_refl _)]
      have hx : (sel pT 2 is k ++ [((2 + k : Nat) : Int)]).getD (sel pT 2 is k).length 0 = ((2 + k : Nat) : Int) := by simp [List.getD_eq_getElem?_getD]
      rw [hx, show ((((2 + k : Nat) : Int)) - ((2 : Nat) : Int)).toNat = k by omega, getD_set _ _ _ _ (by rw [nk_length]; omega), ih]
      by_cases e : j = k
      · subst e; rw [if_pos rfl, if_pos (by omega), h2]
      · rw [if_neg e]
        by_cases e2 : j < k
        · rw [if_pos e2, if_pos (by omega)]
        · rw [if_neg e2, if_neg (by omega)]
theorem list_eq_getD {l l' : List Int} (hl : l.length = l'.length) (h : ∀ j, j < l.length → l.getD j 0 = l'.getD j 0) : l = l' := by
  apply List.ext_getElem hl
  intro i h1 h2
  have := h i h1
  rwa [List.getD_eq_getElem?_getD, List.getD_eq_getElem?_getD, List.getElem?_eq_getElem h1, List.getElem?_eq_getElem h2] at this
theorem nk_sel {is : List Int} (h : StC is) : nk (sel pT 2 is is.length) 2 is.length (sel pT 2 is is.length).length = is := by
  refine list_eq_getD (nk_length _ _ _ _) fun j hj => ?_
  rw [nk_length] at hj
  rw [nk_sel_get h _ (Nat.le_refl _) j hj, if_pos hj]
theorem sel_pair (p : Int → Bool) (first : Nat) (is : List Int) : ∀ k, (sel p first is k).Pairwise (· < ·)
  | 0 => by simp [sel]
  | k + 1 => by
    have ih := sel_pair p first is k
    rw [sel]
    split
    · rw [List.pairwise_append]
      refine ⟨ih, by simp, fun a ha b hb => ?_⟩
      simp at hb
      obtain ⟨i, hi, rfl, _⟩ := (sel_mem p first is a k).1 ha
      omega
    · exact ih
theorem sel_fresh (p : Int → Bool) (first : Nat) (is : List Int) (k j : Nat) (hj : j < (sel p first is k).length) : (sel p first is k).getD j 0 ∉ (sel p first is k).take j := by
  intro hm
  have hp := sel_pair p first is k
  obtain ⟨i, hi, he⟩ := List.getElem_of_mem hm
  simp at hi
  rw [List.getElem_take] at he
  have := List.pairwise_iff_getElem.1 hp i j (by omega) hj (by omega)
  rw [he, List.getD_eq_getElem?_getD, List.getElem?_eq_getElem hj] at this
  simp at this
/-- the states after the first j of T were given back -/
def gvS (is T : List Int) : Nat → List Int
  | 0 => is
  | j + 1 => giveS 2 (gvS is T j) (T.getD j 0)
theorem gvS_length (is T : List Int) : ∀ j, (gvS is T j).length = is.length
  | 0 => rfl
  | j + 1 => by rw [gvS, giveS_length, gvS_length]
theorem take_succ_getD (T : List Int) (j : Nat) (h : j < T.length) : T.take (j + 1) = T.take j ++ [T.getD j 0] := by
  rw [List.take_add_one, List.getElem?_eq_getElem h, List.getD_eq_getElem?_getD, List.getElem?_eq_getElem h]; rfl
theorem gv_step {is : List Int} (h : StC is) (T : List Int) (hT : T = sel pT 2 is is.length) : ∀ j, j ≤ T.length → (∀ i, i < is.length → (gvS is T j).getD i 0 = if ((2 + i : Nat) : Int) ∈ T.take j then 3 else is.getD i 0) ∧ (j < T.length → giveE 2 (gvS is T j) (T.getD j 0) = 0)
  | j, hj => by
    have key : ∀ i, i < is.length → (gvS is T j).getD i 0 = if ((2 + i : Nat) : Int) ∈ T.take j then 3 else is.getD i 0 := by
      match j, hj with
      | 0, _ => intro i hi; simp [gvS]
      | j + 1, hj =>
        have ih := gv_step h T hT j (by omega)
        have hm : T.getD j 0 ∈ T := by rw [List.getD_eq_getElem?_getD, List.getElem?_eq_getElem (show j < T.length by omega)]; exact List.getElem_mem _
        obtain ⟨i0, hi0, e0, hp0⟩ := (sel_mem pT 2 is (T.getD j 0) is.length).1 (by rw [← hT]; exact hm)
        have hf : T.getD j 0 ∉ T.take j := by have := sel_fresh pT 2 is is.length j (by rw [← hT]; omega); rwa [← hT] at this
        have h2 : is.getD i0 0 = 2 := by
          have := h.at_ i0 hi0
          have := of_decide_eq_true hp0
          omega
        have hg := ih.1 i0 hi0
        rw [if_neg (by rw [← e0]; exact hf), h2] at hg
        intro i hi
        rw [gvS, (give_ok (first := 2) (is := gvS is T j) (blk := T.getD j 0) (i := i0) (by omega) (by rw [gvS_length]; exact hi0)).2, hg, if_neg (by decide), if_pos rfl, getD_set _ _ _ _ (by rw [gvS_length]; exact hi0), ih.1 i hi, take_succ_getD T j (by omega)]
        by_cases e : i = i0
        · subst e
          rw [if_pos rfl, if_pos (by rw [e0]; simp)]
        · rw [if_neg e]
          have : ((2 + i : Nat) : Int) ∈ T.take j ++ [T.getD j 0] ↔ ((2 + i : Nat) : Int) ∈ T.take j := by
            simp only [List.mem_append, List.mem_singleton, e0]
            constructor
            · rintro (h | h)
              · exact h
              · omega
            · exact .inl
          by_cases q : ((2 + i : Nat) : Int) ∈ T.take j
          · rw [if_pos q, if_pos (this.2 q)]
          · rw [if_neg q, if_neg (fun h => q (this.1 h))]
    refine ⟨key, fun hjl => ?_⟩
    have hm : T.getD j 0 ∈ T := by rw [List.getD_eq_getElem?_getD, List.getElem?_eq_getElem hjl]; exact List.getElem_mem _
    obtain ⟨i0, hi0, e0, hp0⟩ := (sel_mem pT 2 is (T.getD j 0) is.length).1 (by rw [← hT]; exact hm)
    have hf : T.getD j 0 ∉ T.take j := by have := sel_fresh pT 2 is is.length j (by rw [← hT]; omega); rwa [← hT] at this
    have h2 : is.getD i0 0 = 2 := by
      have := h.at_ i0 hi0
      have := of_decide_eq_true hp0
      omega
    have hg := key i0 hi0
    rw [if_neg (by rw [← e0]; exact hf), h2] at hg
    rw [(give_ok (first := 2) (is := gvS is T j) (blk := T.getD j 0) (i := i0) (by omega) (by rw [gvS_length]; exact hi0)).1, hg]
    rfl
theorem sel_congr (p q : Int → Bool) (first : Nat) (is js : List Int) : ∀ k, (∀ i, i < k → p (is.getD i 0) = q (js.getD i 0)) → sel p first is k = sel q first js k
  | 0, _ => rfl
  | k + 1, h => by rw [sel, sel, h k (by omega), sel_congr p q first is js k (fun i hi => h i (by omega))]
theorem held_gv {is : List Int} (h : StC is) (T : List Int) (hT : T = sel pT 2 is is.length) : sel pH 2 (gvS is T T.length) (gvS is T T.length).length = T := by
  rw [gvS_length]
  conv => rhs; rw [hT]
  refine sel_congr _ _ _ _ _ _ fun i hi => ?_
  rw [(gv_step h T hT T.length (Nat.le_refl _)).1 i hi, List.take_length]
  have hm := sel_mem pT 2 is ((2 + i : Nat) : Int) is.length
  rw [← hT] at hm
  by_cases q : ((2 + i : Nat) : Int) ∈ T
  · rw [if_pos q]
    obtain ⟨i', hi', e', hp'⟩ := hm.1 q
    obtain rfl : i' = i := by omega
    rw [hp']; rfl
  · rw [if_neg q]
    have hn : pT (is.getD i 0) = false := by
      cases hp : pT (is.getD i 0)
      · rfl
      · exact absurd (hm.2 ⟨i, hi, rfl, hp⟩) q
    rw [hn]
    rcases h.at_ i hi with h0 | h0
    · rw [h0]; decide
    · rw [h0] at hn; exact absurd hn (by decide)
/-- where a slice's own block lies -/
def Blk (v : Value) (lo hi : Nat) : Prop := ∀ k, v.ownBlock = some k → lo ≤ k ∧ k < hi
theorem OwnI.blk {w : World} {base n : Nat} {v : Value} {l : List Int} (h : OwnI w base v n l) : Blk v base w.heap.size := fun k hk => (World.ownsRow.lt h) k hk
theorem OwnI.setOther {w : World} {base n lo hi : Nat} {v : Value} {l : List Int} (h : OwnI w base v n l) (hb : Blk v lo hi) (p : Addr) (u : Value) (hp : p.block < lo ∨ hi ≤ p.block) : OwnI (w.setCell p u) base v n l := by
  refine h.other (row := some p.block) ⟨rfl, rfl, rfl, by simp, fun k hk hne => heap_setCell_other w p k u (fun e => hne (by rw [e]))⟩ ?_
  cases e : v.ownBlock with
  | none => exact .inl rfl
  | some k =>
    refine .inr fun hk => ?_
    simp at hk
    have := hb k e
    omega
theorem Blk.ne {v v' : Value} {lo hi lo' hi' : Nat} (h : Blk v lo hi) (h' : Blk v' lo' hi') (hx : hi ≤ lo' ∨ hi' ≤ lo) : v.ownBlock = none ∨ v.ownBlock ≠ v'.ownBlock := by
  cases e : v.ownBlock with
  | none => exact .inl rfl
  | some k =>
    refine .inr fun hk => ?_
    have := h k e
    have := h' k hk.symm
    omega
theorem RdI.take {D : List Nat} {w : World} {A : Option Addr} {n c : Nat} {l : List Int} (h : RdI D w A n c l) (hi : Nat) (h2 : hi ≤ n) : RdI D w A hi c (l.take hi) := by
  have q1 := h.len
  have q2 := h.cap
  have q3 := h.max
  refine ⟨by simp; omega, by omega, by omega, fun hp => ?_⟩
  obtain ⟨b, o, rfl, hnd, hc⟩ := h.at_ (by omega)
  refine ⟨b, o, rfl, hnd, fun j hj => ?_⟩
  rw [hc j (by omega)]
  simp [List.getD_eq_getElem?_getD, hj]
theorem cell_only {w w' : World} {p : Addr} {v : Value} (hw : Only [] w w') (h : w.cell? p = some v) : w'.cell? p = some v := cell_ext ⟨hw.os, hw.tape, hw.output, hw.size, fun k hk => hw.blk k hk (by simp)⟩ h
theorem take_app (T l : List Int) (q : Nat) (h : q = T.length) : (T ++ l).take q = T := by subst h; simp
theorem RdI.takeT {w w' : World} {A : Option Addr} {q c : Nat} {T l : List Int} (h : RdI [] w A (q + 2) c (T ++ l)) (hq : q = T.length) (ho : Only [] w w') : RdI [] w' A q c T := by
  have h1 := h.take q (by omega)
  rw [take_app _ _ _ hq] at h1
  exact h1.only ho (by simp)
theorem sel_bound (p : Int → Bool) (first : Nat) (is : List Int) (k i : Nat) (h : i < (sel p first is k).length) : (first : Int) ≤ (sel p first is k).getD i 0 ∧ (sel p first is k).getD i 0 < (first : Int) + k := by
  have := sel_get p first is k i h
  omega
theorem two_at (T : List Int) (q : Nat) (h : q = T.length) : (T ++ [171, 172]).getD q 0 = 171 ∧ (T ++ [171, 172]).getD (q + 1) 0 = 172 := by
  subst h; constructor <;> simp [List.getD_eq_getElem?_getD, List.getElem?_append_right]
theorem one_at (T : List Int) (q : Nat) (x : Int) (h : q = T.length) : (T ++ [x]).getD q 0 = x := by
  subst h; simp [List.getD_eq_getElem?_getD]
/-- append(v, ys...) leaves v itself as it was; where the answer lies. -/
theorem run_appI_keep2 {W : World} (base : Nat) (ty : TypeId) {v : Value} {n : Nat} {xs ys : List Int} {D : List Nat} {A : Option Addr} {m c : Nat}
    (HO : OwnI W base v n xs) (HR : RdI D W A m c ys) (hbase : base ≤ W.heap.size) (hl : (n + m) * 8 ≤ 140737488355328) (hm0 : 0 < m) :
    ∃ v1 w1, (Builtin.append_ #[27, 27] ty #[v, .slice A m c]).run Try.prog W = .ok v1 w1 ∧ OwnI w1 base v1 (n + m) (xs ++ ys) ∧ OwnI w1 base v n xs ∧ W.grownBy w1 v.ownBlock ∧ (v1.ownBlock = v.ownBlock ∨ Blk v1 W.heap.size w1.heap.size) := by
  obtain ⟨i0, hi, hzz⟩ := Option.map_eq_some_iff.1 info_int
  simp only [Prod.mk.injEq] at hzz
  obtain ⟨hz0, hz1, hz2⟩ := hzz
  have ht := Try.underlying27
  rcases HO.2 with ⟨rfl, h0⟩ | ⟨g, cap, cur, rfl, hb, hh, h1, h2, h3, h4⟩
  · subst h0
    obtain ⟨v1, w1, hr, h1, h2, h3⟩ := run_appI base ty HO HR hbase hl
    obtain rfl : xs = [] := List.eq_nil_of_length_eq_zero HO.len
    refine ⟨v1, w1, hr, h1, OwnI.nil _ _, h2, ?_⟩
    rcases h3 with h3 | h3
    · exact .inl h3
    · exact .inr fun k hk => ⟨by rw [h3] at hk; injection hk with hk; omega, (h1.blk k hk).2⟩
  · have hm : ys.length = m := HR.len
    obtain ⟨b, o, rfl, hnd, hc⟩ := HR.at_ hm0
    have hcells : ∀ j u, (iv_ ys)[j]? = some u → W.cell? ((⟨b, o, none⟩ : Addr).add j) = some u := by
      intro j u hu
      have hj : j < ys.length := by
        rcases Nat.lt_or_ge j ys.length with h | h
        · exact h
        · simp [iv_, List.getElem?_eq_none h] at hu
      rw [iv_get ys j hj] at hu
      rw [Addr.add_mid, hc j (by omega), hu]
    by_cases hroom : n + m ≤ cap
    · obtain ⟨w1, hr, h5, h6⟩ := run_append_fits (P := Try.prog) W base 27 ty 3 i0 1 ht hi hz1 g n cap (iv_ xs) HO ⟨b, o, none⟩ m c (iv_ ys) (by rw [iv_length]; omega) hcells (iv_one ys) hroom
      have h5' : OwnI w1 base (.slice (some ⟨g, 0, none⟩) (n + m) cap) (n + m) (xs ++ ys) := by unfold OwnI; rw [iv_append]; exact h5
      exact ⟨_, w1, hr, h5', h5'.shorter HO.len, h6, .inl rfl⟩
    · obtain ⟨v1, w1, hr, h5, h6⟩ := run_append_arg_grows (P := Try.prog) W 27 ty 3 i0 (.int .i64 0) 1 8 ht hi hz0 hz1 hz2 rfl (by omega) ⟨g, 0, none⟩ n cap (iv_ xs) HO.1
        (World.ownsRow.cells HO (g := g) rfl) ⟨b, o, none⟩ m c (iv_ ys) (by rw [iv_length]; omega) hcells (by omega) (by simp only [maxLen]; omega) (by omega)
      have h5' : OwnI w1 W.heap.size v1 (n + m) (xs ++ ys) := by unfold OwnI; rw [iv_append]; exact h5
      refine ⟨v1, w1, hr, h5'.mono hbase, HO.other h6 (.inr (by simp [Value.ownBlock])), ⟨h6.os, h6.tape, h6.output, h6.size, fun k hk _ => h6.block k hk (by simp)⟩, .inr h5'.blk⟩
section
variable {ops : Array Oper} {rest : List Oper} {o : Oper} {a : Act} {Q : Exit → Act → World → Prop}
theorem wp_appI_keep2 {w0 W : World} (base : Nat) {v : Value} {n : Nat} {xs ys : List Int} {D : List Nat} {A : Option Addr} {m c : Nat}
    (HO : OwnI W base v n xs) (HR : RdI D W A m c ys) (HB : Below base w0 W) (hbase : base ≤ W.heap.size) (hl : (n + m) * 8 ≤ 140737488355328) (hm0 : 0 < m) (s x : Operand) (hgd : o.guard = none)
    (ho : o.op = .call { callee := .builtin .append, args := #[s, x], argTypes := #[27, 27] }) (hs : a.eval s = v) (hx : a.eval x = .slice A m c)
    (h : ∀ v1 w1, OwnI w1 base v1 (n + m) (xs ++ ys) → OwnI w1 base v n xs → Below base w0 w1 → W.grownBy w1 v.ownBlock → (v1.ownBlock = v.ownBlock ∨ Blk v1 W.heap.size w1.heap.size) → wpList Try.prog ops Q rest (a.put o.dst v1) w1) :
    wpList Try.prog ops Q (o :: rest) a W := by
  obtain ⟨v1, w1, hr, hown, hkeep, hg, hat⟩ := run_appI_keep2 base o.type HO HR hbase hl hm0
  refine wpList_plain hgd fun K hK => ?_
  unfold Oper.wp execOp
  simp only [ho, resolve, invoke, builtin, Sem.run_bind, Sem.run_pure, Result.andThen_ok, List.map_toArray, List.map_cons, List.map_nil, hs, hx, hr]
  refine hK _ _ (h v1 w1 hown hkeep (HB.grown hg hbase ?_) hg hat)
  intro k hk
  exact ((World.ownsRow.lt HO) k hk).1
end
end Go.Proofs.Ytodondpggkohjaa
