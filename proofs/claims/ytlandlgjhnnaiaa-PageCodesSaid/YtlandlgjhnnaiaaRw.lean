/- ONE FACT FOR MEMORY: rows, each in a block of its own, all of them made since w0; what was before is as it was. -/
import Derived.Test.YtlandlgjhnnaiaaQz
import Derived.Test.YtlandlgjhnnaiaaBlk
import Derived.Maps.AppendAt
set_option linter.unusedVariables false
set_option linter.unusedSimpArgs false
set_option maxRecDepth 100000
namespace Go.Proofs.Ytlandlgjhnnaiaa
open Go.RowKit
structure Rw (w0 w : World) (R : List (Nat × Obj)) : Prop where
  bl : Below w0.heap.size w0 w
  all : ∀ p ∈ R, w.heap[p.1]? = some p.2
  ge : ∀ p ∈ R, w0.heap.size ≤ p.1
  nd : (R.map Prod.fst).Nodup
section
variable {w0 w w' : World} {R : List (Nat × Obj)}
theorem Rw.start (w : World) : Rw w w [] := ⟨Below.refl _ _, by simp, by simp, by simp⟩
theorem Rw.of (h : Below w0.heap.size w0 w) : Rw w0 w [] := ⟨h, by simp, by simp, by simp⟩
theorem Rw.get (h : Rw w0 w R) (i : Nat) {p : Nat × Obj} (hi : R[i]? = some p) : w.heap[p.1]? = some p.2 := h.all p (List.mem_of_getElem? hi)
theorem Rw.geq (h : Rw w0 w R) (i : Nat) {p : Nat × Obj} (hi : R[i]? = some p) : w0.heap.size ≤ p.1 := h.ge p (List.mem_of_getElem? hi)
theorem Rw.lt (h : Rw w0 w R) (i : Nat) {p : Nat × Obj} (hi : R[i]? = some p) : p.1 < w.heap.size := lt_of_block (h.get i hi)
theorem Rw.ne (h : Rw w0 w R) (i j : Nat) {p q : Nat × Obj} (hi : R[i]? = some p) (hj : R[j]? = some q) (hij : i ≠ j) : p.1 ≠ q.1 := fun e => by
  have h2 : (R.map Prod.fst)[i]? = some p.1 := by rw [List.getElem?_map, hi]; rfl
  have h3 : (R.map Prod.fst)[j]? = some p.1 := by rw [List.getElem?_map, hj, e]; rfl
  have hil : i < (R.map Prod.fst).length := (List.getElem?_eq_some_iff.1 h2).1
  exact hij ((List.getElem?_inj hil h.nd).1 (h2.trans h3.symm))
theorem Rw.below (h : Rw w0 w R) (hb : Below w.heap.size w w') : Rw w0 w' R :=
  ⟨h.bl.trans (hb.mono h.bl.size), fun p hp => (hb.block p.1 (lt_of_block (h.all p hp))).trans (h.all p hp), h.ge, h.nd⟩
theorem Rw.drewN (h : Rw w0 w R) (n : Nat) : Rw w0 (w.drewN n) R := ⟨below_drewN h.bl n, h.all, h.ge, h.nd⟩
theorem Rw.drew (h : Rw w0 w R) : Rw w0 w.drew R := h.drewN 1
theorem Rw.alloc (h : Rw w0 w R) (o : Obj) : Rw w0 (w.alloc o) R := h.below ((Below.refl _ w).alloc (Nat.le_refl _) o)
theorem Rw.perm {R' : List (Nat × Obj)} (h : Rw w0 w R) (hp : R.Perm R') : Rw w0 w R' :=
  ⟨h.bl, fun p hp' => h.all p (hp.mem_iff.2 hp'), fun p hp' => h.ge p (hp.mem_iff.2 hp'), (hp.map Prod.fst).nodup_iff.1 h.nd⟩
theorem Rw.sub {R' : List (Nat × Obj)} (h : Rw w0 w R) (hs : R'.Sublist R) : Rw w0 w R' :=
  ⟨h.bl, fun p hp => h.all p (hs.subset hp), fun p hp => h.ge p (hs.subset hp), List.Nodup.sublist (hs.map Prod.fst) h.nd⟩
theorem Rw.cons' (h : Rw w0 w R) {k : Nat} {o : Obj} (hne : ∀ p ∈ R, p.1 ≠ k) (hge : w0.heap.size ≤ k) (ho : w.heap[k]? = some o) : Rw w0 w ((k, o) :: R) := by
  refine ⟨h.bl, fun p hp => ?_, fun p hp => ?_, ?_⟩
  · rcases List.mem_cons.1 hp with rfl | hp
    · exact ho
    · exact h.all p hp
  · rcases List.mem_cons.1 hp with rfl | hp
    · exact hge
    · exact h.ge p hp
  · rw [List.map_cons, List.nodup_cons]
    refine ⟨fun hm => ?_, h.nd⟩
    obtain ⟨p, hp, he⟩ := List.mem_map.1 hm
    exact hne p hp he
/-- a new block, made by what changes nothing that was -/
theorem Rw.new (h : Rw w0 w R) (hb : Below w.heap.size w w') {k : Nat} {o : Obj} (hk : w.heap.size ≤ k) (ho : w'.heap[k]? = some o) : Rw w0 w' ((k, o) :: R) :=
  (h.below hb).cons' (fun p hp e => by have := lt_of_block (h.all p hp); omega) (Nat.le_trans h.bl.size hk) ho
theorem Rw.made (h : Rw w0 w R) (o : Obj) : Rw w0 (w.alloc o) ((w.heap.size, o) :: R) := h.new ((Below.refl _ w).alloc (Nat.le_refl _) o) (Nat.le_refl _) (heap_alloc_new w o)
/-- rows that a call made, beside those that were -/
theorem Rw.join {Q : List (Nat × Obj)} (h : Rw w0 w R) (k : Rw w w' Q) : Rw w0 w' (R ++ Q) := by
  have h2 := h.below k.bl
  refine ⟨h2.bl, fun p hp => ?_, fun p hp => ?_, ?_⟩
  · rcases List.mem_append.1 hp with hp | hp
    · exact h2.all p hp
    · exact k.all p hp
  · rcases List.mem_append.1 hp with hp | hp
    · exact h.ge p hp
    · have := k.ge p hp; have := h.bl.size; omega
  · rw [List.map_append, List.nodup_append]
    refine ⟨h.nd, k.nd, fun a ha b hb e => ?_⟩
    obtain ⟨p, hp, rfl⟩ := List.mem_map.1 ha
    obtain ⟨q, hq, rfl⟩ := List.mem_map.1 hb
    have h3 := lt_of_block (h.all p hp)
    have h4 := k.ge q hq
    omega
/-- one of them is changed -/
theorem Rw.upd (h : Rw w0 w R) (i : Nat) {k : Nat} {o o' : Obj} (hi : R[i]? = some (k, o)) (hw : Only [k] w w') (ho : w'.heap[k]? = some o') : Rw w0 w' (R.set i (k, o')) := by
  have hil : i < R.length := (List.getElem?_eq_some_iff.1 hi).1
  have hmap : (R.set i (k, o')).map Prod.fst = R.map Prod.fst := by
    apply List.ext_getElem?
    intro j
    rw [List.getElem?_map, List.getElem?_map, List.getElem?_set]
    by_cases hij : i = j
    · subst hij; rw [if_pos rfl, if_pos hil, hi]; rfl
    · rw [if_neg hij]
  have hkg := h.geq i hi
  refine ⟨h.bl.trans (hw.below h.bl.size (by simpa using hkg)), fun p hp => ?_, fun p hp => ?_, by rw [hmap]; exact h.nd⟩
  · obtain ⟨j, hj⟩ := List.mem_iff_getElem?.1 hp
    rw [List.getElem?_set] at hj
    by_cases hij : i = j
    · subst hij; rw [if_pos rfl, if_pos hil] at hj
      injection hj with hj; subst hj; exact ho
    · rw [if_neg hij] at hj
      have h1 := h.get j hj
      refine (hw.blk p.1 (lt_of_block h1) ?_).trans h1
      simp only [List.mem_singleton]
      exact fun e => h.ne i j hi hj hij e.symm
  · obtain ⟨j, hj⟩ := List.mem_iff_getElem?.1 hp
    rw [List.getElem?_set] at hj
    by_cases hij : i = j
    · subst hij; rw [if_pos rfl, if_pos hil] at hj
      injection hj with hj; subst hj; exact hkg
    · rw [if_neg hij] at hj
      exact h.ge p (List.mem_of_getElem? hj)
theorem Rw.store (h : Rw w0 w R) (i : Nat) {k : Nat} {cs : Array Value} {t : TypeId} (hi : R[i]? = some (k, .cells cs t (0, 0))) (j : Nat) (u : Value) : Rw w0 (w.setCell ⟨k, j, none⟩ u) (R.set i (k, .cells (cs.setIfInBounds j u) t (0, 0))) :=
  h.upd i hi ((Only.refl [k] w).setCell (by simp) u) (heap_setCell_same w k j cs t u (h.get i hi))
/-- what a growing append leaves of the rows -/
theorem Rw.appQ {t : TypeId} {sz n : Nat} {vs vs1 : List Value} {v v1 : Value} {P Q T : List (Nat × Obj)} (h : Rw w0 w (P ++ (Q ++ T))) (hQ : QV t sz v n vs Q)
    {n1 : Nat} (hn1 : 0 < n1) (ho : w'.ownsRow 0 t sz v1 n1 vs1) (hg : w.grownBy w' v.ownBlock) (hat : v1.ownBlock = v.ownBlock ∨ v1.ownBlock = some w.heap.size) : ∃ Q1, QV t sz v1 n1 vs1 Q1 ∧ Rw w0 w' (P ++ (Q1 ++ T)) := by
  obtain ⟨k1, c1, o1, rfl, hk1, hr1⟩ := RowZ.of ho hn1
  refine ⟨[(k1, o1)], .inr ⟨k1, c1, o1, rfl, rfl, hr1⟩, ?_⟩
  have fresh : ∀ w2 : World, w2 = w' → ∀ R', Rw w0 w' R' → (∀ p ∈ R', p.1 < w.heap.size) → k1 = w.heap.size → R' = P ++ T → Rw w0 w' (P ++ ([(k1, o1)] ++ T)) := by
    rintro _ _ R' hS hlt hk rfl
    refine (hS.cons' (k := k1) (o := o1) (fun p hp e => by have := hlt p hp; omega) (by have := h.bl.size; omega) hk1).perm ?_
    exact List.perm_middle.symm
  rcases hQ with ⟨rfl, rfl, rfl, rfl⟩ | ⟨k, c, o, rfl, rfl, hr⟩
  · have hk : k1 = w.heap.size := by
      rcases hat with h1 | h1
      · simp [Value.ownBlock] at h1
      · simpa [Value.ownBlock] using h1
    have hb : Below w.heap.size w w' := ⟨hg.os, hg.tape, hg.output, hg.size, fun i hi => hg.block i hi (by simp [Value.ownBlock])⟩
    refine fresh w' rfl _ (h.below hb) (fun p hp => lt_of_block (h.all p hp)) hk (by simp)
  · have hkl : k < w.heap.size := lt_of_block (h.all (k, o) (by simp))
    have hO : Only [k] w w' := ⟨hg.os, hg.tape, hg.output, hg.size, fun i hi hn => hg.block i hi (by simp [Value.ownBlock]; simpa using fun e => hn (by simp [e]))⟩
    have hidx : (P ++ ([(k, o)] ++ T))[P.length]? = some (k, o) := by rw [List.getElem?_append_right (Nat.le_refl _), Nat.sub_self]; rfl
    have hset : ∀ o' : Obj, (P ++ ([(k, o)] ++ T)).set P.length (k, o') = P ++ ([(k, o')] ++ T) := fun o' => by
      rw [List.set_append_right _ _ (Nat.le_refl _), Nat.sub_self]; rfl
    have hw' : k < w'.heap.size := Nat.lt_of_lt_of_le hkl hg.size
    rcases hat with h1 | h1
    · have hkk : k1 = k := by simpa [Value.ownBlock] using h1
      subst hkk
      have h2 := h.upd P.length hidx hO hk1
      rwa [hset] at h2
    · have hkk : k1 = w.heap.size := by simpa [Value.ownBlock] using h1
      have h2 := h.upd P.length hidx hO (o' := w'.heap[k]) (by rw [Array.getElem?_eq_getElem hw'])
      rw [hset] at h2
      have h3 := h2.sub (R' := P ++ T) (List.Sublist.append (List.Sublist.refl _) (List.sublist_cons_self _ _))
      refine fresh w' rfl _ h3 (fun p hp => ?_) hkk rfl
      rcases List.mem_append.1 hp with hp | hp
      · exact lt_of_block (h.all p (by simp [hp]))
      · exact lt_of_block (h.all p (by simp [hp]))
end
/-- append(v, e..): m elements that lie in a box x -/
theorem Rw.run_appQm {w0 W : World} {tS t : TypeId} {i0 : TypeInfo} {z : Value} {sz bytes : Nat} (ht : Try.prog.underlying tS = some (.slice t)) (hi : Try.prog.info? t = some i0) (hz0 : i0.zero = some z) (hz1 : i0.size = sz) (hz2 : i0.bytes = bytes) (hzs : z.cells.size = sz) (hsz : 0 < sz) (ty : TypeId) (m : Nat) (hm : 0 < m)
    {v : Value} {n : Nat} {vs : List Value} {P Q T : List (Nat × Obj)} (hS : Rw w0 W (P ++ (Q ++ T))) (hQ : QV t sz v n vs Q) (news : List Value) (hnl : news.length = m * sz) (h1 : ∀ u ∈ news, u.oneCell' = true) (hlim : (n + m) * bytes ≤ 140737488355328) (hmax : n + m ≤ maxLen)
    (x : Nat) (hx : W.heap[x]? = some (.cells news.toArray t (0, 0))) :
    ∃ v1 w1 Q1, (Builtin.append_ #[tS, tS] ty #[v, .slice (some ⟨x, 0, none⟩) m m]).run Try.prog W = .ok v1 w1 ∧ QV t sz v1 (n + m) (vs ++ news) Q1 ∧ Rw w0 w1 (P ++ (Q1 ++ T)) := by
  obtain ⟨v1, w1, hr, h3, h4, _, h5⟩ := run_append_own_at (P := Try.prog) W 0 tS ty t i0 z sz bytes ht hi hz0 hz1 hz2 hzs hsz v n vs (hQ.owns (fun p hp => hS.all p (by simp [hp]))) ⟨x, 0, none⟩ m m news hnl (fun j u hu => by
    rw [Addr.add_mid, Nat.zero_add, cell_of_row _ _ _ _ _ _ hx]
    simpa using hu) h1 hmax hlim (Nat.zero_le _)
  obtain ⟨Q1, hq, hSt⟩ := hS.appQ hQ (by omega) h3 h4 h5
  exact ⟨v1, w1, Q1, hr, hq, hSt⟩
/-- append(v, e): one element that lies in a box x -/
theorem Rw.run_appQ {w0 W : World} {tS t : TypeId} {i0 : TypeInfo} {z : Value} {sz bytes : Nat} (ht : Try.prog.underlying tS = some (.slice t)) (hi : Try.prog.info? t = some i0) (hz0 : i0.zero = some z) (hz1 : i0.size = sz) (hz2 : i0.bytes = bytes) (hzs : z.cells.size = sz) (hsz : 0 < sz) (ty : TypeId)
    {v : Value} {n : Nat} {vs : List Value} {P Q T : List (Nat × Obj)} (hS : Rw w0 W (P ++ (Q ++ T))) (hQ : QV t sz v n vs Q) (news : List Value) (hnl : news.length = sz) (h1 : ∀ u ∈ news, u.oneCell' = true) (hlim : (n + 1) * bytes ≤ 140737488355328) (hmax : n + 1 ≤ maxLen)
    (x : Nat) (hx : W.heap[x]? = some (.cells news.toArray t (0, 0))) :
    ∃ v1 w1 Q1, (Builtin.append_ #[tS, tS] ty #[v, .slice (some ⟨x, 0, none⟩) 1 1]).run Try.prog W = .ok v1 w1 ∧ QV t sz v1 (n + 1) (vs ++ news) Q1 ∧ Rw w0 w1 (P ++ (Q1 ++ T)) :=
  Rw.run_appQm ht hi hz0 hz1 hz2 hzs hsz ty 1 (by decide) hS hQ news (by omega) h1 hlim hmax x hx
section
variable {ops : Array Oper} {rest : List Oper} {o : Oper} {a : Act} {Q' : Exit → Act → World → Prop}
/-- an append whose run is told, as a step of a plain region -/
theorem wpl_app {W w1 : World} {v1 v y : Value} {ts : Array TypeId} (s x : Operand) (hgd : o.guard = none) (ho : o.op = .call { callee := .builtin .append, args := #[s, x], argTypes := ts }) (hs : a.eval s = v) (hx : a.eval x = y)
    (hr : (Builtin.append_ ts o.type #[v, y]).run Try.prog W = .ok v1 w1) (h : wpList Try.prog ops Q' rest (a.put o.dst v1) w1) : wpList Try.prog ops Q' (o :: rest) a W := by
  refine wpList_plain hgd fun K hK => ?_
  unfold Oper.wp execOp
  simp only [ho, resolve, invoke, builtin, Sem.run_bind, Sem.run_pure, Result.andThen_ok, List.map_toArray, List.map_cons, List.map_nil, hs, hx, hr]
  exact hK _ _ h
/-- the same as a step of a region that draws -/
theorem step_app1 {K : Act → World → Prop} {E : Prop} {W w1 : World} {v1 v y : Value} {ts : Array TypeId} (s x : Operand) (hgd : o.guard = none) (ho : o.op = .call { callee := .builtin .append, args := #[s, x], argTypes := ts }) (hs : a.eval s = v) (hx : a.eval x = y)
    (hr : (Builtin.append_ ts o.type #[v, y]).run Try.prog W = .ok v1 w1) (h : K (a.put o.dst v1) w1) :
    if Region.wanted o (yielded ops a.tmps) = true then Oper.wp Try.prog o a W K Q' else E := by
  have hw : Region.wanted o (yielded ops a.tmps) = true := by simp [Region.wanted, hgd]
  rw [if_pos hw]
  unfold Oper.wp execOp
  simp only [ho, resolve, invoke, builtin, Sem.run_bind, Sem.run_pure, Result.andThen_ok, List.map_toArray, List.map_cons, List.map_nil, hs, hx, hr]
  exact h
end
end Go.Proofs.Ytlandlgjhnnaiaa
