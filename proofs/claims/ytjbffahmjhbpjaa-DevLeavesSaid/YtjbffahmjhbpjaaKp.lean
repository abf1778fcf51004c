/- Words on memory: a frame of rows, each in a block of its own, beside the device's. -/
import Derived.Test.YtjbffahmjhbpjaaDvc
set_option linter.unusedVariables false
set_option linter.unusedSimpArgs false
namespace Go.Proofs.Ytjbffahmjhbpjaa
open Go.RowKit
/-- The blocks of R lie there, apart from one another and from those of S. -/
structure Kp (w : World) (S : List Nat) (R : List (Nat × Obj)) : Prop where
  all : ∀ p ∈ R, w.heap[p.1]? = some p.2
  out : ∀ p ∈ R, p.1 ∉ S
  nd : (R.map Prod.fst).Nodup
theorem Kp.nil (w : World) (S : List Nat) : Kp w S [] := ⟨by simp, by simp, by simp⟩
section
variable {w w' : World} {S S' : List Nat} {R : List (Nat × Obj)}
theorem Kp.get (h : Kp w S R) (i : Nat) {p : Nat × Obj} (hi : R[i]? = some p) : w.heap[p.1]? = some p.2 := h.all p (List.mem_of_getElem? hi)
theorem Kp.apart (h : Kp w S R) (i : Nat) {p : Nat × Obj} (hi : R[i]? = some p) : p.1 ∉ S := h.out p (List.mem_of_getElem? hi)
theorem Kp.lt (h : Kp w S R) (i : Nat) {p : Nat × Obj} (hi : R[i]? = some p) : p.1 < w.heap.size := lt_of_block (h.get i hi)
theorem Kp.fr (h : Kp w S R) (f : Fr S S' w w') : Kp w' S' R :=
  ⟨fun p hp => (f.only.blk p.1 (lt_of_block (h.all p hp)) (h.out p hp)).trans (h.all p hp), fun p hp => (f.apart (lt_of_block (h.all p hp)) (h.out p hp)).2, h.nd⟩
theorem Kp.below (h : Kp w S R) (hb : Below w.heap.size w w') : Kp w' S R := h.fr (Fr.below S hb)
theorem Kp.drewN (h : Kp w S R) (n : Nat) : Kp (w.drewN n) S R := h.fr ((Fr.refl S w).drew n)
/-- a new block beside them -/
theorem Kp.add (h : Kp w S R) (f : Fr S S' w w') {k : Nat} {o : Obj} (hk : w.heap.size ≤ k) (hS : k ∉ S') (ho : w'.heap[k]? = some o) : Kp w' S' ((k, o) :: R) := by
  have h2 := h.fr f
  refine ⟨fun p hp => ?_, fun p hp => ?_, ?_⟩
  · rcases List.mem_cons.1 hp with rfl | hp
    · exact ho
    · exact h2.all p hp
  · rcases List.mem_cons.1 hp with rfl | hp
    · exact hS
    · exact h2.out p hp
  · rw [List.map_cons, List.nodup_cons]
    refine ⟨fun hm => ?_, h2.nd⟩
    obtain ⟨p, hp, he⟩ := List.mem_map.1 hm
    have := lt_of_block (h.all p hp)
    rw [he] at this
    have : k < w.heap.size := this
    omega
theorem Kp.new (h : Kp w S R) (hb : Below w.heap.size w w') {k : Nat} {o : Obj} (hk : w.heap.size ≤ k) (hS : ∀ s ∈ S, s < w.heap.size) (ho : w'.heap[k]? = some o) : Kp w' S ((k, o) :: R) :=
  h.add (Fr.below S hb) hk (fun hm => by have := hS k hm; omega) ho
/-- one of them is changed -/
theorem Kp.upd (h : Kp w S R) (i : Nat) {k : Nat} {o o' : Obj} (hi : R[i]? = some (k, o)) (hw : Only [k] w w') (ho : w'.heap[k]? = some o') : Kp w' S (R.set i (k, o')) := by
  have hil : i < R.length := (List.getElem?_eq_some_iff.1 hi).1
  have hmap : (R.set i (k, o')).map Prod.fst = R.map Prod.fst := by
    apply List.ext_getElem?
    intro j
    rw [List.getElem?_map, List.getElem?_map, List.getElem?_set]
    by_cases hij : i = j
    · subst hij; rw [if_pos rfl, if_pos hil, hi]; rfl
    · rw [if_neg hij]
  refine ⟨fun p hp => ?_, fun p hp => ?_, by rw [hmap]; exact h.nd⟩
  · obtain ⟨j, hj⟩ := List.mem_iff_getElem?.1 hp
    rw [List.getElem?_set] at hj
    by_cases hij : i = j
    · subst hij; rw [if_pos rfl, if_pos hil] at hj
      injection hj with hj; subst hj; exact ho
    · rw [if_neg hij] at hj
      have h1 := h.get j hj
      refine (hw.blk p.1 (lt_of_block h1) ?_).trans h1
      simp only [List.mem_singleton]
      intro e
      have h2 : (R.map Prod.fst)[i]? = some k := by rw [List.getElem?_map, hi]; rfl
      have h3 : (R.map Prod.fst)[j]? = some k := by rw [List.getElem?_map, hj, ← e]; rfl
      exact hij ((List.getElem?_inj (by simpa using hil) h.nd).1 (h2.trans h3.symm))
  · obtain ⟨j, hj⟩ := List.mem_iff_getElem?.1 hp
    rw [List.getElem?_set] at hj
    by_cases hij : i = j
    · subst hij; rw [if_pos rfl, if_pos hil] at hj
      injection hj with hj; subst hj; exact h.apart i (p := (k, o)) hi
    · rw [if_neg hij] at hj
      exact h.apart j hj
/-- what lies beside is as it was, where one of them is changed -/
theorem Kp.frK (h : Kp w S R) (i : Nat) {k : Nat} {o : Obj} (hi : R[i]? = some (k, o)) (hw : Only [k] w w') (hS : ∀ s ∈ S, s < w.heap.size) : ∀ s ∈ S, w'.heap[s]? = w.heap[s]? := fun s hs => hw.blk s (hS s hs) (by
  simp only [List.mem_singleton]
  intro e
  exact h.apart i hi (e ▸ hs))
end
/-! ### rows of bytes, rows of ints -/
def RowT (t : TypeId) (o : Obj) (n c : Nat) (vs : List Value) : Prop := ∃ cur : Array Value, o = .cells cur t (0, 0) ∧ vs.length = n ∧ n ≤ c ∧ c ≤ maxLen ∧ cur.size = c ∧ cur.toList.take n = vs
def RowB (o : Obj) (n c : Nat) (l : List UInt8) : Prop := RowT 5 o n c (bv l)
def RowN (o : Obj) (n c : Nat) (l : List Int) : Prop := RowT 3 o n c (iv_ l)
section
variable {w : World} {k n c base : Nat} {o : Obj}
theorem RowT.owns {t : TypeId} {vs : List Value} (h : RowT t o n c vs) (hk : w.heap[k]? = some o) (hb : base ≤ k) : w.ownsRow base t 1 (.slice (some ⟨k, 0, none⟩) n c) n vs := by
  obtain ⟨cur, rfl, h1, h2, h3, h4, h5⟩ := h
  exact ⟨by rw [h1, Nat.mul_one], .inr ⟨k, c, cur, rfl, hb, hk, h2, h3, by rw [h4, Nat.mul_one], by rw [Nat.mul_one]; exact h5⟩⟩
theorem RowT.of {t : TypeId} {vs : List Value} {v : Value} (h : w.ownsRow base t 1 v n vs) (hn : 0 < n) : ∃ k c o, v = .slice (some ⟨k, 0, none⟩) n c ∧ base ≤ k ∧ w.heap[k]? = some o ∧ RowT t o n c vs := by
  rcases h.2 with ⟨_, h0⟩ | ⟨g, cap, cur, rfl, hb, hh, h1, h2, h3, h4⟩
  · omega
  · exact ⟨g, cap, _, rfl, hb, hh, cur, rfl, by have := h.1; omega, h1, h2, by omega, by rwa [Nat.mul_one] at h4⟩
theorem RowB.own {l : List UInt8} (h : RowB o n c l) (hk : w.heap[k]? = some o) : Own w 0 (.slice (some ⟨k, 0, none⟩) n c) n l := RowT.owns h hk (Nat.zero_le _)
theorem RowN.own {l : List Int} (h : RowN o n c l) (hk : w.heap[k]? = some o) : OwnI w 0 (.slice (some ⟨k, 0, none⟩) n c) n l := RowT.owns h hk (Nat.zero_le _)
theorem Own.row_of {l : List UInt8} {v : Value} (h : Own w base v n l) (hn : 0 < n) : ∃ k c o, v = .slice (some ⟨k, 0, none⟩) n c ∧ base ≤ k ∧ w.heap[k]? = some o ∧ RowB o n c l := RowT.of h hn
theorem OwnI.row_of {l : List Int} {v : Value} (h : OwnI w base v n l) (hn : 0 < n) : ∃ k c o, v = .slice (some ⟨k, 0, none⟩) n c ∧ base ≤ k ∧ w.heap[k]? = some o ∧ RowN o n c l := RowT.of h hn
theorem RowT.cell {t : TypeId} {vs : List Value} (h : RowT t o n c vs) (hk : w.heap[k]? = some o) (j : Nat) (hj : j < n) : w.cell? ⟨k, j, none⟩ = vs[j]? := by
  have h2 := h
  obtain ⟨cur, _, h1, _⟩ := h2
  have := World.ownsRow.cellAt (h.owns hk (Nat.zero_le k)) j (by omega)
  exact this
theorem RowB.cell {l : List UInt8} (h : RowB o n c l) (hk : w.heap[k]? = some o) (j : Nat) (hj : j < n) : w.cell? ⟨k, j, none⟩ = some (.int .u8 ((l.getD j 0).toNat : Int)) := (h.own hk).cell j hj
theorem RowT.free {t : TypeId} {vs : List Value} (h : RowT t o n c vs) (hk : w.heap[k]? = some o) (j : Nat) : w.frozen? ⟨k, j, none⟩ = false := World.ownsRow.frozenAt (h.owns hk (Nat.zero_le k)) j
theorem RowT.store {t : TypeId} {vs : List Value} (h : RowT t o n c vs) (hk : w.heap[k]? = some o) (j : Nat) (u : Value) : ∃ o', (w.setCell ⟨k, j, none⟩ u).heap[k]? = some o' ∧ RowT t o' n c (vs.set j u) := by
  obtain ⟨cur, rfl, h1, h2, h3, h4, h5⟩ := h
  refine ⟨_, heap_setCell_same w k j cur t u hk, _, rfl, by simpa using h1, h2, h3, by simpa using h4, ?_⟩
  rw [Array.toList_setIfInBounds, ← h5, List.take_set]
theorem RowB.store {l : List UInt8} (h : RowB o n c l) (hk : w.heap[k]? = some o) (j : Nat) (x : UInt8) : ∃ o', (w.setCell ⟨k, j, none⟩ (.int .u8 (x.toNat : Int))).heap[k]? = some o' ∧ RowB o' n c (l.set j x) := by
  have := RowT.store h hk j (.int .u8 (x.toNat : Int))
  unfold RowB
  rwa [show bv (l.set j x) = (bv l).set j (.int .u8 (x.toNat : Int)) by simp [bv, List.map_set]]
theorem RowN.store {l : List Int} (h : RowN o n c l) (hk : w.heap[k]? = some o) (j : Nat) (x : Int) : ∃ o', (w.setCell ⟨k, j, none⟩ (.int .i64 x)).heap[k]? = some o' ∧ RowN o' n c (l.set j x) := by
  have := RowT.store h hk j (.int .i64 x)
  unfold RowN
  rwa [show iv_ (l.set j x) = (iv_ l).set j (.int .i64 x) by simp [iv_, List.map_set]]
theorem RowB.rd {l : List UInt8} (h : RowB o n c l) (hk : w.heap[k]? = some o) (hm : n ≤ 140737490452480) : Rd w (some ⟨k, 0, none⟩) n c l := by
  obtain ⟨A, c9, he, hr⟩ := (h.own hk).rd hm
  injection he with h1 h2 h3
  subst h1 h3
  exact hr
theorem RowB.len {l : List UInt8} (h : RowB o n c l) : l.length = n := by
  obtain ⟨_, _, h1, _⟩ := h
  rwa [bv_length] at h1
theorem RowB.cap {l : List UInt8} (h : RowB o n c l) : n ≤ c := by
  obtain ⟨_, _, _, h1, _⟩ := h
  exact h1
end
/-! ### a device, and rows beside it -/
structure St (w0 w : World) (b g : Nat) (vc : Value) (D : DS) (R : List (Nat × Obj)) : Prop where
  dv : IsV w b g vc D
  kp : Kp w (dvS b g vc) R
  bl : Below w0.heap.size w0 w
  sl : ∀ s ∈ dvS b g vc, w0.heap.size ≤ s
  rl : ∀ p ∈ R, w0.heap.size ≤ p.1
section
variable {w0 w w' : World} {b g : Nat} {vc vc' : Value} {D D' : DS} {R : List (Nat × Obj)}
theorem St.of (h : IsV w b g vc D) (hs : ∀ s ∈ dvS b g vc, w0.heap.size ≤ s) (hb : Below w0.heap.size w0 w) : St w0 w b g vc D [] := ⟨h, Kp.nil _ _, hb, hs, by simp⟩
theorem St.get (h : St w0 w b g vc D R) (i : Nat) {p : Nat × Obj} (hi : R[i]? = some p) : w.heap[p.1]? = some p.2 := h.kp.get i hi
theorem St.below (h : St w0 w b g vc D R) (hb : Below w.heap.size w w') : St w0 w' b g vc D R := ⟨h.dv.ext hb, h.kp.below hb, h.bl.trans (hb.mono h.bl.size), h.sl, h.rl⟩
theorem St.drewN (h : St w0 w b g vc D R) (n : Nat) : St w0 (w.drewN n) b g vc D R := ⟨h.dv.drewN n, h.kp.drewN n, below_drewN h.bl n, h.sl, h.rl⟩
theorem St.alloc (h : St w0 w b g vc D R) (o : Obj) : St w0 (w.alloc o) b g vc D R := h.below ((Below.refl _ w).alloc (Nat.le_refl _) o)
theorem St.fr (h : St w0 w b g vc D R) (hv : IsV w' b g vc' D') (f : Fr (dvS b g vc) (dvS b g vc') w w') : St w0 w' b g vc' D' R := by
  have h2 := f.toBelow h.bl.size h.sl
  exact ⟨hv, h.kp.fr f, h.bl.trans h2.1, h2.2, h.rl⟩
theorem St.addFr (h : St w0 w b g vc D R) (hv : IsV w' b g vc' D') (f : Fr (dvS b g vc) (dvS b g vc') w w') {k : Nat} {o : Obj} (hk : w.heap.size ≤ k) (hS : k ∉ dvS b g vc') (ho : w'.heap[k]? = some o) : St w0 w' b g vc' D' ((k, o) :: R) := by
  have h2 := f.toBelow h.bl.size h.sl
  refine ⟨hv, h.kp.add f hk hS ho, h.bl.trans h2.1, h2.2, fun p hp => ?_⟩
  rcases List.mem_cons.1 hp with rfl | hp
  · exact Nat.le_trans h.bl.size hk
  · exact h.rl p hp
theorem St.new (h : St w0 w b g vc D R) (hb : Below w.heap.size w w') {k : Nat} {o : Obj} (hk : w.heap.size ≤ k) (ho : w'.heap[k]? = some o) : St w0 w' b g vc D ((k, o) :: R) :=
  h.addFr (h.dv.ext hb) (Fr.below _ hb) hk (fun hm => by have := h.dv.lt k hm; omega) ho
theorem St.upd (h : St w0 w b g vc D R) (i : Nat) {k : Nat} {o o' : Obj} (hi : R[i]? = some (k, o)) (hw : Only [k] w w') (ho : w'.heap[k]? = some o') : St w0 w' b g vc D (R.set i (k, o')) := by
  have hap : k ∉ dvS b g vc := h.kp.apart i hi
  have hge : w0.heap.size ≤ k := h.rl (k, o) (List.mem_of_getElem? hi)
  refine ⟨h.dv.keep hw (fun s hs => by simp only [List.mem_singleton]; intro e; exact hap (e ▸ hs)), h.kp.upd i hi hw ho, h.bl.trans (hw.below h.bl.size (by simpa using hge)), h.sl, fun p hp => ?_⟩
  obtain ⟨j, hj⟩ := List.mem_iff_getElem?.1 hp
  rw [List.getElem?_set] at hj
  by_cases hij : i = j
  · subst hij
    rw [if_pos rfl, if_pos (List.getElem?_eq_some_iff.1 hi).1] at hj
    injection hj with hj; subst hj; exact hge
  · rw [if_neg hij] at hj
    exact h.rl p (List.mem_of_getElem? hj)
theorem St.grown (h : St w0 w b g vc D R) (i : Nat) {k : Nat} {o o' : Obj} (hi : R[i]? = some (k, o)) (hg : w.grownBy w' (some k)) (ho : w'.heap[k]? = some o') : St w0 w' b g vc D (R.set i (k, o')) :=
  h.upd i hi ⟨hg.os, hg.tape, hg.output, hg.size, fun j hj hn => hg.block j hj (fun e => hn (by injection e with e; simp [e]))⟩ ho
theorem St.store (h : St w0 w b g vc D R) (i j : Nat) {k : Nat} {o o' : Obj} (u : Value) (hi : R[i]? = some (k, o)) (ho : (w.setCell ⟨k, j, none⟩ u).heap[k]? = some o') : St w0 (w.setCell ⟨k, j, none⟩ u) b g vc D (R.set i (k, o')) :=
  h.upd i hi ((Only.refl [k] w).setCell (by simp) u) ho
theorem St.back {x : Nat × Obj} (h : St w0 w b g vc D (x :: R)) : St w0 w b g vc D (R ++ [x]) := by
  have hp : (R ++ [x]).Perm (x :: R) := List.perm_append_comm
  exact ⟨h.dv, ⟨fun p hp' => h.kp.all p (hp.mem_iff.1 hp'), fun p hp' => h.kp.out p (hp.mem_iff.1 hp'), (hp.map Prod.fst).nodup_iff.2 h.kp.nd⟩, h.bl, h.sl, fun p hp' => h.rl p (hp.mem_iff.1 hp')⟩
/-- some of the rows -/
theorem St.sub {R' : List (Nat × Obj)} (h : St w0 w b g vc D R) (hs : R'.Sublist R) : St w0 w b g vc D R' :=
  ⟨h.dv, ⟨fun p hp => h.kp.all p (hs.subset hp), fun p hp => h.kp.out p (hs.subset hp), (hs.map Prod.fst).nodup h.kp.nd⟩, h.bl, h.sl, fun p hp => h.rl p (hs.subset hp)⟩
theorem St.mem (h : St w0 w b g vc D R) {k : Nat} {o : Obj} (hm : (k, o) ∈ R) : w.heap[k]? = some o := h.kp.all _ hm
theorem St.hx (h : St w0 w b g vc D R) (i : Nat) {k : Nat} {o : Obj} (hi : R[i]? = some (k, o)) {j m : Nat} : 0 < m → ∀ p, (some ⟨k, j, none⟩ : Option Addr) = some p → p.block ∉ dvS b g vc := fun _ p hp hm => by
  injection hp with hp
  subst hp
  exact h.kp.apart i hi hm
end
/-! ### the device's calls over such a state: what a row of bytes reads -/
theorem St.rd {w0 w : World} {b g : Nat} {vc : Value} {D : DS} {R : List (Nat × Obj)} (h : St w0 w b g vc D R) (i : Nat) {k n c : Nat} {o : Obj} {l : List UInt8} (hi : R[i]? = some (k, o)) (hr : RowB o n c l) (hm : n ≤ 140737490452480) : Rd w (some ⟨k, 0, none⟩) n c l := hr.rd (h.get i hi) hm
theorem St.cell {w0 w : World} {b g : Nat} {vc : Value} {D : DS} {R : List (Nat × Obj)} (h : St w0 w b g vc D R) (i : Nat) {k n c : Nat} {o : Obj} {l : List UInt8} (hi : R[i]? = some (k, o)) (hr : RowB o n c l) (j : Nat) (hj : j < n) : w.cell? ⟨k, j, none⟩ = some (.int .u8 ((l.getD j 0).toNat : Int)) := hr.cell (h.get i hi) j hj
theorem St.newB {w0 w w' : World} {b g : Nat} {vc : Value} {D : DS} {R : List (Nat × Obj)} {n : Nat} {u : Value} {l : List UInt8} (h : St w0 w b g vc D R) (hO : Own w' w.heap.size u n l) (hb : Below w.heap.size w w') (hn : 0 < n) : ∃ k c o, u = .slice (some ⟨k, 0, none⟩) n c ∧ RowB o n c l ∧ St w0 w' b g vc D ((k, o) :: R) := by
  obtain ⟨k, c, o, e, hk, ho, hr⟩ := hO.row_of hn
  exact ⟨k, c, o, e, hr, h.new hb hk ho⟩
theorem St.newN {w0 w w' : World} {b g : Nat} {vc : Value} {D : DS} {R : List (Nat × Obj)} {n : Nat} {u : Value} {l : List Int} (h : St w0 w b g vc D R) (hO : OwnI w' w.heap.size u n l) (hb : Below w.heap.size w w') (hn : 0 < n) : ∃ k c o, u = .slice (some ⟨k, 0, none⟩) n c ∧ RowN o n c l ∧ St w0 w' b g vc D ((k, o) :: R) := by
  obtain ⟨k, c, o, e, hk, ho, hr⟩ := hO.row_of hn
  exact ⟨k, c, o, e, hr, h.new hb hk ho⟩
end Go.Proofs.Ytjbffahmjhbpjaa
