/- Words for the reference's writer: its memory, what a call on it leaves; append as one step of a region that draws its order. -/
import Derived.Test.YtclafljkeaekfaaPk2
import Derived.Deep.RegionLaw
set_option linter.unusedVariables false
set_option linter.unusedSimpArgs false
namespace Go.Proofs.Ytclafljkeaekfaa
open Go.RowKit
/-- a writer: its struct in block b, what is written in a block of its own (value v), from base on -/
structure IsX (w : World) (b base lim : Nat) (L : List UInt8) (v : Value) (e : Int) : Prop where
  st : w.heap[b]? = some (.cells #[v, .int .i64 lim, .int .i64 e] 85 (0, 0))
  own : Own w base v L.length L
  lt : b < base
  le : base ≤ w.heap.size
  small : L.length ≤ lim
  most : lim ≤ 1048576
section
variable {w : World} {b base lim : Nat} {L : List UInt8} {v : Value} {e : Int}
theorem IsX.cell (h : IsX w b base lim L v e) (j : Nat) : w.cell? ⟨b, j, none⟩ = #[v, .int .i64 lim, .int .i64 e][j]? := by rw [cell_of_row _ _ _ _ _ _ h.st]
theorem IsX.c0 (h : IsX w b base lim L v e) : w.cell? ⟨b, 0, none⟩ = some v := h.cell 0
theorem IsX.c1 (h : IsX w b base lim L v e) : w.cell? ⟨b, 1, none⟩ = some (.int .i64 lim) := h.cell 1
theorem IsX.c2 (h : IsX w b base lim L v e) : w.cell? ⟨b, 2, none⟩ = some (.int .i64 e) := h.cell 2
theorem IsX.fz (h : IsX w b base lim L v e) (j : Nat) : w.frozen? ⟨b, j, none⟩ = false := frozen_of_row w _ _ _ _ h.st
theorem IsX.slice (h : IsX w b base lim L v e) : ∃ A c, v = .slice A L.length c := by
  rcases h.own.2 with ⟨rfl, h0⟩ | ⟨g, cap, cur, rfl, _⟩
  · rw [h0]; exact ⟨none, 0, rfl⟩
  · exact ⟨_, cap, rfl⟩
theorem IsX.keep {w' : World} {S : List Nat} (h : IsX w b base lim L v e) (hw : Only S w w') (hb : b ∉ S) (hs : ∀ k, v.ownBlock = some k → k ∉ S) : IsX w' b base lim L v e :=
  ⟨(hw.blk b (lt_of_block h.st) hb).trans h.st, h.own.keep hw hs, h.lt, Nat.le_trans h.le hw.size, h.small, h.most⟩
theorem IsX.ext {w' : World} (h : IsX w b base lim L v e) (hw : Below w.heap.size w w') : IsX w' b base lim L v e := h.keep (Only.of_below [] hw) (by simp) (by simp)
theorem IsX.drew (h : IsX w b base lim L v e) (k : Nat) : IsX (w.drewN k) b base lim L v e := ⟨h.st, h.own, h.lt, h.le, h.small, h.most⟩
theorem IsX.setErr (h : IsX w b base lim L v e) (e2 : Int) : IsX (w.setCell ⟨b, 2, none⟩ (.int .i64 e2)) b base lim L v e2 := by
  have hne : ∀ k, v.ownBlock = some k → k ≠ b := fun k hk => by have := (h.own.blk k hk).1; have := h.lt; omega
  refine ⟨?_, ?_, h.lt, by simpa using h.le, h.small, h.most⟩
  · rw [heap_setCell_same _ b 2 _ _ _ h.st]; simp
  · exact h.own.keep (S := [b]) ((Only.refl [b] w).setCell (by simp) _) (fun k hk => by simpa using hne k hk)
/-- the writer's slice made longer: v1 in a world w1, stored -/
theorem IsX.longer {w1 : World} {v1 : Value} {L1 : List UInt8} (h : IsX w b base lim L v e) (hO : Only (b :: v.ownBlock.toList) w w1) (hb : w1.heap[b]? = some (.cells #[v, .int .i64 lim, .int .i64 e] 85 (0, 0))) (h1 : Own w1 base v1 L1.length L1) (hl : L1.length ≤ lim) :
    IsX (w1.setCell ⟨b, 0, none⟩ v1) b base lim L1 v1 e := by
  have hne : ∀ k, v1.ownBlock = some k → k ≠ b := fun k hk => by have := (h1.blk k hk).1; have := h.lt; omega
  refine ⟨?_, ?_, h.lt, by have := h.le; have := hO.size; simp; omega, hl, h.most⟩
  · rw [heap_setCell_same _ b 0 _ _ _ hb]; simp
  · exact h1.keep (S := [b]) ((Only.refl [b] w1).setCell (by simp) _) (fun k hk => by simpa using hne k hk)
end
/-- behind a call on a writer -/
def XPost (w : World) (b base lim : Nat) (v : Value) (L' : List UInt8) (e' : Int) (w' : World) : Prop :=
  ∃ v', IsX w' b base lim L' v' e' ∧ Only (b :: v.ownBlock.toList) w w' ∧ (v'.ownBlock = v.ownBlock ∨ Blk v' w.heap.size w'.heap.size)
theorem XPost.same {w w' : World} {b base lim : Nat} {L : List UInt8} {v : Value} {e : Int} (h : IsX w b base lim L v e) (hO : Only [] w w') : XPost w b base lim v L e w' :=
  ⟨v, h.keep hO (by simp) (by simp), hO.mono (by simp), .inl rfl⟩
/-- first new memory, then the writer's call -/
theorem XPost.after {w w1 w' : World} {b base lim : Nat} {L' : List UInt8} {v : Value} {e' : Int} (hB : Below w.heap.size w w1) (h : XPost w1 b base lim v L' e' w') : XPost w b base lim v L' e' w' := by
  obtain ⟨v', h1, h2, h3⟩ := h
  refine ⟨v', h1, ((Only.of_below _ hB).trans h2), ?_⟩
  rcases h3 with h3 | h3
  · exact .inl h3
  · exact .inr (h3.mono hB.size (Nat.le_refl _))
theorem XPost.drewn {w w' : World} {k b base lim : Nat} {L' : List UInt8} {v : Value} {e' : Int} (h : XPost (w.drewN k) b base lim v L' e' w') : XPost w b base lim v L' e' w' := by
  obtain ⟨v', h1, h2, h3⟩ := h
  exact ⟨v', h1, ((Only.refl _ w).drewN k).trans h2, h3⟩
/-- first a cell of the writer's struct -/
theorem XPost.from {w w1 w' : World} {b base lim : Nat} {L' : List UInt8} {v : Value} {e' : Int} (hB : Only [b] w w1) (h : XPost w1 b base lim v L' e' w') : XPost w b base lim v L' e' w' := by
  obtain ⟨v', h1, h2, h3⟩ := h
  refine ⟨v', h1, (hB.mono (by simp)).trans h2, ?_⟩
  rcases h3 with h3 | h3
  · exact .inl h3
  · exact .inr (h3.mono hB.size (Nat.le_refl _))
/-- a writer's slice made longer twice, not stored yet -/
structure XStep (w w2 : World) (b base lim n2 : Nat) (v v2 : Value) (e : Int) (L2 : List UInt8) : Prop where
  st : w2.heap[b]? = some (.cells #[v, .int .i64 lim, .int .i64 e] 85 (0, 0))
  own : Own w2 base v2 n2 L2
  only : Only (b :: v.ownBlock.toList) w w2
  at_ : v2.ownBlock = v.ownBlock ∨ Blk v2 w.heap.size w2.heap.size
theorem XStep.one {w w1 : World} {b base lim n1 : Nat} {v v1 : Value} {e : Int} {L L1 : List UInt8} (o : Obj) (h : IsX w b base lim L v e) (h1 : Own w1 base v1 n1 L1) (g1 : (w.drew.alloc o).grownBy w1 v.ownBlock)
    (a1 : v1.ownBlock = v.ownBlock ∨ Blk v1 (w.drew.alloc o).heap.size w1.heap.size) : XStep w w1 b base lim n1 v v1 e L1 := by
  have h0 := h.own
  have o1 : Only (v.ownBlock.toList) w w1 := (((Only.refl _ w).drew).alloc o).grown g1 (fun k hk => .inl (by simp [hk]))
  refine ⟨?_, h1, o1.mono (fun k hk => List.mem_cons_of_mem _ hk), ?_⟩
  · refine (o1.blk b (lt_of_block h.st) ?_).trans h.st
    intro hm
    simp at hm
    have := (h0.blk b hm).1
    have := h.lt
    omega
  · rcases a1 with a1 | a1
    · exact .inl a1
    · exact .inr (a1.mono (by simp) (Nat.le_refl _))
theorem XStep.fz {w w2 : World} {b base lim n2 : Nat} {v v2 : Value} {e : Int} {L2 : List UInt8} (h : XStep w w2 b base lim n2 v v2 e L2) : w2.frozen? ⟨b, 0, none⟩ = false := frozen_of_row w2 _ _ _ _ h.st
theorem XStep.cc {w w2 : World} {b base lim n2 : Nat} {v v2 : Value} {e : Int} {L2 : List UInt8} (h : XStep w w2 b base lim n2 v v2 e L2) : w2.cell? ⟨b, 0, none⟩ = some v := by rw [cell_of_row _ _ _ _ _ _ h.st]; rfl
theorem XStep.post {w w2 : World} {b base lim n2 : Nat} {v v2 : Value} {e : Int} {L L2 : List UInt8} (h : XStep w w2 b base lim n2 v v2 e L2) (hw : IsX w b base lim L v e) (hl : L2.length ≤ lim) : XPost w b base lim v L2 e (w2.setCell ⟨b, 0, none⟩ v2) := by
  have hn := h.own.len
  subst hn
  refine ⟨v2, hw.longer h.only h.st h.own hl, h.only.setCell (by simp) _, ?_⟩
  rcases h.at_ with h1 | h1
  · exact .inl h1
  · exact .inr (by simpa using h1)
theorem Only.andThen {S S' : List Nat} {a w w' : World} (h : Only S a w) (h' : Only S' w w') (hs : ∀ k ∈ S', k ∈ S ∨ a.heap.size ≤ k) : Only S a w' :=
  ⟨h'.os.trans h.os, h'.tape.trans h.tape, h'.output.trans h.output, Nat.le_trans h.size h'.size, fun k hk hks => (h'.blk k (Nat.lt_of_lt_of_le hk h.size) (fun hm => (hs k hm).elim hks (fun h9 => by omega))).trans (h.blk k hk hks)⟩
/-- one call behind another -/
theorem XPost.step {w w1 w2 : World} {b base lim : Nat} {v v1 : Value} {L2 : List UInt8} {e2 : Int} (hO : Only (b :: v.ownBlock.toList) w w1) (hA : v1.ownBlock = v.ownBlock ∨ Blk v1 w.heap.size w1.heap.size) (h2 : XPost w1 b base lim v1 L2 e2 w2) : XPost w b base lim v L2 e2 w2 := by
  obtain ⟨v2, hI, hO2, hA2⟩ := h2
  refine ⟨v2, hI, hO.andThen hO2 ?_, ?_⟩
  · intro k hk
    rcases List.mem_cons.1 hk with rfl | hk
    · exact .inl (by simp)
    · rcases hA with hA | hA
      · exact .inl (by rw [hA] at hk; exact List.mem_cons_of_mem _ hk)
      · exact .inr (hA k (by simpa using hk)).1
  · rcases hA2 with hA2 | hA2
    · rcases hA with hA | hA
      · exact .inl (hA2.trans hA)
      · exact .inr fun k hk => by
          rw [hA2] at hk
          have := hA k hk; have := hO2.size; omega
    · exact .inr (hA2.mono hO.size (Nat.le_refl _))
section
variable {ops : Array Oper} {rest : List Oper} {o : Oper} {a : Act} {Q : Exit → Act → World → Prop}
theorem step_appB {W : World} {K : Act → World → Prop} {E : Prop} (base : Nat) {v : Value} {n : Nat} {xs ys : List UInt8} {A : Option Addr} {m c : Nat} (HO : Own W base v n xs) (HR : Rd W A m c ys) (hbase : base ≤ W.heap.size) (hl : n + m ≤ 140737490452480) (sl x : Operand) (hgd : o.guard = none)
    (ho : o.op = .call { callee := .builtin .append, args := #[sl, x], argTypes := #[28, 28] }) (hs : a.eval sl = v) (hx : a.eval x = .slice A m c)
    (h : ∀ v1 w1, Own w1 base v1 (n + m) (xs ++ ys) → W.grownBy w1 v.ownBlock → (v1.ownBlock = v.ownBlock ∨ Blk v1 W.heap.size w1.heap.size) → K (a.put o.dst v1) w1) :
    if Region.wanted o (yielded ops a.tmps) = true then Oper.wp Try.prog o a W K Q else E := by
  have hw : Region.wanted o (yielded ops a.tmps) = true := by simp [Region.wanted, hgd]
  rw [if_pos hw]
  obtain ⟨v1, w1, hr, hown, hg, hat⟩ := run_app base o.type HO HR hbase hl
  unfold Oper.wp execOp
  simp only [ho, resolve, invoke, builtin, Sem.run_bind, Sem.run_pure, Result.andThen_ok, List.map_toArray, List.map_cons, List.map_nil, hs, hx, hr]
  refine h v1 w1 hown hg ?_
  rcases hat with h1 | h1
  · exact .inl h1
  · exact .inr fun k hk => by
      have := (World.ownsRow.lt hown) k hk
      rw [h1] at hk
      injection hk with hk
      omega
end
end Go.Proofs.Ytclafljkeaekfaa
