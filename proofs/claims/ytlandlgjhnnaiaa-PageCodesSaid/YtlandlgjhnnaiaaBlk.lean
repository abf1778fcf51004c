/- Words on memory: append of a string's bytes; where a slice's block lies; the frame of a call that lengthens one slice. -/
import Derived.Test.YtlandlgjhnnaiaaOwn
import Derived.Test.YtlandlgjhnnaiaaOnly
import Derived.Lib.AppendStr
import Derived.Deep.QuietTactic
import Derived.BigQuiet
set_option linter.unusedVariables false
set_option linter.unusedSimpArgs false
namespace Go.Proofs.Ytlandlgjhnnaiaa
open Go.RowKit
/-- where a slice's own block lies -/
def Blk (v : Value) (lo hi : Nat) : Prop := ∀ k, v.ownBlock = some k → lo ≤ k ∧ k < hi
theorem Blk.mono {v : Value} {lo hi lo' hi' : Nat} (h : Blk v lo hi) (h1 : lo' ≤ lo) (h2 : hi ≤ hi') : Blk v lo' hi' := fun k hk => by have := h k hk; omega
theorem Blk.nil (lo hi : Nat) : Blk (.slice none 0 0) lo hi := fun k hk => by simp [Value.ownBlock] at hk
theorem Own.blk {w : World} {base n : Nat} {v : Value} {l : List UInt8} (h : Own w base v n l) : Blk v base w.heap.size := fun k hk => (World.ownsRow.lt h) k hk
theorem Only.grown {S : List Nat} {a w w' : World} {row : Option Nat} (h : Only S a w) (hg : w.grownBy w' row) (hr : ∀ k, row = some k → k ∈ S ∨ a.heap.size ≤ k) : Only S a w' :=
  ⟨hg.os.trans h.os, hg.tape.trans h.tape, hg.output.trans h.output, Nat.le_trans h.size hg.size, fun k hk hs => (hg.block k (Nat.lt_of_lt_of_le hk h.size) (fun e => by
    rcases hr k e.symm with h1 | h1
    · exact hs h1
    · omega)).trans (h.blk k hk hs)⟩
theorem Own.keep {w w' : World} {base n : Nat} {v : Value} {l : List UInt8} {S : List Nat} (h : Own w base v n l) (hw : Only S w w') (hs : ∀ k, v.ownBlock = some k → k ∉ S) : Own w' base v n l := by
  refine ⟨h.1, ?_⟩
  rcases h.2 with h1 | ⟨g, cap, cur, rfl, hb, hh, h3⟩
  · exact .inl h1
  · exact .inr ⟨g, cap, cur, rfl, hb, (hw.blk g (lt_of_block hh) (hs g rfl)).trans hh, h3⟩
theorem Own.slice {w : World} {base n : Nat} {v : Value} {l : List UInt8} (h : Own w base v n l) : ∃ A c, v = .slice A n c := by
  rcases h.2 with ⟨rfl, h0⟩ | ⟨g, cap, cur, rfl, _⟩
  · subst h0; exact ⟨none, 0, rfl⟩
  · exact ⟨_, cap, rfl⟩
theorem bv_str (s : ByteArray) : Lib.strCells s = bv s.data.toList := rfl
theorem str_len (s : ByteArray) : s.data.toList.length = s.size := by rw [Array.length_toList]; rfl
theorem run_appS {W : World} (base : Nat) (ty : TypeId) {v : Value} {n : Nat} {xs : List UInt8} (s : ByteArray) (HO : Own W base v n xs) (hbase : base ≤ W.heap.size) (hl : n + s.size ≤ 140737488355328) :
    ∃ v1 w1, (Builtin.append_ #[31, 9] ty #[v, .string s]).run Try.prog W = .ok v1 w1 ∧ Own w1 base v1 (n + s.size) (xs ++ s.data.toList) ∧ W.grownBy w1 v.ownBlock ∧ (v1.ownBlock = v.ownBlock ∨ Blk v1 W.heap.size w1.heap.size) := by
  obtain ⟨i0, hi, hzz⟩ := Option.map_eq_some_iff.1 info_u8
  simp only [Prod.mk.injEq] at hzz
  obtain ⟨hz0, hz1, hz2⟩ := hzz
  have ht := Try.underlying31
  have hu := Try.underlying9
  obtain ⟨v1, w1, hr, h1, h2, h3⟩ := Lib.run_append_own_string (P := Try.prog) W base 31 9 ty 5 i0 ht hu hi hz0 hz1 hz2 v n (bv xs) HO s (by simp only [maxLen]; omega) hl hbase
  refine ⟨v1, w1, hr, by unfold Own; rw [bv_append]; exact h1, h2, ?_⟩
  rcases HO.2 with ⟨rfl, h0⟩ | ⟨g, cap, cur, rfl, hb, hh, hnc, hcm, hcs, htake⟩
  · subst h0
    have HO2 : W.ownsRow W.heap.size 5 1 (.slice none 0 0) 0 (bv xs) := ⟨HO.1, .inl ⟨rfl, rfl⟩⟩
    obtain ⟨v2, w2, hr2, k1, k2, k3⟩ := Lib.run_append_own_string (P := Try.prog) W W.heap.size 31 9 ty 5 i0 ht hu hi hz0 hz1 hz2 _ 0 (bv xs) HO2 s (by simp only [maxLen]; omega) hl (Nat.le_refl _)
    rw [hr] at hr2
    injection hr2 with e1 e2
    subst e1 e2
    exact .inr fun k hk => (World.ownsRow.lt k1) k hk
  · by_cases hroom : n + s.size ≤ cap
    · have hcs' : cur.size = cap := by simpa using hcs
      have hr2 := Lib.run_append_room_string (P := Try.prog) W 31 9 ty 5 i0 ht hu hi hz1 g n cap cur hh s hroom (by omega)
      rw [hr] at hr2
      injection hr2 with e1 e2
      rw [e1]
      exact .inl rfl
    · have hxl : (bv xs).length = n * 1 := HO.1
      have hr2 := Lib.run_append_grow_string (P := Try.prog) W 31 9 ty 5 i0 (.int .u8 0) ht hu hi hz0 ⟨g, 0, none⟩ n cap (bv xs) (by rw [hz1]; exact hxl) (World.ownsRow.cells HO (g := g) rfl) s (by omega) (by omega) (by rw [hz2]; exact growslice_fits (by omega) (by omega))
      rw [hr] at hr2
      injection hr2 with e1 e2
      refine .inr fun k hk => ?_
      have h4 := (World.ownsRow.lt h1) k hk
      rw [e1] at hk
      simp [Value.ownBlock] at hk
      omega
section
variable {ops : Array Oper} {rest : List Oper} {o : Oper} {a : Act} {Q : Exit → Act → World → Prop}
theorem wp_appS {W : World} (base : Nat) {v : Value} {n : Nat} {xs : List UInt8} (s : ByteArray) (HO : Own W base v n xs) (hbase : base ≤ W.heap.size) (hl : n + s.size ≤ 140737488355328) (sl x : Operand) (hgd : o.guard = none)
    (ho : o.op = .call { callee := .builtin .append, args := #[sl, x], argTypes := #[31, 9] }) (hs : a.eval sl = v) (hx : a.eval x = .string s)
    (h : ∀ v1 w1, Own w1 base v1 (n + s.size) (xs ++ s.data.toList) → W.grownBy w1 v.ownBlock → (v1.ownBlock = v.ownBlock ∨ Blk v1 W.heap.size w1.heap.size) → wpList Try.prog ops Q rest (a.put o.dst v1) w1) :
    wpList Try.prog ops Q (o :: rest) a W := by
  obtain ⟨v1, w1, hr, hown, hg, hat⟩ := run_appS base o.type s HO hbase hl
  refine wpList_plain hgd fun K hK => ?_
  unfold Oper.wp execOp
  simp only [ho, resolve, invoke, builtin, Sem.run_bind, Sem.run_pure, Result.andThen_ok, List.map_toArray, List.map_cons, List.map_nil, hs, hx, hr]
  exact hK _ _ (h v1 w1 hown hg hat)
theorem wp_appB {W : World} (base : Nat) {v : Value} {n : Nat} {xs ys : List UInt8} {A : Option Addr} {m c : Nat} (HO : Own W base v n xs) (HR : Rd W A m c ys) (hbase : base ≤ W.heap.size) (hl : n + m ≤ 140737490452480) (sl x : Operand) (hgd : o.guard = none)
    (ho : o.op = .call { callee := .builtin .append, args := #[sl, x], argTypes := #[31, 31] }) (hs : a.eval sl = v) (hx : a.eval x = .slice A m c)
    (h : ∀ v1 w1, Own w1 base v1 (n + m) (xs ++ ys) → W.grownBy w1 v.ownBlock → (v1.ownBlock = v.ownBlock ∨ Blk v1 W.heap.size w1.heap.size) → wpList Try.prog ops Q rest (a.put o.dst v1) w1) :
    wpList Try.prog ops Q (o :: rest) a W := by
  obtain ⟨v1, w1, hr, hown, hg, hat⟩ := run_app base o.type HO HR hbase hl
  refine wpList_plain hgd fun K hK => ?_
  unfold Oper.wp execOp
  simp only [ho, resolve, invoke, builtin, Sem.run_bind, Sem.run_pure, Result.andThen_ok, List.map_toArray, List.map_cons, List.map_nil, hs, hx, hr]
  refine hK _ _ (h v1 w1 hown hg ?_)
  rcases hat with h1 | h1
  · exact .inl h1
  · exact .inr fun k hk => by
      have := (World.ownsRow.lt hown) k hk
      rw [h1] at hk
      injection hk with hk
      omega
end
theorem Rd.keep {w w' : World} {A : Option Addr} {n c : Nat} {L : List UInt8} {S : List Nat} (h : Rd w A n c L) (hw : Only S w w') (hs : ∀ p, A = some p → p.block ∉ S) : Rd w' A n c L :=
  ⟨h.len, h.cap, h.max, fun hn => by
    obtain ⟨b, o, e, hc⟩ := h.at_ hn
    refine ⟨b, o, e, fun j hj => ?_⟩
    have h1 := hc j hj
    have h2 := World.block_lt_of_cell? w _ h1
    have h3 : b ∉ S := hs ⟨b, o, none⟩ e
    have h4 := hw.blk b h2 h3
    simp only [World.cell?] at h1 ⊢
    rw [h4]
    exact h1⟩
end Go.Proofs.Ytlandlgjhnnaiaa
