/- Words on memory: a slice of bytes that the call itself made, and append onto it. -/
import Derived.Test.YtlandlgjhnnaiaaProg
import Derived.Test.YtlandlgjhnnaiaaW
import Derived.Maps.AppendAt
import Derived.ArgAppend
import Derived.Deep.DeepAppendWide
import Derived.Laws.BytesArg
import Derived.Lib.ConvBytes
import Derived.Lib.SlBytesConst
set_option linter.unusedVariables false
set_option linter.unusedSimpArgs false
set_option maxRecDepth 100000
namespace Go.Proofs.Ytlandlgjhnnaiaa
open Go.RowKit
theorem info_u8 : (Try.prog.info? 5).map (fun i => (i.zero, i.size, i.bytes)) = some (some (.int .u8 0), 1, 1) := by kernel_rfl
def bv (l : List UInt8) : List Value := l.map fun c => .int .u8 (c.toNat : Int)
theorem bv_length (l : List UInt8) : (bv l).length = l.length := by simp [bv]
theorem bv_append (l m : List UInt8) : bv (l ++ m) = bv l ++ bv m := by simp [bv]
theorem bv_get (l : List UInt8) (j : Nat) (h : j < l.length) : (bv l)[j]? = some (.int .u8 ((l.getD j 0).toNat : Int)) := by
  simp [bv, List.getElem?_eq_getElem h, List.getD_eq_getElem?_getD]
theorem bv_one (l : List UInt8) : ∀ u ∈ bv l, u.oneCell' = true := by
  intro u hu; simp only [bv, List.mem_map] at hu; obtain ⟨c, _, rfl⟩ := hu; rfl
/-- v is a slice of bytes in a block from base on, unfrozen, that holds l (or nil and l empty). -/
def Own (w : World) (base : Nat) (v : Value) (n : Nat) (l : List UInt8) : Prop := w.ownsRow base 5 1 v n (bv l)
theorem Own.len {w : World} {base n : Nat} {v : Value} {l : List UInt8} (h : Own w base v n l) : l.length = n := by
  have := h.1; rwa [bv_length, Nat.mul_one] at this
theorem Own.nil (w : World) (base : Nat) : Own w base (.slice none 0 0) 0 [] := World.ownsRow_nil w base _ _
theorem Own.mono {w : World} {base base' n : Nat} {v : Value} {l : List UInt8} (h : Own w base v n l) (hb : base' ≤ base) : Own w base' v n l := by
  refine ⟨h.1, ?_⟩
  rcases h.2 with h | ⟨g, cap, cur, h1, h2, h3⟩
  · exact .inl h
  · exact .inr ⟨g, cap, cur, h1, Nat.le_trans hb h2, h3⟩
theorem Own.ext {w w' : World} {base n : Nat} {v : Value} {l : List UInt8} (h : Own w base v n l) (hb : Below w.heap.size w w') : Own w' base v n l := by
  refine World.ownsRow.kept (row := none) h ⟨hb.os, hb.tape, hb.output, hb.size, fun i hi _ => hb.block i hi⟩ ?_
  cases v.ownBlock <;> simp
theorem Own.drew {w : World} {base n : Nat} {v : Value} {l : List UInt8} (h : Own w base v n l) : Own w.drew base v n l := h
theorem Own.drewN {w : World} {base n : Nat} {v : Value} {l : List UInt8} (h : Own w base v n l) (k : Nat) : Own (w.drewN k) base v n l := h
theorem Own.alloc {w : World} {base n : Nat} {v : Value} {l : List UInt8} (h : Own w base v n l) (o : Obj) : Own (w.alloc o) base v n l := World.ownsRow.alloc h o
theorem Own.other {w w' : World} {base n : Nat} {v : Value} {l : List UInt8} (h : Own w base v n l) {row : Option Nat} (hg : w.grownBy w' row) (hne : v.ownBlock = none ∨ v.ownBlock ≠ row) : Own w' base v n l := World.ownsRow.kept h hg hne
theorem Own.rd {w : World} {base n : Nat} {v : Value} {l : List UInt8} (h : Own w base v n l) (hm : n ≤ 140737490452480) : ∃ A c, v = .slice A n c ∧ Rd w A n c l := by
  have hl := h.len
  rcases h.2 with ⟨rfl, h0⟩ | ⟨g, cap, cur, rfl, hb, hh, h1, h2, h3, h4⟩
  · subst h0
    exact ⟨none, 0, rfl, hl, Nat.le_refl _, by omega, fun hp => absurd hp (by omega)⟩
  · refine ⟨_, cap, rfl, hl, h1, hm, fun hp => ⟨g, 0, rfl, fun j hj => ?_⟩⟩
    have := World.ownsRow.cells h (g := g) rfl j _ (bv_get l j (by omega))
    rwa [Addr.add_mid] at this
theorem Own.form {w : World} {base n : Nat} {v : Value} {l : List UInt8} (h : Own w base v n l) (hp : 0 < n) : ∃ g c, v = .slice (some ⟨g, 0, none⟩) n c ∧ base ≤ g ∧ g < w.heap.size := by
  rcases h.2 with ⟨_, h0⟩ | ⟨g, cap, cur, rfl, hb, hh, _⟩
  · omega
  · exact ⟨g, cap, rfl, hb, lt_of_block hh⟩
def bstr (l : List UInt8) : ByteArray := ⟨l.toArray⟩
theorem bstr_size (l : List UInt8) : (bstr l).size = l.length := by simp [bstr, ByteArray.size]
theorem bstr_inj {l m : List UInt8} (h : bstr l = bstr m) : l = m := by
  have := congrArg (fun b : ByteArray => b.data.toList) h
  simpa [bstr] using this
theorem bstr_eq (s : ByteArray) : bstr s.data.toList = s := by cases s; rfl
theorem strOfNums_bytes (l : List UInt8) : strOfNums (l.map fun c => (c.toNat : Int)) = bstr l := by
  unfold strOfNums bstr
  congr 2
  rw [List.map_map]
  conv => rhs; rw [← List.map_id l]
  apply List.map_congr_left
  intro c _
  simp
/-- string(b) -/
theorem Rd.str {w : World} {A : Option Addr} {n c : Nat} {l : List UInt8} (h : Rd w A n c l) : (convert 31 9 (.slice A n c)).run Try.prog w = .ok (.string (bstr l)) w := by
  have hl := h.len
  rcases A with _ | ad
  · have h0 : n = 0 := by
      rcases Nat.eq_zero_or_pos n with h0 | h0
      · exact h0
      · obtain ⟨b, o', h, _⟩ := h.at_ h0
        cases h
    subst h0
    obtain rfl : l = [] := List.eq_nil_of_length_eq_zero hl
    exact run_convert_bytes_nil w 31 5 Try.underlying31 Try.underlying5 0 c 9 Try.underlying9
  · rcases Nat.eq_zero_or_pos n with h0 | h0
    · subst h0
      obtain rfl : l = [] := List.eq_nil_of_length_eq_zero hl
      rw [run_convert_bytes_string w 31 9 5 _ 0 c Try.underlying31 Try.underlying5 Try.underlying9]
      simp [Conv.bytesToString, loadCells, loadCellsFrom, bstr]
      rfl
    · obtain ⟨b, o', he, hc⟩ := h.at_ h0
      injection he with he
      subst he
      rw [← strOfNums_bytes]
      refine run_convert_bytes_arg w 31 5 Try.underlying31 Try.underlying5 b o' n c _ (by rw [List.length_map, hl]) (fun i hi => ?_) 9 Try.underlying9
      rw [hc i hi]
      congr 2
      have hi' : i < l.length := by omega
      simp [List.getD_eq_getElem?_getD, List.getElem?_eq_getElem hi']
/-- a literal block of bytes -/
theorem Rd.lit (w : World) (l : List UInt8) (n : Nat) (hn : l.length = n) (hm : n ≤ 140737490452480) (fr : Nat × Nat := (0, 0)) : Rd (w.alloc (.cells (bv l).toArray 5 fr)) (some ⟨w.heap.size, 0, none⟩) n n l :=
  ⟨hn, Nat.le_refl _, hm, fun _ => ⟨_, _, rfl, fun j hj => by
    rw [cell_of_row _ _ _ _ _ _ (heap_alloc_new w _)]
    simpa using bv_get l j (by omega)⟩⟩
section
variable {ops : Array Oper} {rest : List Oper} {o : Oper} {a : Act} {Q : Exit → Act → World → Prop}
theorem run_app {W : World} (base : Nat) (ty : TypeId) {v : Value} {n : Nat} {xs ys : List UInt8} {A : Option Addr} {m c : Nat}
    (HO : Own W base v n xs) (HR : Rd W A m c ys) (hbase : base ≤ W.heap.size) (hl : n + m ≤ 140737490452480) :
    ∃ v1 w1, (Builtin.append_ #[31, 31] ty #[v, .slice A m c]).run Try.prog W = .ok v1 w1 ∧ Own w1 base v1 (n + m) (xs ++ ys) ∧ W.grownBy w1 v.ownBlock ∧ (v1.ownBlock = v.ownBlock ∨ v1.ownBlock = some W.heap.size) := by
  obtain ⟨i0, hi, hzz⟩ := Option.map_eq_some_iff.1 info_u8
  simp only [Prod.mk.injEq] at hzz
  obtain ⟨hz0, hz1, hz2⟩ := hzz
  have ht := Try.underlying31
  have hm : ys.length = m := HR.len
  rcases A with _ | ad
  · have h0 : m = 0 := by
      rcases Nat.eq_zero_or_pos m with h0 | h0
      · exact h0
      · obtain ⟨b, o', h, _⟩ := HR.at_ h0
        cases h
    subst h0
    obtain rfl : ys = [] := List.eq_nil_of_length_eq_zero hm
    refine ⟨v, W, ?_, by simpa using HO, World.grownBy.refl W _, .inl rfl⟩
    rcases HO.2 with ⟨rfl, hn⟩ | ⟨g, cap, cur, rfl, _, _, hnc, _⟩
    · simp [Builtin.append_, run_underlying ht, sizeOf, typeInfo, hi, Builtin.lenOf, Builtin.firstCells]
    · simp [Builtin.append_, run_underlying ht, sizeOf, typeInfo, hi, Builtin.lenOf, Builtin.firstCells, hnc, storeCells]
  · have hcells : ∀ j u, (bv ys)[j]? = some u → W.cell? (ad.add j) = some u := by
      intro j u hu
      have hj : j < ys.length := by
        rcases Nat.lt_or_ge j ys.length with h | h
        · exact h
        · simp [bv, List.getElem?_eq_none h] at hu
      obtain ⟨b, o', h', hc⟩ := HR.at_ (by omega)
      injection h' with h'
      subst h'
      rw [bv_get ys j hj] at hu
      rw [Addr.add_mid, hc j (by omega), hu]
    obtain ⟨v1, w1, hr, h2, h3, h4⟩ := run_append_own_wide (P := Try.prog) W base 31 ty 5 i0 (.int .u8 0) 1 1 ht hi hz0 hz1 hz2 rfl (by omega) v n (bv xs) HO ad m c (bv ys) (by rw [bv_length]; omega) hcells
      (bv_one ys) (by simp only [maxLen]; omega) (by omega) hbase
    refine ⟨v1, w1, hr, by unfold Own; rw [bv_append]; exact h2, h3, ?_⟩
    rcases HO.2 with ⟨rfl, h0⟩ | ⟨g, cap, cur, rfl, hb, hh, hnc, hcm, hcs, htake⟩
    · by_cases hm0 : m = 0
      · rw [h4.2 ⟨rfl, hm0⟩]; exact .inl rfl
      · have hr2 := run_append_nil (P := Try.prog) W 31 ty 5 i0 (.int .u8 0) ht hi hz0 ad m c (bv ys) (by rw [bv_length, hz1]; omega) hcells (by omega) (by omega) (by rw [hz2]; omega)
        rw [hr] at hr2
        injection hr2 with e1 e2
        rw [e1]; exact .inr rfl
    · by_cases hroom : n + m ≤ cap
      · have hr2 := run_append_room (P := Try.prog) W 31 ty 5 i0 ht hi g n cap cur hh ad m c (bv ys) (by rw [bv_length, hz1]; omega) hcells (bv_one ys) hroom (by rw [bv_length, hz1]; omega)
        rw [hr] at hr2
        injection hr2 with e1 e2
        rw [e1]; exact .inl rfl
      · have hr2 := run_append_grow (P := Try.prog) W 31 ty 5 i0 (.int .u8 0) ht hi hz0 ⟨g, 0, none⟩ n cap (bv xs) (by rw [hz1]; exact HO.1) (World.ownsRow.cells HO (g := g) rfl) ad m c (bv ys) (by rw [bv_length, hz1]; omega) hcells (by omega) (by omega) (by rw [hz2]; exact growslice_fits_wide (by omega) (by omega))
        rw [hr] at hr2
        injection hr2 with e1 e2
        rw [e1]; exact .inr rfl
/-- append(v, ys...), v a row of the call's own, ys any slice that is read. -/
theorem wp_app {w0 W : World} (base : Nat) {v : Value} {n : Nat} {xs ys : List UInt8} {A : Option Addr} {m c : Nat}
    (HO : Own W base v n xs) (HR : Rd W A m c ys) (HB : Below base w0 W) (hbase : base ≤ W.heap.size) (hl : n + m ≤ 140737490452480) (s x : Operand) (hgd : o.guard = none)
    (ho : o.op = .call { callee := .builtin .append, args := #[s, x], argTypes := #[31, 31] }) (hs : a.eval s = v) (hx : a.eval x = .slice A m c)
    (h : ∀ v1 w1, Own w1 base v1 (n + m) (xs ++ ys) → Below base w0 w1 → W.grownBy w1 v.ownBlock → (v1.ownBlock = v.ownBlock ∨ v1.ownBlock = some W.heap.size) → wpList Try.prog ops Q rest (a.put o.dst v1) w1) :
    wpList Try.prog ops Q (o :: rest) a W := by
  obtain ⟨v1, w1, hr, hown, hg, hat⟩ := run_app base o.type HO HR hbase hl
  refine wpList_plain hgd fun K hK => ?_
  unfold Oper.wp execOp
  simp only [ho, resolve, invoke, builtin, Sem.run_bind, Sem.run_pure, Result.andThen_ok, List.map_toArray, List.map_cons, List.map_nil, hs, hx, hr]
  refine hK _ _ (h v1 w1 hown (HB.grown hg hbase ?_) hg hat)
  intro k hk
  exact ((World.ownsRow.lt HO) k hk).1
/-- the same as one step of a region that draws its order -/
theorem step_app {w0 W : World} {K : Act → World → Prop} {E : Prop} (base : Nat) {v : Value} {n : Nat} {xs ys : List UInt8} {A : Option Addr} {m c : Nat}
    (HO : Own W base v n xs) (HR : Rd W A m c ys) (HB : Below base w0 W) (hbase : base ≤ W.heap.size) (hl : n + m ≤ 140737490452480) (s x : Operand) (hgd : o.guard = none)
    (ho : o.op = .call { callee := .builtin .append, args := #[s, x], argTypes := #[31, 31] }) (hs : a.eval s = v) (hx : a.eval x = .slice A m c)
    (h : ∀ v1 w1, Own w1 base v1 (n + m) (xs ++ ys) → Below base w0 w1 → W.grownBy w1 v.ownBlock → (v1.ownBlock = v.ownBlock ∨ v1.ownBlock = some W.heap.size) → K (a.put o.dst v1) w1) :
    if Region.wanted o (yielded ops a.tmps) = true then Oper.wp Try.prog o a W K Q else E := by
  have hw : Region.wanted o (yielded ops a.tmps) = true := by simp [Region.wanted, hgd]
  rw [if_pos hw]
  obtain ⟨v1, w1, hr, hown, hg, hat⟩ := run_app base o.type HO HR hbase hl
  unfold Oper.wp execOp
  simp only [ho, resolve, invoke, builtin, Sem.run_bind, Sem.run_pure, Result.andThen_ok, List.map_toArray, List.map_cons, List.map_nil, hs, hx, hr]
  refine h v1 w1 hown (HB.grown hg hbase ?_) hg hat
  intro k hk
  exact ((World.ownsRow.lt HO) k hk).1
/-- append(v, c), one byte: behind its box. -/
theorem wp_app1 {w0 W : World} (base : Nat) {v : Value} {n : Nat} {xs : List UInt8} (c : UInt8)
    (HO : Own W base v n xs) (HB : Below base w0 W) (hbase : base ≤ W.heap.size) (hl : n + 1 ≤ 140737490452480) (s x : Operand) (hgd : o.guard = none)
    (ho : o.op = .call { callee := .builtin .append, args := #[s, x], argTypes := #[31, 31] }) (hs : a.eval s = v) (hx : a.eval x = .slice (some ⟨W.heap.size, 0, none⟩) 1 1)
    (h : ∀ v1 w1, Own w1 base v1 (n + 1) (xs ++ [c]) → Below base w0 w1 → W.grownBy w1 v.ownBlock → (v1.ownBlock = v.ownBlock ∨ ∃ b, v1.ownBlock = some b ∧ W.heap.size ≤ b) → wpList Try.prog ops Q rest (a.put o.dst v1) w1) :
    wpList Try.prog ops Q (o :: rest) a (W.alloc (.cells #[.int .u8 (c.toNat : Int)] 5)) := by
  refine wp_app base (HO.alloc _) (Rd.lit W [c] 1 rfl (by decide)) (HB.alloc hbase _) (by simp; omega) hl s x hgd ho hs hx ?_
  intro v1 w1 hO hB hG hat
  refine h v1 w1 hO hB ((World.grownBy_alloc W _ _).trans hG) ?_
  rcases hat with hat | hat
  · exact .inl hat
  · exact .inr ⟨_, hat, by simp⟩
end
/-- b[m:], whatever the capacity. -/
theorem cut_from (A : Option Addr) (n c m : Nat) (hm : m ≤ n) :
    ∃ A' : Option Addr, (∀ W : World, (Instr.slice 31 (.slice A n c) (some (.int .i64 (m : Int))) none none).run Try.prog W = .ok (.slice A' (n - m) (c - m)) W) ∧
      ∀ (w : World) (l : List UInt8), Rd w A n c l → Rd w A' (n - m) (c - m) (l.drop m) := by
  obtain ⟨i0, hi, hzz⟩ := Option.map_eq_some_iff.1 info_u8
  simp only [Prod.mk.injEq] at hzz
  obtain ⟨hz0, hz1, hz2⟩ := hzz
  refine ⟨if c = m then A else A.map (·.add m), fun W => ?_, fun w l h => ?_⟩
  · have hel : Try.prog.elem 31 = 5 := by simp [Program.elem, Try.underlying31]
    have hu : Try.prog.underlying 31 = some (.slice (Try.prog.elem 31)) := by rw [hel]; exact Try.underlying31
    rw [run_slice_l W 31 A n c hu .i64 (m : Int) (Int.natCast_nonneg _) (by omega), hel]
    simp [sizeOf, typeInfo, hi, hz1, sliced, Result.andThen]
  · have h1 := h.len
    have h2 := h.cap
    have h3 := h.max
    refine ⟨by simp; omega, by omega, by omega, fun hp => ?_⟩
    obtain ⟨b, o, rfl, hc⟩ := h.at_ (by omega)
    rw [if_neg (by omega)]
    refine ⟨b, o + m, by simp [Addr.add_mid], fun j hj => ?_⟩
    have := hc (m + j) (by omega)
    rw [← Nat.add_assoc] at this
    rw [this]
    simp [List.getD_eq_getElem?_getD]
/-- The cells of a slice of slices of bytes hold the lists ls. -/
structure Rds (w : World) (A : Option Addr) (n c : Nat) (ls : List (List UInt8)) : Prop where
  len : ls.length = n
  cap : n ≤ c
  max : n ≤ 140737488355328
  at_ : 0 < n → ∃ b o, A = some ⟨b, o, none⟩ ∧ ∀ j, j < n → ∃ A1 n1 c1, w.cell? ⟨b, o + j, none⟩ = some (.slice A1 n1 c1) ∧ Rd w A1 n1 c1 (ls.getD j [])
theorem Rds.ext {w w' : World} {A : Option Addr} {n c : Nat} {ls : List (List UInt8)} (h : Rds w A n c ls) (hb : Below w.heap.size w w') : Rds w' A n c ls :=
  ⟨h.len, h.cap, h.max, fun hn => by
    obtain ⟨b, o, e, hc⟩ := h.at_ hn
    refine ⟨b, o, e, fun j hj => ?_⟩
    obtain ⟨A1, n1, c1, h1, h2⟩ := hc j hj
    exact ⟨A1, n1, c1, (hb.cell (World.block_lt_of_cell? w _ h1)).trans h1, h2.ext hb⟩⟩
theorem Rds.drew {w : World} {A : Option Addr} {n c : Nat} {ls : List (List UInt8)} (h : Rds w A n c ls) (k : Nat) : Rds (w.drewN k) A n c ls :=
  ⟨h.len, h.cap, h.max, fun hn => by
    obtain ⟨b, o, e, hc⟩ := h.at_ hn
    refine ⟨b, o, e, fun j hj => ?_⟩
    obtain ⟨A1, n1, c1, h1, h2⟩ := hc j hj
    exact ⟨A1, n1, c1, h1, h2.drew k⟩⟩
/-- b[lo:hi], whatever the capacity. -/
theorem cut_mid (A : Option Addr) (n c lo hi : Nat) (h1 : lo ≤ hi) (h2 : hi ≤ n) (h3 : n ≤ c) :
    ∃ A' : Option Addr, (∀ W : World, (Instr.slice 31 (.slice A n c) (some (.int .i64 (lo : Int))) (some (.int .i64 (hi : Int))) none).run Try.prog W = .ok (.slice A' (hi - lo) (c - lo)) W) ∧
      ∀ (w : World) (l : List UInt8), Rd w A n c l → Rd w A' (hi - lo) (c - lo) ((l.drop lo).take (hi - lo)) := by
  obtain ⟨A1, e1, r1⟩ := cut_from A n c lo (by omega)
  obtain ⟨i0, hi0, hzz⟩ := Option.map_eq_some_iff.1 info_u8
  simp only [Prod.mk.injEq] at hzz
  obtain ⟨hz0, hz1, hz2⟩ := hzz
  refine ⟨if c = lo then A else A.map (·.add lo), fun W => ?_, fun w l h => ?_⟩
  · have hel : Try.prog.elem 31 = 5 := by simp [Program.elem, Try.underlying31]
    have hu : Try.prog.underlying 31 = some (.slice (Try.prog.elem 31)) := by rw [hel]; exact Try.underlying31
    rw [run_slice_lh W 31 A n c hu .i64 .i64 (lo : Int) (hi : Int) (Int.natCast_nonneg _) (by omega) (by omega), hel]
    simp [sizeOf, typeInfo, hi0, hz1, sliced, Result.andThen]
  · have q1 := h.len
    have q2 := h.cap
    have q3 := h.max
    refine ⟨by simp; omega, by omega, by omega, fun hp => ?_⟩
    obtain ⟨b, o, rfl, hc⟩ := h.at_ (by omega)
    rw [if_neg (by omega)]
    refine ⟨b, o + lo, by simp [Addr.add_mid], fun j hj => ?_⟩
    have := hc (lo + j) (by omega)
    rw [← Nat.add_assoc] at this
    rw [this]
    simp [List.getD_eq_getElem?_getD, hj]
/-! ### a cell of a row of the call's own is read, and written -/
theorem Own.cell {W : World} {base n g cap : Nat} {l : List UInt8} (h : Own W base (.slice (some ⟨g, 0, none⟩) n cap) n l) (j : Nat) (hj : j < n) : W.cell? ⟨g, j, none⟩ = some (.int .u8 ((l.getD j 0).toNat : Int)) := by
  have := World.ownsRow.cellAt h j (by omega)
  rw [this, bv_get l j (by rw [h.len]; exact hj)]
theorem Own.free {W : World} {base n g cap : Nat} {l : List UInt8} (h : Own W base (.slice (some ⟨g, 0, none⟩) n cap) n l) (j : Nat) : W.frozen? ⟨g, j, none⟩ = false := World.ownsRow.frozenAt h j
theorem Own.store {W : World} {base n g cap : Nat} {l : List UInt8} (h : Own W base (.slice (some ⟨g, 0, none⟩) n cap) n l) (j : Nat) (c : UInt8) : Own (W.setCell ⟨g, j, none⟩ (.int .u8 (c.toNat : Int))) base (.slice (some ⟨g, 0, none⟩) n cap) n (l.set j c) := by
  have := (World.ownsRow.stored h j (.int .u8 (c.toNat : Int))).1
  unfold Own
  rwa [show bv (l.set j c) = (bv l).set j (.int .u8 (c.toNat : Int)) by simp [bv, List.map_set]]
theorem Own.base_le {W : World} {base n g cap : Nat} {l : List UInt8} (h : Own W base (.slice (some ⟨g, 0, none⟩) n cap) n l) : base ≤ g := ((World.ownsRow.lt h) g rfl).1
theorem Own.below_store {W : World} {base n : Nat} {v : Value} {l : List UInt8} (h : Own W base v n l) {p : Addr} (hp : p.block < base) (u : Value) : Own (W.setCell p u) base v n l := ownsRow_setCell_below h hp u
theorem Own.shorter {W : World} {base n m g cap : Nat} {l l2 : List UInt8} (h : Own W base (.slice (some ⟨g, 0, none⟩) (n + m) cap) (n + m) (l ++ l2)) (hl : l.length = n) : Own W base (.slice (some ⟨g, 0, none⟩) n cap) n l := by
  have hlen := h.len
  rcases h.2 with ⟨h', _⟩ | ⟨g', cap', cur, h', hb, hg, hnc, hcm, hcs, htake⟩
  · simp at h'
  · simp only [Value.slice.injEq, Option.some.injEq, Addr.mk.injEq, and_true, true_and] at h'
    obtain ⟨rfl, rfl⟩ := h'
    refine ⟨by rw [bv_length]; omega, .inr ⟨g, cap, cur, rfl, hb, hg, by omega, hcm, hcs, ?_⟩⟩
    have := congrArg (List.take n) htake
    rw [List.take_take, show min n ((n + m) * 1) = n * 1 by omega, bv_append, List.take_append_of_le_length (by rw [bv_length]; omega)] at this
    rw [this]
    exact List.take_of_length_le (by rw [bv_length]; omega)
/-- append(v, ys...) leaves v itself as it was. -/
theorem run_app_keep {W : World} (base : Nat) (ty : TypeId) {v : Value} {n : Nat} {xs ys : List UInt8} {A : Option Addr} {m c : Nat}
    (HO : Own W base v n xs) (HR : Rd W A m c ys) (hbase : base ≤ W.heap.size) (hl : n + m ≤ 140737490452480) (hm0 : 0 < m) :
    ∃ v1 w1, (Builtin.append_ #[31, 31] ty #[v, .slice A m c]).run Try.prog W = .ok v1 w1 ∧ Own w1 base v1 (n + m) (xs ++ ys) ∧ Own w1 base v n xs ∧ W.grownBy w1 v.ownBlock := by
  obtain ⟨i0, hi, hzz⟩ := Option.map_eq_some_iff.1 info_u8
  simp only [Prod.mk.injEq] at hzz
  obtain ⟨hz0, hz1, hz2⟩ := hzz
  have ht := Try.underlying31
  rcases HO.2 with ⟨rfl, h0⟩ | ⟨g, cap, cur, rfl, hb, hh, h1, h2, h3, h4⟩
  · subst h0
    obtain ⟨v1, w1, hr, h1, h2, h3⟩ := run_app base ty HO HR hbase hl
    obtain rfl : xs = [] := List.eq_nil_of_length_eq_zero HO.len
    exact ⟨v1, w1, hr, h1, Own.nil _ _, h2⟩
  · have hm : ys.length = m := HR.len
    obtain ⟨b, o, rfl, hc⟩ := HR.at_ hm0
    have hcells : ∀ j u, (bv ys)[j]? = some u → W.cell? ((⟨b, o, none⟩ : Addr).add j) = some u := by
      intro j u hu
      have hj : j < ys.length := by
        rcases Nat.lt_or_ge j ys.length with h | h
        · exact h
        · simp [bv, List.getElem?_eq_none h] at hu
      rw [bv_get ys j hj] at hu
      rw [Addr.add_mid, hc j (by omega), hu]
    by_cases hroom : n + m ≤ cap
    · obtain ⟨w1, hr, h5, h6⟩ := run_append_fits (P := Try.prog) W base 31 ty 5 i0 1 ht hi hz1 g n cap (bv xs) HO ⟨b, o, none⟩ m c (bv ys) (by rw [bv_length]; omega) hcells (bv_one ys) hroom
      have h5' : Own w1 base (.slice (some ⟨g, 0, none⟩) (n + m) cap) (n + m) (xs ++ ys) := by unfold Own; rw [bv_append]; exact h5
      exact ⟨_, w1, hr, h5', h5'.shorter HO.len, h6⟩
    · obtain ⟨v1, w1, hr, h5, _, _⟩ := run_append_own_wide (P := Try.prog) W base 31 ty 5 i0 (.int .u8 0) 1 1 ht hi hz0 hz1 hz2 rfl (by omega) _ n (bv xs) HO ⟨b, o, none⟩ m c (bv ys) (by rw [bv_length]; omega) hcells
        (bv_one ys) (by simp only [maxLen]; omega) (by omega) hbase
      have hr2 := run_append_grow (P := Try.prog) W 31 ty 5 i0 (.int .u8 0) ht hi hz0 ⟨g, 0, none⟩ n cap (bv xs) (by rw [hz1]; exact HO.1) (World.ownsRow.cells HO (g := g) rfl) ⟨b, o, none⟩ m c (bv ys) (by rw [bv_length, hz1]; omega) hcells (by omega) (by omega) (by rw [hz2]; exact growslice_fits_wide (by omega) (by omega))
      have h6 : W.grownBy w1 none := by
        rw [hr] at hr2
        injection hr2 with e1 e2
        rw [e2]
        exact ⟨rfl, rfl, rfl, by simp, fun k hk _ => heap_alloc_old W.drew _ hk⟩
      have h5' : Own w1 base v1 (n + m) (xs ++ ys) := by unfold Own; rw [bv_append]; exact h5
      exact ⟨v1, w1, hr, h5', HO.other h6 (.inr (by simp [Value.ownBlock])), ⟨h6.os, h6.tape, h6.output, h6.size, fun k hk _ => h6.block k hk (by simp)⟩⟩
section
variable {ops : Array Oper} {rest : List Oper} {o : Oper} {a : Act} {Q : Exit → Act → World → Prop}
theorem wp_app_keep {w0 W : World} (base : Nat) {v : Value} {n : Nat} {xs ys : List UInt8} {A : Option Addr} {m c : Nat}
    (HO : Own W base v n xs) (HR : Rd W A m c ys) (HB : Below base w0 W) (hbase : base ≤ W.heap.size) (hl : n + m ≤ 140737490452480) (hm0 : 0 < m) (s x : Operand) (hgd : o.guard = none)
    (ho : o.op = .call { callee := .builtin .append, args := #[s, x], argTypes := #[31, 31] }) (hs : a.eval s = v) (hx : a.eval x = .slice A m c)
    (h : ∀ v1 w1, Own w1 base v1 (n + m) (xs ++ ys) → Own w1 base v n xs → Below base w0 w1 → W.grownBy w1 v.ownBlock → wpList Try.prog ops Q rest (a.put o.dst v1) w1) :
    wpList Try.prog ops Q (o :: rest) a W := by
  obtain ⟨v1, w1, hr, hown, hkeep, hg⟩ := run_app_keep base o.type HO HR hbase hl hm0
  refine wpList_plain hgd fun K hK => ?_
  unfold Oper.wp execOp
  simp only [ho, resolve, invoke, builtin, Sem.run_bind, Sem.run_pure, Result.andThen_ok, List.map_toArray, List.map_cons, List.map_nil, hs, hx, hr]
  refine hK _ _ (h v1 w1 hown hkeep (HB.grown hg hbase ?_) hg)
  intro k hk
  exact ((World.ownsRow.lt HO) k hk).1
end
/-! ### make([]byte, ..) -/
def zc (m : Nat) : Array Value := madeCells #[.int .u8 0] m
theorem mk_u8 (l m : Nat) (hl : l ≤ m) (hm : m ≤ 281474976710656) (W : World) :
    (Instr.makeSlice 31 (.int .i64 (l : Int)) (.int .i64 (m : Int))).run Try.prog W = .ok (.slice (some ⟨W.heap.size, 0, none⟩) l m) (W.alloc (.cells (zc m) 5)) := by
  obtain ⟨i0, hi, hzz⟩ := Option.map_eq_some_iff.1 info_u8
  simp only [Prod.mk.injEq] at hzz
  obtain ⟨hz0, hz1, hz2⟩ := hzz
  have := run_make W (P := Try.prog) 31 5 i0 (.int .u8 0) Try.underlying31 hi hz0 .i64 .i64 (l : Int) (m : Int) (by omega) (by omega) (by rw [hz2]; omega) (by omega)
  rw [this]
  simp [hz1, zc, Value.cells]
theorem mk_u8_0 (m : Nat) (hm : m ≤ 281474976710656) (W : World) :
    (Instr.makeSlice 31 (.int .i64 0) (.int .i64 (m : Int))).run Try.prog W = .ok (.slice (some ⟨W.heap.size, 0, none⟩) 0 m) (W.alloc (.cells (zc m) 5)) := mk_u8 0 m (Nat.zero_le _) hm W
theorem Own.empty (W : World) (base : Nat) (hb : base ≤ W.heap.size) : Own (W.alloc (.cells #[] 5)) base (.slice (some ⟨W.heap.size, 0, none⟩) 0 0) 0 [] :=
  World.ownsRow_made W _ _ hb (by simp [maxLen]) (by simp)
theorem Own.made0 (W : World) (base m : Nat) (hb : base ≤ W.heap.size) (hm : m ≤ 9223372036854775807) : Own (W.alloc (.cells (zc m) 5)) base (.slice (some ⟨W.heap.size, 0, none⟩) 0 m) 0 [] :=
  World.ownsRow_made W _ _ hb (by simpa [maxLen] using hm) (by simp [zc, size_madeCells])
end Go.Proofs.Ytlandlgjhnnaiaa
