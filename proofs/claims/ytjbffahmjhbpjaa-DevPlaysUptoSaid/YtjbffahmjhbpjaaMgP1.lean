/- Words on memory for all walks: a slice of bytes that is read. -/
import Derived.WalkKit
import Derived.KernelRfl
import Derived.RowKit
import Derived.Lib.Hide
import Derived.Deep.Draws
import Derived.Deep.MidRow
import Derived.Test.YtjbffahmjhbpjaaProg
import Derived.Maps.AppendAt
import Derived.ArgAppend
import Derived.Deep.DeepAppendWide
import Derived.Laws.BytesArg
import Derived.Lib.ConvBytes
import Derived.Lib.SlBytesConst
import Derived.Laws.CopyOwn
import Derived.Deep.RegionLaw
import Derived.Deep.QuietTactic
import Derived.BigQuiet
import Derived.IntWalk
import Derived.Deep.RegionHeld3
import Derived.Great.BuildSlice
import Derived.OrdersHeld
import Derived.StillTail
import Derived.OwnWalk
import Derived.Laws.Cover1
/- Words on memory for all walks: a slice of bytes that is read. -/
set_option linter.unusedVariables false
set_option linter.unusedSimpArgs false
namespace Go.Proofs.Ytjbffahmjhbpjaa
open Go.RowKit
theorem iv {k : IntKind} {a b : Int} (h : a = b) : Value.int k a = .int k b := by rw [h]
theorem ret_u32 {a b : Int} (h : a = b) : Ending.returned (.int .u32 a) = .returned (.int .u32 b) := by rw [h]
theorem cell_ext {w w' : World} (hb : Below w.heap.size w w') {p : Addr} {v : Value} (h : w.cell? p = some v) : w'.cell? p = some v := (hb.cell (World.block_lt_of_cell? w _ h)).trans h
structure Rd (w : World) (A : Option Addr) (n c : Nat) (l : List UInt8) : Prop where
  len : l.length = n
  cap : n ≤ c
  max : n ≤ 140737490452480
  at_ : 0 < n → ∃ b o, A = some ⟨b, o, none⟩ ∧ ∀ j, j < n → w.cell? ⟨b, o + j, none⟩ = some (.int .u8 ((l.getD j 0).toNat : Int))
theorem Rd.nil (w : World) : Rd w none 0 0 [] := ⟨rfl, Nat.le_refl _, by omega, fun hp => absurd hp (by omega)⟩
theorem Rd.ext {w w' : World} {A : Option Addr} {n c : Nat} {l : List UInt8} (h : Rd w A n c l) (hb : Below w.heap.size w w') : Rd w' A n c l :=
  ⟨h.len, h.cap, h.max, fun hn => by
    obtain ⟨b, o, e, hc⟩ := h.at_ hn
    exact ⟨b, o, e, fun j hj => (hb.cell (World.block_lt_of_cell? w _ (hc j hj))).trans (hc j hj)⟩⟩
theorem Rd.drew {w : World} {A : Option Addr} {n c : Nat} {l : List UInt8} (h : Rd w A n c l) (k : Nat) : Rd (w.drewN k) A n c l :=
  ⟨h.len, h.cap, h.max, h.at_⟩
theorem Rd.take {w : World} {A : Option Addr} {n c : Nat} {l : List UInt8} (h : Rd w A n c l) (m : Nat) (hm : m ≤ n) : Rd w A m c (l.take m) := by
  have := h.len
  refine ⟨by simp; omega, Nat.le_trans hm h.cap, Nat.le_trans hm h.max, fun hp => ?_⟩
  obtain ⟨b, o, e, hc⟩ := h.at_ (by omega)
  refine ⟨b, o, e, fun j hj => ?_⟩
  rw [hc j (by omega)]
  simp [List.getD_eq_getElem?_getD, hj]
theorem u8_lt (c : UInt8) : c.toNat < 256 := c.toNat_lt
theorem take_snoc {α : Type} (l : List α) (k : Nat) (d : α) (h : k < l.length) : l.take (k + 1) = l.take k ++ [l.getD k d] := by
  rw [List.take_succ_eq_append_getElem h, List.getD_eq_getElem?_getD, List.getElem?_eq_getElem h]; rfl

theorem below_drewN {B : Nat} {w W : World} (h : Below B w W) (n : Nat) : Below B w (W.drewN n) := ⟨h.os, h.tape, h.output, h.size, h.block⟩
/-! ### a run of cells written -/
theorem below_setCells {B b : Nat} (hb : B ≤ b) {a : World} : ∀ (vs : List Value) (o : Nat) {w : World}, Below B a w → Below B a (w.setCells b o vs)
  | [], _, _, h => h
  | v :: r, o, w, h => below_setCells hb r (o + 1) (h.setCell (p := ⟨b, o, none⟩) hb v)
def splc (cs : Array Value) (o : Nat) : List Value → Array Value
  | [] => cs
  | v :: r => splc (cs.setIfInBounds o v) (o + 1) r
theorem splc_size : ∀ (vs : List Value) (cs : Array Value) (o : Nat), (splc cs o vs).size = cs.size
  | [], _, _ => rfl
  | v :: r, cs, o => by rw [splc, splc_size r]; simp
theorem splc_get : ∀ (vs : List Value) (cs : Array Value) (o j : Nat), (splc cs o vs)[j]? = if o ≤ j ∧ j < o + vs.length ∧ j < cs.size then vs[j - o]? else cs[j]?
  | [], cs, o, j => by
    rw [splc, if_neg]
    intro h; simp at h; omega
  | v :: r, cs, o, j => by
    rw [splc, splc_get r, Array.size_setIfInBounds]
    by_cases h1 : o = j
    · subst h1
      rw [if_neg (by omega), Array.getElem?_setIfInBounds, if_pos rfl]
      by_cases h2 : o < cs.size
      · rw [if_pos h2, if_pos (by simp [h2])]; simp
      · rw [if_neg h2, if_neg (by omega), Array.getElem?_eq_none (by omega)]
    · rw [Array.getElem?_setIfInBounds, if_neg h1]
      by_cases h2 : o + 1 ≤ j ∧ j < o + 1 + r.length ∧ j < cs.size
      · rw [if_pos h2, if_pos (by simp only [List.length_cons]; omega)]
        rw [show j - o = (j - (o + 1)) + 1 by omega, List.getElem?_cons_succ]
      · rw [if_neg h2, if_neg (by simp only [List.length_cons]; omega)]
theorem splc_all (vs : List Value) (cs : Array Value) (h : vs.length = cs.size) : splc cs 0 vs = vs.toArray := by
  apply Array.ext_getElem?
  intro j
  rw [splc_get]
  by_cases hj : j < cs.size
  · rw [if_pos (by omega)]; simp
  · rw [if_neg (by omega), Array.getElem?_eq_none (by omega), Array.getElem?_eq_none (by simp; omega)]
theorem heap_setCells_at (b : Nat) (t : TypeId) : ∀ (vs : List Value) (o : Nat) (w : World) (cs : Array Value), w.heap[b]? = some (.cells cs t (0, 0)) →
    (w.setCells b o vs).heap[b]? = some (.cells (splc cs o vs) t (0, 0))
  | [], _, _, _, h => h
  | v :: r, o, w, cs, h => heap_setCells_at b t r (o + 1) _ _ (heap_setCell_same w b o cs t v h)
theorem heap_setCells_ne (b k : Nat) (hk : k ≠ b) : ∀ (vs : List Value) (o : Nat) (w : World), (w.setCells b o vs).heap[k]? = w.heap[k]?
  | [], _, _ => rfl
  | v :: r, o, w => by
    rw [World.setCells, heap_setCells_ne b k hk r, heap_setCell_other _ _ _ _ (by simpa using hk)]
theorem size_setCells (b : Nat) : ∀ (vs : List Value) (o : Nat) (w : World), (w.setCells b o vs).heap.size = w.heap.size
  | [], _, _ => rfl
  | v :: r, o, w => by
    rw [World.setCells, size_setCells b r]; simp
theorem there_of_row {w : World} {b : Nat} {cs : Array Value} {t : TypeId} (h : w.heap[b]? = some (.cells cs t (0, 0))) : w.there b 0 cs.size := by
  intro j hj
  refine ⟨?_, frozen_of_row w _ _ _ _ h⟩
  rw [cell_of_row w _ _ _ _ _ h, Nat.zero_add, Array.getElem?_eq_getElem hj]; rfl
end Go.Proofs.Ytjbffahmjhbpjaa
/- Words on memory: a slice of bytes that the call itself made, and append onto it. -/
set_option linter.unusedVariables false
set_option linter.unusedSimpArgs false
set_option maxRecDepth 100000
namespace Go.Proofs.Ytjbffahmjhbpjaa
open Go.RowKit
theorem info_u8 : (Try.prog.info? 5).map (fun i => (i.zero, i.size, i.bytes)) = some (some (.int .u8 0), 1, 1) := by kernel_rfl
def bv (l : List UInt8) : List Value := l.map fun c => .int .u8 (c.toNat : Int)
theorem bv_length (l : List UInt8) : (bv l).length = l.length := by simp [bv]
theorem bv_append (l m : List UInt8) : bv (l ++ m) = bv l ++ bv m := by simp [bv]
theorem bv_get (l : List UInt8) (j : Nat) (h : j < l.length) : (bv l)[j]? = some (.int .u8 ((l.getD j 0).toNat : Int)) := by
  simp [bv, List.getElem?_eq_getElem h, List.getD_eq_getElem?_getD]
theorem bv_one (l : List UInt8) : ∀ u ∈ bv l, u.oneCell' = true := by
  intro u hu; simp only [bv, List.mem_map] at hu; obtain ⟨c, _, rfl⟩ := hu; rfl
/-- v is a slice of bytes in a block from base on, unfrozen, that holds l (or nil and l empty). -/
def Own (w : World) (base : Nat) (v : Value) (n : Nat) (l : List UInt8) : Prop := w.ownsRow base 5 1 v n (bv l)
theorem Own.len {w : World} {base n : Nat} {v : Value} {l : List UInt8} (h : Own w base v n l) : l.length = n := by
  have := h.1; rwa [bv_length, Nat.mul_one] at this
theorem Own.nil (w : World) (base : Nat) : Own w base (.slice none 0 0) 0 [] := World.ownsRow_nil w base _ _
theorem Own.mono {w : World} {base base' n : Nat} {v : Value} {l : List UInt8} (h : Own w base v n l) (hb : base' ≤ base) : Own w base' v n l := by
  refine ⟨h.1, ?_⟩
  rcases h.2 with h | ⟨g, cap, cur, h1, h2, h3⟩
  · exact .inl h
  · exact .inr ⟨g, cap, cur, h1, Nat.le_trans hb h2, h3⟩
theorem Own.ext {w w' : World} {base n : Nat} {v : Value} {l : List UInt8} (h : Own w base v n l) (hb : Below w.heap.size w w') : Own w' base v n l := by
  refine World.ownsRow.kept (row := none) h ⟨hb.os, hb.tape, hb.output, hb.size, fun i hi _ => hb.block i hi⟩ ?_
  cases v.ownBlock <;> simp
theorem Own.drew {w : World} {base n : Nat} {v : Value} {l : List UInt8} (h : Own w base v n l) : Own w.drew base v n l := h
theorem Own.drewN {w : World} {base n : Nat} {v : Value} {l : List UInt8} (h : Own w base v n l) (k : Nat) : Own (w.drewN k) base v n l := h
theorem Own.alloc {w : World} {base n : Nat} {v : Value} {l : List UInt8} (h : Own w base v n l) (o : Obj) : Own (w.alloc o) base v n l := World.ownsRow.alloc h o
theorem Own.other {w w' : World} {base n : Nat} {v : Value} {l : List UInt8} (h : Own w base v n l) {row : Option Nat} (hg : w.grownBy w' row) (hne : v.ownBlock = none ∨ v.ownBlock ≠ row) : Own w' base v n l := World.ownsRow.kept h hg hne
theorem Own.rd {w : World} {base n : Nat} {v : Value} {l : List UInt8} (h : Own w base v n l) (hm : n ≤ 140737490452480) : ∃ A c, v = .slice A n c ∧ Rd w A n c l := by
  have hl := h.len
  rcases h.2 with ⟨rfl, h0⟩ | ⟨g, cap, cur, rfl, hb, hh, h1, h2, h3, h4⟩
  · subst h0
    exact ⟨none, 0, rfl, hl, Nat.le_refl _, by omega, fun hp => absurd hp (by omega)⟩
  · refine ⟨_, cap, rfl, hl, h1, hm, fun hp => ⟨g, 0, rfl, fun j hj => ?_⟩⟩
    have := World.ownsRow.cells h (g := g) rfl j _ (bv_get l j (by omega))
    rwa [Addr.add_mid] at this
theorem Own.form {w : World} {base n : Nat} {v : Value} {l : List UInt8} (h : Own w base v n l) (hp : 0 < n) : ∃ g c, v = .slice (some ⟨g, 0, none⟩) n c ∧ base ≤ g ∧ g < w.heap.size := by
  rcases h.2 with ⟨_, h0⟩ | ⟨g, cap, cur, rfl, hb, hh, _⟩
  · omega
  · exact ⟨g, cap, rfl, hb, lt_of_block hh⟩
def bstr (l : List UInt8) : ByteArray := ⟨l.toArray⟩
theorem bstr_size (l : List UInt8) : (bstr l).size = l.length := by simp [bstr, ByteArray.size]
theorem bstr_inj {l m : List UInt8} (h : bstr l = bstr m) : l = m := by
  have := congrArg (fun b : ByteArray => b.data.toList) h
  simpa [bstr] using this
theorem bstr_eq (s : ByteArray) : bstr s.data.toList = s := by cases s; rfl
theorem strOfNums_bytes (l : List UInt8) : strOfNums (l.map fun c => (c.toNat : Int)) = bstr l := by
  unfold strOfNums bstr
  congr 2
  rw [List.map_map]
  conv => rhs; rw [← List.map_id l]
  apply List.map_congr_left
  intro c _
  simp
/-- string(b) -/
theorem Rd.str {w : World} {A : Option Addr} {n c : Nat} {l : List UInt8} (h : Rd w A n c l) : (convert 29 9 (.slice A n c)).run Try.prog w = .ok (.string (bstr l)) w := by
  have hl := h.len
  rcases A with _ | ad
  · have h0 : n = 0 := by
      rcases Nat.eq_zero_or_pos n with h0 | h0
      · exact h0
      · obtain ⟨b, o', h, _⟩ := h.at_ h0
        cases h
    subst h0
    obtain rfl : l = [] := List.eq_nil_of_length_eq_zero hl
    exact run_convert_bytes_nil w 29 5 Try.underlying29 Try.underlying5 0 c 9 Try.underlying9
  · rcases Nat.eq_zero_or_pos n with h0 | h0
    · subst h0
      obtain rfl : l = [] := List.eq_nil_of_length_eq_zero hl
      rw [run_convert_bytes_string w 29 9 5 _ 0 c Try.underlying29 Try.underlying5 Try.underlying9]
      simp [Conv.bytesToString, loadCells, loadCellsFrom, bstr]
      rfl
    · obtain ⟨b, o', he, hc⟩ := h.at_ h0
      injection he with he
      subst he
      rw [← strOfNums_bytes]
      refine run_convert_bytes_arg w 29 5 Try.underlying29 Try.underlying5 b o' n c _ (by rw [List.length_map, hl]) (fun i hi => ?_) 9 Try.underlying9
      rw [hc i hi]
      congr 2
      have hi' : i < l.length := by omega
      simp [List.getD_eq_getElem?_getD, List.getElem?_eq_getElem hi']
/-- a literal block of bytes -/
theorem Rd.lit (w : World) (l : List UInt8) (n : Nat) (hn : l.length = n) (hm : n ≤ 140737490452480) (fr : Nat × Nat := (0, 0)) : Rd (w.alloc (.cells (bv l).toArray 5 fr)) (some ⟨w.heap.size, 0, none⟩) n n l :=
  ⟨hn, Nat.le_refl _, hm, fun _ => ⟨_, _, rfl, fun j hj => by
    rw [cell_of_row _ _ _ _ _ _ (heap_alloc_new w _)]
    simpa using bv_get l j (by omega)⟩⟩
section
variable {ops : Array Oper} {rest : List Oper} {o : Oper} {a : Act} {Q : Exit → Act → World → Prop}
theorem run_app {W : World} (base : Nat) (ty : TypeId) {v : Value} {n : Nat} {xs ys : List UInt8} {A : Option Addr} {m c : Nat}
    (HO : Own W base v n xs) (HR : Rd W A m c ys) (hbase : base ≤ W.heap.size) (hl : n + m ≤ 140737490452480) :
    ∃ v1 w1, (Builtin.append_ #[29, 29] ty #[v, .slice A m c]).run Try.prog W = .ok v1 w1 ∧ Own w1 base v1 (n + m) (xs ++ ys) ∧ W.grownBy w1 v.ownBlock ∧ (v1.ownBlock = v.ownBlock ∨ v1.ownBlock = some W.heap.size) := by
  obtain ⟨i0, hi, hzz⟩ := Option.map_eq_some_iff.1 info_u8
  simp only [Prod.mk.injEq] at hzz
  obtain ⟨hz0, hz1, hz2⟩ := hzz
  have ht := Try.underlying29
  have hm : ys.length = m := HR.len
  rcases A with _ | ad
  · have h0 : m = 0 := by
      rcases Nat.eq_zero_or_pos m with h0 | h0
      · exact h0
      · obtain ⟨b, o', h, _⟩ := HR.at_ h0
        cases h
    subst h0
    obtain rfl : ys = [] := List.eq_nil_of_length_eq_zero hm
    refine ⟨v, W, ?_, by simpa using HO, World.grownBy.refl W _, .inl rfl⟩
    rcases HO.2 with ⟨rfl, hn⟩ | ⟨g, cap, cur, rfl, _, _, hnc, _⟩
    · simp [Builtin.append_, run_underlying ht, sizeOf, typeInfo, hi, Builtin.lenOf, Builtin.firstCells]
    · simp [Builtin.append_, run_underlying ht, sizeOf, typeInfo, hi, Builtin.lenOf, Builtin.firstCells, hnc, storeCells]
  · have hcells : ∀ j u, (bv ys)[j]? = some u → W.cell? (ad.add j) = some u := by
      intro j u hu
      have hj : j < ys.length := by
        rcases Nat.lt_or_ge j ys.length with h | h
        · exact h
        · simp [bv, List.getElem?_eq_none h] at hu
      obtain ⟨b, o', h', hc⟩ := HR.at_ (by omega)
      injection h' with h'
      subst h'
      rw [bv_get ys j hj] at hu
      rw [Addr.add_mid, hc j (by omega), hu]
    obtain ⟨v1, w1, hr, h2, h3, h4⟩ := run_append_own_wide (P := Try.prog) W base 29 ty 5 i0 (.int .u8 0) 1 1 ht hi hz0 hz1 hz2 rfl (by omega) v n (bv xs) HO ad m c (bv ys) (by rw [bv_length]; omega) hcells
      (bv_one ys) (by simp only [maxLen]; omega) (by omega) hbase
    refine ⟨v1, w1, hr, by unfold Own; rw [bv_append]; exact h2, h3, ?_⟩
    rcases HO.2 with ⟨rfl, h0⟩ | ⟨g, cap, cur, rfl, hb, hh, hnc, hcm, hcs, htake⟩
    · by_cases hm0 : m = 0
      · rw [h4.2 ⟨rfl, hm0⟩]; exact .inl rfl
      · have hr2 := run_append_nil (P := Try.prog) W 29 ty 5 i0 (.int .u8 0) ht hi hz0 ad m c (bv ys) (by rw [bv_length, hz1]; omega) hcells (by omega) (by omega) (by rw [hz2]; omega)
        rw [hr] at hr2
        injection hr2 with e1 e2
        rw [e1]; exact .inr rfl
    · by_cases hroom : n + m ≤ cap
      · have hr2 := run_append_room (P := Try.prog) W 29 ty 5 i0 ht hi g n cap cur hh ad m c (bv ys) (by rw [bv_length, hz1]; omega) hcells (bv_one ys) hroom (by rw [bv_length, hz1]; omega)
        rw [hr] at hr2
        injection hr2 with e1 e2
        rw [e1]; exact .inl rfl
      · have hr2 := run_append_grow (P := Try.prog) W 29 ty 5 i0 (.int .u8 0) ht hi hz0 ⟨g, 0, none⟩ n cap (bv xs) (by rw [hz1]; exact HO.1) (World.ownsRow.cells HO (g := g) rfl) ad m c (bv ys) (by rw [bv_length, hz1]; omega) hcells (by omega) (by omega) (by rw [hz2]; exact growslice_fits_wide (by omega) (by omega))
        rw [hr] at hr2
        injection hr2 with e1 e2
        rw [e1]; exact .inr rfl
/-- append(v, ys...), v a row of the call's own, ys any slice that is read. -/
theorem wp_app {w0 W : World} (base : Nat) {v : Value} {n : Nat} {xs ys : List UInt8} {A : Option Addr} {m c : Nat}
    (HO : Own W base v n xs) (HR : Rd W A m c ys) (HB : Below base w0 W) (hbase : base ≤ W.heap.size) (hl : n + m ≤ 140737490452480) (s x : Operand) (hgd : o.guard = none)
    (ho : o.op = .call { callee := .builtin .append, args := #[s, x], argTypes := #[29, 29] }) (hs : a.eval s = v) (hx : a.eval x = .slice A m c)
    (h : ∀ v1 w1, Own w1 base v1 (n + m) (xs ++ ys) → Below base w0 w1 → W.grownBy w1 v.ownBlock → (v1.ownBlock = v.ownBlock ∨ v1.ownBlock = some W.heap.size) → wpList Try.prog ops Q rest (a.put o.dst v1) w1) :
    wpList Try.prog ops Q (o :: rest) a W := by
  obtain ⟨v1, w1, hr, hown, hg, hat⟩ := run_app base o.type HO HR hbase hl
  refine wpList_plain hgd fun K hK => ?_
  unfold Oper.wp execOp
  simp only [ho, resolve, invoke, builtin, Sem.run_bind, Sem.run_pure, Result.andThen_ok, List.map_toArray, List.map_cons, List.map_nil, hs, hx, hr]
  refine hK _ _ (h v1 w1 hown (HB.grown hg hbase ?_) hg hat)
  intro k hk
  exact ((World.ownsRow.lt HO) k hk).1
/-- the same as one step of a region that draws its order -/
theorem step_app {w0 W : World} {K : Act → World → Prop} {E : Prop} (base : Nat) {v : Value} {n : Nat} {xs ys : List UInt8} {A : Option Addr} {m c : Nat}
    (HO : Own W base v n xs) (HR : Rd W A m c ys) (HB : Below base w0 W) (hbase : base ≤ W.heap.size) (hl : n + m ≤ 140737490452480) (s x : Operand) (hgd : o.guard = none)
    (ho : o.op = .call { callee := .builtin .append, args := #[s, x], argTypes := #[29, 29] }) (hs : a.eval s = v) (hx : a.eval x = .slice A m c)
    (h : ∀ v1 w1, Own w1 base v1 (n + m) (xs ++ ys) → Below base w0 w1 → W.grownBy w1 v.ownBlock → (v1.ownBlock = v.ownBlock ∨ v1.ownBlock = some W.heap.size) → K (a.put o.dst v1) w1) :
    if Region.wanted o (yielded ops a.tmps) = true then Oper.wp Try.prog o a W K Q else E := by
  have hw : Region.wanted o (yielded ops a.tmps) = true := by simp [Region.wanted, hgd]
  rw [if_pos hw]
  obtain ⟨v1, w1, hr, hown, hg, hat⟩ := run_app base o.type HO HR hbase hl
  unfold Oper.wp execOp
  simp only [ho, resolve, invoke, builtin, Sem.run_bind, Sem.run_pure, Result.andThen_ok, List.map_toArray, List.map_cons, List.map_nil, hs, hx, hr]
  refine h v1 w1 hown (HB.grown hg hbase ?_) hg hat
  intro k hk
  exact ((World.ownsRow.lt HO) k hk).1
/-- append(v, c), one byte: behind its box. -/
theorem wp_app1 {w0 W : World} (base : Nat) {v : Value} {n : Nat} {xs : List UInt8} (c : UInt8)
    (HO : Own W base v n xs) (HB : Below base w0 W) (hbase : base ≤ W.heap.size) (hl : n + 1 ≤ 140737490452480) (s x : Operand) (hgd : o.guard = none)
    (ho : o.op = .call { callee := .builtin .append, args := #[s, x], argTypes := #[29, 29] }) (hs : a.eval s = v) (hx : a.eval x = .slice (some ⟨W.heap.size, 0, none⟩) 1 1)
    (h : ∀ v1 w1, Own w1 base v1 (n + 1) (xs ++ [c]) → Below base w0 w1 → W.grownBy w1 v.ownBlock → (v1.ownBlock = v.ownBlock ∨ ∃ b, v1.ownBlock = some b ∧ W.heap.size ≤ b) → wpList Try.prog ops Q rest (a.put o.dst v1) w1) :
    wpList Try.prog ops Q (o :: rest) a (W.alloc (.cells #[.int .u8 (c.toNat : Int)] 5)) := by
  refine wp_app base (HO.alloc _) (Rd.lit W [c] 1 rfl (by decide)) (HB.alloc hbase _) (by simp; omega) hl s x hgd ho hs hx ?_
  intro v1 w1 hO hB hG hat
  refine h v1 w1 hO hB ((World.grownBy_alloc W _ _).trans hG) ?_
  rcases hat with hat | hat
  · exact .inl hat
  · exact .inr ⟨_, hat, by simp⟩
end
/-- b[m:], whatever the capacity. -/
theorem cut_from (A : Option Addr) (n c m : Nat) (hm : m ≤ n) :
    ∃ A' : Option Addr, (∀ W : World, (Instr.slice 29 (.slice A n c) (some (.int .i64 (m : Int))) none none).run Try.prog W = .ok (.slice A' (n - m) (c - m)) W) ∧
      ∀ (w : World) (l : List UInt8), Rd w A n c l → Rd w A' (n - m) (c - m) (l.drop m) := by
  obtain ⟨i0, hi, hzz⟩ := Option.map_eq_some_iff.1 info_u8
  simp only [Prod.mk.injEq] at hzz
  obtain ⟨hz0, hz1, hz2⟩ := hzz
  refine ⟨if c = m then A else A.map (·.add m), fun W => ?_, fun w l h => ?_⟩
  · have hel : Try.prog.elem 29 = 5 := by simp [Program.elem, Try.underlying29]
    have hu : Try.prog.underlying 29 = some (.slice (Try.prog.elem 29)) := by rw [hel]; exact Try.underlying29
    rw [run_slice_l W 29 A n c hu .i64 (m : Int) (Int.natCast_nonneg _) (by omega), hel]
    simp [sizeOf, typeInfo, hi, hz1, sliced, Result.andThen]
  · have h1 := h.len
    have h2 := h.cap
    have h3 := h.max
    refine ⟨by simp; omega, by omega, by omega, fun hp => ?_⟩
    obtain ⟨b, o, rfl, hc⟩ := h.at_ (by omega)
    rw [if_neg (by omega)]
    refine ⟨b, o + m, by simp [Addr.add_mid], fun j hj => ?_⟩
    have := hc (m + j) (by omega)
    rw [← Nat.add_assoc] at this
    rw [this]
    simp [List.getD_eq_getElem?_getD]
/-- The cells of a slice of slices of bytes hold the lists ls. -/
structure Rds (w : World) (A : Option Addr) (n c : Nat) (ls : List (List UInt8)) : Prop where
  len : ls.length = n
  cap : n ≤ c
  max : n ≤ 140737488355328
  at_ : 0 < n → ∃ b o, A = some ⟨b, o, none⟩ ∧ ∀ j, j < n → ∃ A1 n1 c1, w.cell? ⟨b, o + j, none⟩ = some (.slice A1 n1 c1) ∧ Rd w A1 n1 c1 (ls.getD j [])
theorem Rds.ext {w w' : World} {A : Option Addr} {n c : Nat} {ls : List (List UInt8)} (h : Rds w A n c ls) (hb : Below w.heap.size w w') : Rds w' A n c ls :=
  ⟨h.len, h.cap, h.max, fun hn => by
    obtain ⟨b, o, e, hc⟩ := h.at_ hn
    refine ⟨b, o, e, fun j hj => ?_⟩
    obtain ⟨A1, n1, c1, h1, h2⟩ := hc j hj
    exact ⟨A1, n1, c1, (hb.cell (World.block_lt_of_cell? w _ h1)).trans h1, h2.ext hb⟩⟩
theorem Rds.drew {w : World} {A : Option Addr} {n c : Nat} {ls : List (List UInt8)} (h : Rds w A n c ls) (k : Nat) : Rds (w.drewN k) A n c ls :=
  ⟨h.len, h.cap, h.max, fun hn => by
    obtain ⟨b, o, e, hc⟩ := h.at_ hn
    refine ⟨b, o, e, fun j hj => ?_⟩
    obtain ⟨A1, n1, c1, h1, h2⟩ := hc j hj
    exact ⟨A1, n1, c1, h1, h2.drew k⟩⟩
/-- b[lo:hi], whatever the capacity. -/
theorem cut_mid (A : Option Addr) (n c lo hi : Nat) (h1 : lo ≤ hi) (h2 : hi ≤ n) (h3 : n ≤ c) :
    ∃ A' : Option Addr, (∀ W : World, (Instr.slice 29 (.slice A n c) (some (.int .i64 (lo : Int))) (some (.int .i64 (hi : Int))) none).run Try.prog W = .ok (.slice A' (hi - lo) (c - lo)) W) ∧
      ∀ (w : World) (l : List UInt8), Rd w A n c l → Rd w A' (hi - lo) (c - lo) ((l.drop lo).take (hi - lo)) := by
  obtain ⟨A1, e1, r1⟩ := cut_from A n c lo (by omega)
  obtain ⟨i0, hi0, hzz⟩ := Option.map_eq_some_iff.1 info_u8
  simp only [Prod.mk.injEq] at hzz
  obtain ⟨hz0, hz1, hz2⟩ := hzz
  refine ⟨if c = lo then A else A.map (·.add lo), fun W => ?_, fun w l h => ?_⟩
  · have hel : Try.prog.elem 29 = 5 := by simp [Program.elem, Try.underlying29]
    have hu : Try.prog.underlying 29 = some (.slice (Try.prog.elem 29)) := by rw [hel]; exact Try.underlying29
    rw [run_slice_lh W 29 A n c hu .i64 .i64 (lo : Int) (hi : Int) (Int.natCast_nonneg _) (by omega) (by omega), hel]
    simp [sizeOf, typeInfo, hi0, hz1, sliced, Result.andThen]
  · have q1 := h.len
    have q2 := h.cap
    have q3 := h.max
    refine ⟨by simp; omega, by omega, by omega, fun hp => ?_⟩
    obtain ⟨b, o, rfl, hc⟩ := h.at_ (by omega)
    rw [if_neg (by omega)]
    refine ⟨b, o + lo, by simp [Addr.add_mid], fun j hj => ?_⟩
    have := hc (lo + j) (by omega)
    rw [← Nat.add_assoc] at this
    rw [this]
    simp [List.getD_eq_getElem?_getD, hj]
/-! ### a cell of a row of the call's own is read, and written -/
theorem Own.cell {W : World} {base n g cap : Nat} {l : List UInt8} (h : Own W base (.slice (some ⟨g, 0, none⟩) n cap) n l) (j : Nat) (hj : j < n) : W.cell? ⟨g, j, none⟩ = some (.int .u8 ((l.getD j 0).toNat : Int)) := by
  have := World.ownsRow.cellAt h j (by omega)
  rw [this, bv_get l j (by rw [h.len]; exact hj)]
theorem Own.free {W : World} {base n g cap : Nat} {l : List UInt8} (h : Own W base (.slice (some ⟨g, 0, none⟩) n cap) n l) (j : Nat) : W.frozen? ⟨g, j, none⟩ = false := World.ownsRow.frozenAt h j
theorem Own.store {W : World} {base n g cap : Nat} {l : List UInt8} (h : Own W base (.slice (some ⟨g, 0, none⟩) n cap) n l) (j : Nat) (c : UInt8) : Own (W.setCell ⟨g, j, none⟩ (.int .u8 (c.toNat : Int))) base (.slice (some ⟨g, 0, none⟩) n cap) n (l.set j c) := by
  have := (World.ownsRow.stored h j (.int .u8 (c.toNat : Int))).1
  unfold Own
  rwa [show bv (l.set j c) = (bv l).set j (.int .u8 (c.toNat : Int)) by simp [bv, List.map_set]]
theorem Own.base_le {W : World} {base n g cap : Nat} {l : List UInt8} (h : Own W base (.slice (some ⟨g, 0, none⟩) n cap) n l) : base ≤ g := ((World.ownsRow.lt h) g rfl).1
theorem Own.below_store {W : World} {base n : Nat} {v : Value} {l : List UInt8} (h : Own W base v n l) {p : Addr} (hp : p.block < base) (u : Value) : Own (W.setCell p u) base v n l := ownsRow_setCell_below h hp u
theorem Own.shorter {W : World} {base n m g cap : Nat} {l l2 : List UInt8} (h : Own W base (.slice (some ⟨g, 0, none⟩) (n + m) cap) (n + m) (l ++ l2)) (hl : l.length = n) : Own W base (.slice (some ⟨g, 0, none⟩) n cap) n l := by
  have hlen := h.len
  rcases h.2 with ⟨h', _⟩ | ⟨g', cap', cur, h', hb, hg, hnc, hcm, hcs, htake⟩
  · simp at h'
  · simp only [Value.slice.injEq, Option.some.injEq, Addr.mk.injEq, and_true, true_and] at h'
    obtain ⟨rfl, rfl⟩ := h'
    refine ⟨by rw [bv_length]; omega, .inr ⟨g, cap, cur, rfl, hb, hg, by omega, hcm, hcs, ?_⟩⟩
    have := congrArg (List.take n) htake
    rw [List.take_take, show min n ((n + m) * 1) = n * 1 by omega, bv_append, List.take_append_of_le_length (by rw [bv_length]; omega)] at this
    rw [this]
    exact List.take_of_length_le (by rw [bv_length]; omega)
/-- append(v, ys...) leaves v itself as it was. -/
theorem run_app_keep {W : World} (base : Nat) (ty : TypeId) {v : Value} {n : Nat} {xs ys : List UInt8} {A : Option Addr} {m c : Nat}
    (HO : Own W base v n xs) (HR : Rd W A m c ys) (hbase : base ≤ W.heap.size) (hl : n + m ≤ 140737490452480) (hm0 : 0 < m) :
    ∃ v1 w1, (Builtin.append_ #[29, 29] ty #[v, .slice A m c]).run Try.prog W = .ok v1 w1 ∧ Own w1 base v1 (n + m) (xs ++ ys) ∧ Own w1 base v n xs ∧ W.grownBy w1 v.ownBlock := by
  obtain ⟨i0, hi, hzz⟩ := Option.map_eq_some_iff.1 info_u8
  simp only [Prod.mk.injEq] at hzz
  obtain ⟨hz0, hz1, hz2⟩ := hzz
  have ht := Try.underlying29
  rcases HO.2 with ⟨rfl, h0⟩ | ⟨g, cap, cur, rfl, hb, hh, h1, h2, h3, h4⟩
  · subst h0
    obtain ⟨v1, w1, hr, h1, h2, h3⟩ := run_app base ty HO HR hbase hl
    obtain rfl : xs = [] := List.eq_nil_of_length_eq_zero HO.len
    exact ⟨v1, w1, hr, h1, Own.nil _ _, h2⟩
  · have hm : ys.length = m := HR.len
    obtain ⟨b, o, rfl, hc⟩ := HR.at_ hm0
    have hcells : ∀ j u, (bv ys)[j]? = some u → W.cell? ((⟨b, o, none⟩ : Addr).add j) = some u := by
      intro j u hu
      have hj : j < ys.length := by
        rcases Nat.lt_or_ge j ys.length with h | h
        · exact h
        · simp [bv, List.getElem?_eq_none h] at hu
      rw [bv_get ys j hj] at hu
      rw [Addr.add_mid, hc j (by omega), hu]
    by_cases hroom : n + m ≤ cap
    · obtain ⟨w1, hr, h5, h6⟩ := run_append_fits (P := Try.prog) W base 29 ty 5 i0 1 ht hi hz1 g n cap (bv xs) HO ⟨b, o, none⟩ m c (bv ys) (by rw [bv_length]; omega) hcells (bv_one ys) hroom
      have h5' : Own w1 base (.slice (some ⟨g, 0, none⟩) (n + m) cap) (n + m) (xs ++ ys) := by unfold Own; rw [bv_append]; exact h5
      exact ⟨_, w1, hr, h5', h5'.shorter HO.len, h6⟩
    · obtain ⟨v1, w1, hr, h5, _, _⟩ := run_append_own_wide (P := Try.prog) W base 29 ty 5 i0 (.int .u8 0) 1 1 ht hi hz0 hz1 hz2 rfl (by omega) _ n (bv xs) HO ⟨b, o, none⟩ m c (bv ys) (by rw [bv_length]; omega) hcells
        (bv_one ys) (by simp only [maxLen]; omega) (by omega) hbase
      have hr2 := run_append_grow (P := Try.prog) W 29 ty 5 i0 (.int .u8 0) ht hi hz0 ⟨g, 0, none⟩ n cap (bv xs) (by rw [hz1]; exact HO.1) (World.ownsRow.cells HO (g := g) rfl) ⟨b, o, none⟩ m c (bv ys) (by rw [bv_length, hz1]; omega) hcells (by omega) (by omega) (by rw [hz2]; exact growslice_fits_wide (by omega) (by omega))
      have h6 : W.grownBy w1 none := by
        rw [hr] at hr2
        injection hr2 with e1 e2
        rw [e2]
        exact ⟨rfl, rfl, rfl, by simp, fun k hk _ => heap_alloc_old W.drew _ hk⟩
      have h5' : Own w1 base v1 (n + m) (xs ++ ys) := by unfold Own; rw [bv_append]; exact h5
      exact ⟨v1, w1, hr, h5', HO.other h6 (.inr (by simp [Value.ownBlock])), ⟨h6.os, h6.tape, h6.output, h6.size, fun k hk _ => h6.block k hk (by simp)⟩⟩
section
variable {ops : Array Oper} {rest : List Oper} {o : Oper} {a : Act} {Q : Exit → Act → World → Prop}
theorem wp_app_keep {w0 W : World} (base : Nat) {v : Value} {n : Nat} {xs ys : List UInt8} {A : Option Addr} {m c : Nat}
    (HO : Own W base v n xs) (HR : Rd W A m c ys) (HB : Below base w0 W) (hbase : base ≤ W.heap.size) (hl : n + m ≤ 140737490452480) (hm0 : 0 < m) (s x : Operand) (hgd : o.guard = none)
    (ho : o.op = .call { callee := .builtin .append, args := #[s, x], argTypes := #[29, 29] }) (hs : a.eval s = v) (hx : a.eval x = .slice A m c)
    (h : ∀ v1 w1, Own w1 base v1 (n + m) (xs ++ ys) → Own w1 base v n xs → Below base w0 w1 → W.grownBy w1 v.ownBlock → wpList Try.prog ops Q rest (a.put o.dst v1) w1) :
    wpList Try.prog ops Q (o :: rest) a W := by
  obtain ⟨v1, w1, hr, hown, hkeep, hg⟩ := run_app_keep base o.type HO HR hbase hl hm0
  refine wpList_plain hgd fun K hK => ?_
  unfold Oper.wp execOp
  simp only [ho, resolve, invoke, builtin, Sem.run_bind, Sem.run_pure, Result.andThen_ok, List.map_toArray, List.map_cons, List.map_nil, hs, hx, hr]
  refine hK _ _ (h v1 w1 hown hkeep (HB.grown hg hbase ?_) hg)
  intro k hk
  exact ((World.ownsRow.lt HO) k hk).1
end
/-! ### make([]byte, ..) -/
def zc (m : Nat) : Array Value := madeCells #[.int .u8 0] m
theorem mk_u8 (l m : Nat) (hl : l ≤ m) (hm : m ≤ 281474976710656) (W : World) :
    (Instr.makeSlice 29 (.int .i64 (l : Int)) (.int .i64 (m : Int))).run Try.prog W = .ok (.slice (some ⟨W.heap.size, 0, none⟩) l m) (W.alloc (.cells (zc m) 5)) := by
  obtain ⟨i0, hi, hzz⟩ := Option.map_eq_some_iff.1 info_u8
  simp only [Prod.mk.injEq] at hzz
  obtain ⟨hz0, hz1, hz2⟩ := hzz
  have := run_make W (P := Try.prog) 29 5 i0 (.int .u8 0) Try.underlying29 hi hz0 .i64 .i64 (l : Int) (m : Int) (by omega) (by omega) (by rw [hz2]; omega) (by omega)
  rw [this]
  simp [hz1, zc, Value.cells]
theorem mk_u8_0 (m : Nat) (hm : m ≤ 281474976710656) (W : World) :
    (Instr.makeSlice 29 (.int .i64 0) (.int .i64 (m : Int))).run Try.prog W = .ok (.slice (some ⟨W.heap.size, 0, none⟩) 0 m) (W.alloc (.cells (zc m) 5)) := mk_u8 0 m (Nat.zero_le _) hm W
theorem Own.empty (W : World) (base : Nat) (hb : base ≤ W.heap.size) : Own (W.alloc (.cells #[] 5)) base (.slice (some ⟨W.heap.size, 0, none⟩) 0 0) 0 [] :=
  World.ownsRow_made W _ _ hb (by simp [maxLen]) (by simp)
theorem Own.made0 (W : World) (base m : Nat) (hb : base ≤ W.heap.size) (hm : m ≤ 9223372036854775807) : Own (W.alloc (.cells (zc m) 5)) base (.slice (some ⟨W.heap.size, 0, none⟩) 0 m) 0 [] :=
  World.ownsRow_made W _ _ hb (by simpa [maxLen] using hm) (by simp [zc, size_madeCells])
end Go.Proofs.Ytjbffahmjhbpjaa
/- Words on memory: only the blocks of S may have changed; ints as values; a slice of ints that is read. -/
set_option linter.unusedVariables false
set_option linter.unusedSimpArgs false
namespace Go.Proofs.Ytjbffahmjhbpjaa
open Go.RowKit
/-- Of the blocks that were, only those of S changed. -/
structure Only (S : List Nat) (w w' : World) : Prop where
  os : w'.os = w.os
  tape : w'.tape = w.tape
  output : w'.output = w.output
  size : w.heap.size ≤ w'.heap.size
  blk : ∀ k, k < w.heap.size → k ∉ S → w'.heap[k]? = w.heap[k]?
theorem Only.refl (S : List Nat) (w : World) : Only S w w := ⟨rfl, rfl, rfl, Nat.le_refl _, fun _ _ _ => rfl⟩
theorem Only.trans {S : List Nat} {a b c : World} (h : Only S a b) (k : Only S b c) : Only S a c :=
  ⟨k.os.trans h.os, k.tape.trans h.tape, k.output.trans h.output, Nat.le_trans h.size k.size, fun i hi hs => (k.blk i (Nat.lt_of_lt_of_le hi h.size) hs).trans (h.blk i hi hs)⟩
theorem Only.of_below {w w' : World} (S : List Nat) (h : Below w.heap.size w w') : Only S w w' := ⟨h.os, h.tape, h.output, h.size, fun k hk _ => h.block k hk⟩
theorem Only.below {B : Nat} {w w' : World} {S : List Nat} (h : Only S w w') (hB : B ≤ w.heap.size) (hS : ∀ k ∈ S, B ≤ k) : Below B w w' := ⟨h.os, h.tape, h.output, h.size, fun k hk => h.blk k (Nat.lt_of_lt_of_le hk hB) (fun hm => by have := hS k hm; omega)⟩
theorem Only.mono {S S' : List Nat} {w w' : World} (h : Only S w w') (hs : ∀ k ∈ S, k ∈ S') : Only S' w w' := ⟨h.os, h.tape, h.output, h.size, fun k hk hn => h.blk k hk (fun hm => hn (hs k hm))⟩
theorem Only.setCell {S : List Nat} {a w : World} (h : Only S a w) {p : Addr} (hp : p.block ∈ S) (u : Value) : Only S a (w.setCell p u) :=
  h.trans ⟨rfl, rfl, rfl, by simp, fun k _ hk => heap_setCell_other w p k u (fun e => hk (e ▸ hp))⟩
theorem Only.setNew {S : List Nat} {a w : World} (h : Only S a w) {p : Addr} (hp : a.heap.size ≤ p.block) (u : Value) : Only S a (w.setCell p u) :=
  ⟨h.os, h.tape, h.output, by have := h.size; simpa using this, fun k hk hs => (heap_setCell_other w p k u (by omega)).trans (h.blk k hk hs)⟩
theorem Only.drew {S : List Nat} {a w : World} (h : Only S a w) : Only S a w.drew := ⟨h.os, h.tape, h.output, h.size, h.blk⟩
theorem Only.drewN {S : List Nat} {a w : World} (h : Only S a w) (n : Nat) : Only S a (w.drewN n) := ⟨h.os, h.tape, h.output, h.size, h.blk⟩
theorem Only.alloc {S : List Nat} {a w : World} (h : Only S a w) (o : Obj) : Only S a (w.alloc o) :=
  h.trans ⟨rfl, rfl, rfl, by simp, fun k hk _ => Below.heap_alloc w o k hk⟩
/-- ints as values -/
def iv_ (xs : List Int) : List Value := xs.map fun x => .int .i64 x
theorem iv_length (xs : List Int) : (iv_ xs).length = xs.length := by simp [iv_]
theorem iv_append (xs ys : List Int) : iv_ (xs ++ ys) = iv_ xs ++ iv_ ys := by simp [iv_]
theorem iv_get (xs : List Int) (j : Nat) (h : j < xs.length) : (iv_ xs)[j]? = some (.int .i64 (xs.getD j 0)) := by
  simp [iv_, List.getElem?_eq_getElem h, List.getD_eq_getElem?_getD]
theorem iv_one (xs : List Int) : ∀ u ∈ iv_ xs, u.oneCell' = true := by
  intro u hu; simp only [iv_, List.mem_map] at hu; obtain ⟨c, _, rfl⟩ := hu; rfl
/-- The cells of a slice of ints hold the list l; none of its cells lies in the blocks of D. -/
structure RdI (D : List Nat) (w : World) (A : Option Addr) (n c : Nat) (l : List Int) : Prop where
  len : l.length = n
  cap : n ≤ c
  max : n ≤ 140737488355328
  at_ : 0 < n → ∃ b o, A = some ⟨b, o, none⟩ ∧ b ∉ D ∧ ∀ j, j < n → w.cell? ⟨b, o + j, none⟩ = some (.int .i64 (l.getD j 0))
theorem RdI.nil (D : List Nat) (w : World) : RdI D w none 0 0 [] := ⟨rfl, Nat.le_refl _, by omega, fun hp => absurd hp (by omega)⟩
theorem RdI.only {D S : List Nat} {w w' : World} {A : Option Addr} {n c : Nat} {l : List Int} (h : RdI D w A n c l) (hw : Only S w w') (hs : ∀ k ∈ S, k ∈ D) : RdI D w' A n c l :=
  ⟨h.len, h.cap, h.max, fun hn => by
    obtain ⟨b, o, e, hb, hc⟩ := h.at_ hn
    refine ⟨b, o, e, hb, fun j hj => ?_⟩
    have hlt := World.block_lt_of_cell? w _ (hc j hj)
    have := hw.blk b hlt (fun hm => hb (hs b hm))
    exact (World.cell?_of_block (w := w) (a := ⟨b, o + j, none⟩) this).trans (hc j hj)⟩
theorem RdI.ext {D : List Nat} {w w' : World} {A : Option Addr} {n c : Nat} {l : List Int} (h : RdI D w A n c l) (hb : Below w.heap.size w w') : RdI D w' A n c l := h.only (Only.of_below D hb) (fun _ h => h)
theorem RdI.sub {D D' : List Nat} {w : World} {A : Option Addr} {n c : Nat} {l : List Int} (h : RdI D w A n c l) (hs : ∀ k ∈ D', k ∈ D) : RdI D' w A n c l :=
  ⟨h.len, h.cap, h.max, fun hn => by
    obtain ⟨b, o, e, hb, hc⟩ := h.at_ hn
    exact ⟨b, o, e, fun hm => hb (hs b hm), hc⟩⟩
end Go.Proofs.Ytjbffahmjhbpjaa
/- The device: its memory, and the walks of New, Blocks and Of. -/
set_option linter.unusedVariables false
set_option linter.unusedSimpArgs false
namespace Go.Proofs.Ytjbffahmjhbpjaa
open Go.RowKit
theorem info_blk : (Try.prog.info? 78).map (fun i => (i.zero, i.size, i.bytes)) = some (some (.agg (Array.replicate 512 (.int .u8 0))), 512, 512) := by kernel_rfl
theorem sz_u8 : (Try.prog.info? 5).map (·.size) = some 1 := by kernel_rfl
theorem Rd.cellsAt {w : World} {bb oo n c : Nat} {L : List UInt8} (h : Rd w (some ⟨bb, oo, none⟩) n c L) (i m : Nat) (hi : i + m ≤ n) : ∀ j v, (bv ((L.drop i).take m))[j]? = some v → w.cell? ((⟨bb, oo + i, none⟩ : Addr).add j) = some v := by
  intro j v hv
  have hl := h.len
  have hj : j < m := by
    rcases Nat.lt_or_ge j m with h | h
    · exact h
    · rw [List.getElem?_eq_none (by rw [bv_length]; simp; omega)] at hv; cases hv
  obtain ⟨b', o', he, hc⟩ := h.at_ (by omega)
  injection he with he
  injection he with h1 h2
  subst h1 h2
  rw [bv_get _ _ (by simp; omega)] at hv
  rw [Addr.add_mid, Nat.add_assoc, hc (i + j) (by omega), ← hv]
  simp [List.getD_eq_getElem?_getD, hj]
theorem zc_bv (m : Nat) : zc m = (bv (List.replicate m 0)).toArray := by
  apply Array.ext'
  simp only [zc, bv, madeCells]
  apply List.ext_getElem
  · simp
  · intro i h1 h2
    simp [Nat.mod_one]
theorem Rd.zc (w : World) (m : Nat) (hm : m ≤ 140737488355328) : Rd (w.alloc (.cells (zc m) 5)) (some ⟨w.heap.size, 0, none⟩) m m (List.replicate m 0) := by
  rw [zc_bv]
  exact Rd.lit w _ m (by simp) (by omega)
theorem bv_zero (m : Nat) : bv (List.replicate m 0) = List.replicate m (.int .u8 0) := by simp [bv]
theorem madeCells_rep (u : Value) (k m : Nat) (hk : 0 < k) : madeCells (Array.replicate k u) m = (List.replicate m u).toArray := by
  apply Array.ext'
  simp only [madeCells]
  apply List.ext_getElem
  · simp
  · intro i h1 h2
    have : i % k < k := Nat.mod_lt _ hk
    simp [this]
theorem mk_blk (m : Nat) (hm : m ≤ 4096) (W : World) :
    (Instr.makeSlice 73 (.int .i64 (m : Int)) (.int .i64 (m : Int))).run Try.prog W = .ok (.slice (some ⟨W.heap.size, 0, none⟩) m m) (W.alloc (.cells (bv (List.replicate (m * 512) 0)).toArray 78)) := by
  obtain ⟨i0, hi, hzz⟩ := Option.map_eq_some_iff.1 info_blk
  simp only [Prod.mk.injEq] at hzz
  obtain ⟨hz0, hz1, hz2⟩ := hzz
  have := run_make W (P := Try.prog) 73 78 i0 _ Try.underlying73 hi hz0 .i64 .i64 (m : Int) (m : Int) (by omega) (by omega) (by rw [hz2]; omega) (by omega)
  rw [this]
  have hc : (Value.agg (Array.replicate 512 (.int .u8 0))).cells = Array.replicate 512 (.int .u8 0) := by rfl
  simp only [hc, madeCells_rep _ _ _ (show 0 < 512 by omega), bv_zero, Int.toNat_natCast, hz1]
/-- a device: its struct in block b, its medium in block g -/
structure IsDev (w : World) (b g n : Nat) (M : List UInt8) (vc : Value) (left : Int) (armed down : Bool) (rd wr fl : Int) : Prop where
  st : w.heap[b]? = some (.cells #[.slice (some ⟨g, 0, none⟩) n n, vc, .int .i64 left, .bool armed, .bool down, .int .i64 rd, .int .i64 wr, .int .i64 fl] 76 (0, 0))
  med : w.heap[g]? = some (.cells (bv M).toArray 78 (0, 0))
  len : M.length = n * 512
  ne : b ≠ g
  small : 64 ≤ n ∧ n ≤ 4096
section
variable {w : World} {b g n : Nat} {M : List UInt8} {vc : Value} {left rd wr fl : Int} {armed down : Bool}
theorem IsDev.cell (h : IsDev w b g n M vc left armed down rd wr fl) (j : Nat) : w.cell? ⟨b, j, none⟩ = #[.slice (some ⟨g, 0, none⟩) n n, vc, .int .i64 left, .bool armed, .bool down, .int .i64 rd, .int .i64 wr, .int .i64 fl][j]? := by
  rw [cell_of_row _ _ _ _ _ _ h.st]
theorem IsDev.c0 (h : IsDev w b g n M vc left armed down rd wr fl) : w.cell? ⟨b, 0, none⟩ = some (.slice (some ⟨g, 0, none⟩) n n) := h.cell 0
theorem IsDev.only {w' : World} {S : List Nat} (h : IsDev w b g n M vc left armed down rd wr fl) (hw : Only S w w') (hb : b ∉ S) (hg : g ∉ S) : IsDev w' b g n M vc left armed down rd wr fl :=
  ⟨(hw.blk b (lt_of_block h.st) hb).trans h.st, (hw.blk g (lt_of_block h.med) hg).trans h.med, h.len, h.ne, h.small⟩
theorem IsDev.ext {w' : World} (h : IsDev w b g n M vc left armed down rd wr fl) (hw : Below w.heap.size w w') : IsDev w' b g n M vc left armed down rd wr fl := h.only (Only.of_below [] hw) (by simp) (by simp)
end
/-- copy into a row, as one step of a region that draws: only that row changes. -/
theorem step_copy_only {P : Program} {ops : Array Oper} {o : Oper} {a : Act} {w : World} {K : Act → World → Prop} {Q : Exit → Act → World → Prop} {E : Prop} (hgd : o.guard = none) (d s : Operand) (dT sT : TypeId)
    (ho : o.op = .call { callee := .builtin .copy, args := #[d, s], argTypes := #[dT, sT] }) (elem : TypeId) (hu : P.underlying dT = some (.slice elem)) (hsz : (P.info? elem).map (·.size) = some 1)
    (g off dLen dCap : Nat) (ad : Addr) (sLen sCap : Nat) (hd : a.eval d = .slice (some ⟨g, off, none⟩) dLen dCap) (hs : a.eval s = .slice (some ad) sLen sCap)
    (cur : List Value) (t : TypeId) (hg : w.heap[g]? = some (.cells cur.toArray t (0, 0))) (cs : List Value) (hn : cs.length = Nat.min sLen dLen)
    (hsrc : ∀ j v, cs[j]? = some v → w.cell? (ad.add j) = some v) (hfit : off + cs.length ≤ cur.length) (h1 : ∀ v ∈ cs, v.oneCell' = true)
    (h : ∀ w', w'.heap[g]? = some (.cells (splice cur off cs).toArray t (0, 0)) → Only [g] w w' → K (a.put o.dst (goInt cs.length)) w') :
    if Region.wanted o (yielded ops a.tmps) = true then Oper.wp P o a w K Q else E := by
  have hw : Region.wanted o (yielded ops a.tmps) = true := by simp [Region.wanted, hgd]
  rw [if_pos hw]
  have hrun := run_copy_row (P := P) w dT sT o.type elem g off dLen dCap ad sLen sCap cur.toArray t cs hu hsz hg hn hsrc (by simpa using hfit) h1
  unfold Oper.wp
  simp [execOp, ho, resolve, invoke, builtin, hd, hs, hrun, Result.andThen]
  refine h _ (by simpa [splice] using setRow_heap w g _ _ t _ hg) ⟨rfl, rfl, rfl, by simp [World.setRow], fun k hk hs => setRow_other w g k _ (fun e => hs (by simp [e]))⟩
theorem splice_bv (M X : List UInt8) (off : Nat) : splice (bv M) off (bv X) = bv (splice M off X) := by simp [splice, bv]
theorem IsDev.medium {w w' : World} {b g n : Nat} {M M' : List UInt8} {vc : Value} {left rd wr fl : Int} {armed down : Bool} (h : IsDev w b g n M vc left armed down rd wr fl) (ho : Only [g] w w') (hm : w'.heap[g]? = some (.cells (bv M').toArray 78 (0, 0))) (hl : M'.length = M.length) :
    IsDev w' b g n M' vc left armed down rd wr fl :=
  ⟨(ho.blk b (lt_of_block h.st) (by simpa using h.ne)).trans h.st, hm, hl.trans h.len, h.ne, h.small⟩
set_option maxRecDepth 100000 in
theorem dv_New_ok (n : Nat) (h1 : 64 ≤ n) (h2 : n ≤ 4096) (w : World) :
    Calls Try.prog 11 #[.int .i64 n] w fun e w' => e = .returned (.tuple #[.pointer (some ⟨w.heap.size + 1, 0, none⟩), .int .i64 0]) ∧
      IsDev w' (w.heap.size + 1) w.heap.size n (List.replicate (n * 512) 0) (.slice none 0 0) 0 false false 0 0 0 ∧ Below w.heap.size w w' := by
  have hm := mk_blk n h2 w
  have d1 : (64 : Int) ≤ (n : Int) := by omega
  have d2 : (n : Int) ≤ 4096 := by omega
  go_enter Try.func11, Try.ntmps11
  go_wp2
  go_ret2
  refine ⟨by simp, ⟨?_, ?_, by simp, by simp, h1, h2⟩, ?_⟩
  · simpa using heap_alloc2_new _ _ _
  · exact heap_alloc2_old _ _ _
  · exact ((Below.refl _ w).alloc (Nat.le_refl _) _).alloc (by simp) _
theorem dv_New_bad (k : Int) (h : k < 64 ∨ 4096 < k) (w : World) :
    Calls Try.prog 11 #[.int .i64 k] w fun e w' => e = .returned (.tuple #[.pointer none, .int .i64 1]) ∧ w' = w := by
  by_cases h1 : k < 64
  · go_enter Try.func11, Try.ntmps11
    go_wp2
    go_ret2
    simp
  · have h2 : 4096 < k := by omega
    go_enter Try.func11, Try.ntmps11
    go_wp2
    go_ret2
    simp
theorem dv_Blocks (b g n : Nat) (M : List UInt8) (vc : Value) (left rd wr fl : Int) (armed down : Bool) (w : World) (h : IsDev w b g n M vc left armed down rd wr fl) :
    Calls Try.prog 12 #[.pointer (some ⟨b, 0, none⟩)] w fun e w' => e = .returned (.int .i64 n) ∧ w' = w := by
  have c0 := h.c0
  clear h
  go_enter Try.func12, Try.ntmps12
  go_wp2
  go_ret
  simp
end Go.Proofs.Ytjbffahmjhbpjaa
/- The walk of the device's Of. -/
set_option linter.unusedVariables false
set_option linter.unusedSimpArgs false
namespace Go.Proofs.Ytjbffahmjhbpjaa
open Go.RowKit
def OfOk (n : Nat) : Prop := n % 512 = 0 ∧ 64 ≤ n / 512 ∧ n / 512 ≤ 4096
/-- the medium when k blocks are carried -/
def ofM (L : List UInt8) (q k : Nat) : List UInt8 := L.take (k * 512) ++ List.replicate ((q - k) * 512) 0
theorem splice_at {α : Type} (X Z Y : List α) (k : Nat) (hk : X.length = k) : splice (X ++ Z) k Y = X ++ (Y ++ Z.drop Y.length) := by
  subst hk
  simp [splice, List.drop_append]
theorem ofM_step (L : List UInt8) (q k : Nat) (hk : k < q) (hl : L.length = q * 512) : splice (ofM L q k) (k * 512) ((L.drop (k * 512)).take 512) = ofM L q (k + 1) := by
  have h1 : (L.take (k * 512)).length = k * 512 := by simp; omega
  have h2 : ((L.drop (k * 512)).take 512).length = 512 := by simp; omega
  unfold ofM
  rw [splice_at _ _ _ _ h1, h2, List.drop_replicate, ← List.append_assoc, show (k + 1) * 512 = k * 512 + 512 by omega, List.take_add, show (q - k) * 512 - 512 = (q - (k + 1)) * 512 by omega]
theorem ofM_length (L : List UInt8) (q k : Nat) (hk : k ≤ q) (hl : L.length = q * 512) : (ofM L q k).length = q * 512 := by
  simp [ofM]; omega
theorem dv_Of_bad (A : Option Addr) (n c : Nat) (L : List UInt8) (w : World) (hr : Rd w A n c L) (hb : ¬ OfOk n) :
    Calls Try.prog 13 #[.slice A n c] w fun e w' => e = .returned (.tuple #[.pointer none, .int .i64 61]) ∧ Below w.heap.size w w' := by
  have hmx := hr.max
  have HB := Lib.hid hb
  clear hb hr
  obtain ⟨q, hq⟩ : ∃ q, q = n / 512 := ⟨_, rfl⟩
  have HQ := Lib.hid hq
  have e2 : (n : Int) / 512 = (q : Int) := by omega
  have hq2 : q ≤ 274877911040 := by omega
  clear hq
  by_cases hk : (q : Int) < 64 ∨ (4096 : Int) < q
  · go_enter Try.func13, Try.ntmps13
    go_wp2_with fail
    refine (dv_New_bad q hk w).mono ?_
    rintro e w1 ⟨rfl, rfl⟩
    go_wp2_with fail
    go_ret2
    exact ⟨rfl, Below.refl _ _⟩
  · have hne : ((n : Int) != (q : Int) * 512) = true := by
      have : n ≠ q * 512 := by
        intro h
        exact HB.out ⟨by omega, by have := HQ.out; omega, by have := HQ.out; omega⟩
      simp only [bne_iff_ne, ne_eq]
      omega
    go_enter Try.func13, Try.ntmps13
    go_wp2_with fail
    refine (dv_New_ok q (by omega) (by omega) w).mono ?_
    rintro e w1 ⟨rfl, -, hB⟩
    have HB1 := Lib.hid hB
    clear hB
    go_wp2_with fail
    go_ret2
    exact ⟨rfl, HB1.out⟩
set_option maxRecDepth 100000 in
theorem dv_Of_ok (A : Option Addr) (n c : Nat) (L : List UInt8) (w : World) (hr : Rd w A n c L) (hb : OfOk n) :
    Calls Try.prog 13 #[.slice A n c] w fun e w' => e = .returned (.tuple #[.pointer (some ⟨w.heap.size + 1, 0, none⟩), .int .i64 0]) ∧
      IsDev w' (w.heap.size + 1) w.heap.size (n / 512) L (.slice none 0 0) 0 false false 0 0 0 ∧ Below w.heap.size w w' := by
  obtain ⟨q, hq⟩ : ∃ q, q = n / 512 := ⟨_, rfl⟩
  rw [← hq]
  have hb1 := hb.1
  have hb2 := hb.2
  rw [← hq] at hb2
  obtain rfl : n = q * 512 := by omega
  clear hb hb1 hq
  obtain ⟨bb, oo, rfl, hc⟩ := hr.at_ (by omega)
  have hl := hr.len
  have hcap := hr.cap
  have HR := Lib.hid hr
  have HC := Lib.hid hc
  have HL := Lib.hid hl
  clear hc hr hl
  have e2 : ((q : Int) * 512) / 512 = (q : Int) := by omega
  go_enter Try.func13, Try.ntmps13
  go_wp2_with fail
  refine (dv_New_ok q (by omega) (by omega) w).mono ?_
  rintro e w1 ⟨rfl, hD, hB⟩
  obtain ⟨b, hbb⟩ : ∃ b, b = w.heap.size + 1 := ⟨_, rfl⟩
  obtain ⟨g, hgg⟩ : ∃ g, g = w.heap.size := ⟨_, rfl⟩
  rw [← hbb, ← hgg] at hD
  rw [← hbb]
  have c0 := hD.c0
  have HD := Lib.hid hD
  have HB1 := Lib.hid hB
  have HBB := Lib.hid hbb
  have HGG := Lib.hid hgg
  clear hD hB hbb hgg
  go_wp2_with fail
  go_loopw [7, 30] (fun _ x wr => ∃ k : Nat, k ≤ q ∧ x = .int .i64 k ∧ IsDev wr b g q (ofM L q k) (.slice none 0 0) 0 false false 0 0 0 ∧ Only [g] w1 wr) (fun _ x _ => q - (intOf x).toNat)
  case atStart => exact ⟨0, by omega, rfl, by simpa [ofM] using HD.out, Only.refl _ _⟩
  case round =>
    obtain ⟨k, hk, rfl, hD, hO⟩ := hrel
    have d0 := hD.c0
    have HD2 := Lib.hid hD
    have HO := Lib.hid hO
    clear hD hO
    by_cases hkq : k < q
    · go_wp2_with fail
      have hw1 : IntKind.i64.wrap ((k : Int) * 512) = (k : Int) * 512 := IntWalk.i64_in _ (by omega)
      have hw2 : (0 : Int) ≤ (k : Int) * 512 ∧ (k : Int) * 512 ≤ (q : Int) * 512 ∧ (0 : Int) ≤ k ∧ (k : Int) < q := by omega
      have hw3 : ((k : Int) * 512).toNat = k * 512 := by omega
      have hck : ¬ c = k * 512 := by omega
      have HS := Lib.hid (Rd.cellsAt (w := wr.drew) ((HR.out.ext (HB1.out.trans (HO.out.below HB1.out.size (by simp [HGG.out])))).drew 1) (k * 512) 512 (by omega))
      have HM := Lib.hid (show wr.drew.heap[g]? = some (.cells (bv (ofM L q k)).toArray 78 (0, 0)) from HD2.out.med)
      go_region_held3 (fun w' => w'.cell? ⟨b, 0, none⟩ = some (.slice (some ⟨g, 0, none⟩) q q) ∧ Only [g] wr w')
        (first | exact ⟨f0, fO⟩ | exact ⟨d0, (Only.refl _ _).drew⟩)
        (first | (refine step_copy_only rfl (.tmp 39) (.tmp 43) 29 29 rfl 5 Try.underlying29 sz_u8 g (k * 512) 512 512 ⟨bb, oo + k * 512, none⟩ (q * 512 - k * 512) (c - k * 512) ?q1 ?q2 (bv (ofM L q k)) 78 HM.out (bv ((L.drop (k * 512)).take 512)) ?q3 HS.out ?q5 (bv_one _) ?_
                  (case q1 => rfl)
                  (case q2 => (first | rfl | (simp only [if_neg hck]; rfl)))
                  (case q3 => (rw [bv_length, List.length_take, List.length_drop, HL.out, Nat.min_comm]))
                  (case q5 => (rw [bv_length, bv_length, ofM_length L q k hk HL.out, List.length_take, List.length_drop, HL.out]; omega))
                  intro w2 hg2 ho2
                  rw [splice_bv, ofM_step L q k hkq HL.out] at hg2
                  have fO : Only [g] wr w2 := ((Only.refl [g] wr).drew).trans ho2
                  have f0 := (HD2.out.medium fO hg2 (by rw [ofM_length L q (k + 1) hkq HL.out, ofM_length L q k hk HL.out])).c0
                  have HG2 := Lib.hid hg2
                  clear ho2 hg2))
      clear hw1 hw3
      rename_i hHeld
      clear hHeld
      go_wp2
      go_roundw
      case rel => exact ⟨k + 1, by omega, by go_num, HD2.out.medium fO HG2.out (by rw [ofM_length L q (k + 1) hkq HL.out, ofM_length L q k hk HL.out]), HO.out.trans fO⟩
      case measure => simp [intOf]; omega
    · obtain rfl : q = k := by omega
      go_wp2_with fail
      go_ret2
      rw [show ofM L q q = L by unfold ofM; rw [Nat.sub_self, Nat.zero_mul, List.replicate_zero, List.append_nil, List.take_of_length_le (by rw [HL.out]; omega)]] at HD2
      rw [HBB.out, HGG.out] at HD2
      refine ⟨?_, HD2.out, HB1.out.trans (HO.out.below HB1.out.size (by simp [HGG.out]))⟩
      rw [← HBB.out]
      rfl
end Go.Proofs.Ytjbffahmjhbpjaa
/- The device's cache: pending writes, a row of them of the program's own. -/
set_option linter.unusedVariables false
set_option linter.unusedSimpArgs false
set_option maxRecDepth 100000
namespace Go.Proofs.Ytjbffahmjhbpjaa
open Go.RowKit
structure Pd where
  num : Nat
  data : List UInt8
instance : Inhabited Pd := ⟨⟨0, List.replicate 512 0⟩⟩
def pc (x : Pd) : List Value := .int .i64 x.num :: bv x.data
def pcs (l : List Pd) : List Value := l.flatMap pc
def PdOk (n : Nat) (l : List Pd) : Prop := ∀ x ∈ l, x.num < n ∧ x.data.length = 512
theorem pc_length {x : Pd} (h : x.data.length = 512) : (pc x).length = 513 := by simp [pc, bv_length, h]
theorem PdOk.nil (n : Nat) : PdOk n [] := fun x hx => by cases hx
theorem PdOk.snoc {n : Nat} {l : List Pd} {y : Pd} (h : PdOk n l) (h1 : y.num < n) (h2 : y.data.length = 512) : PdOk n (l ++ [y]) := by
  intro x hx
  rcases List.mem_append.1 hx with hx | hx
  · exact h x hx
  · simp at hx; subst hx; exact ⟨h1, h2⟩
theorem PdOk.get {n : Nat} {l : List Pd} (h : PdOk n l) (j : Nat) (hj : j < l.length) : (l.getD j default).num < n ∧ (l.getD j default).data.length = 512 := by
  rw [List.getD_eq_getElem?_getD, List.getElem?_eq_getElem hj]
  exact h _ (List.getElem_mem _)
theorem pcs_length {n : Nat} : ∀ {l : List Pd}, PdOk n l → (pcs l).length = l.length * 513
  | [], _ => rfl
  | a :: r, h => by
    have ih := pcs_length (l := r) (fun x hx => h x (by simp [hx]))
    have ha := pc_length (h a (by simp)).2
    rw [pcs, List.flatMap_cons, List.length_append, ← pcs, ih, ha, List.length_cons]; omega
theorem pcs_append (l m : List Pd) : pcs (l ++ m) = pcs l ++ pcs m := by simp [pcs]
theorem pcs_get {n : Nat} : ∀ (l : List Pd) (j i : Nat), PdOk n l → j < l.length → i < 513 → (pcs l)[j * 513 + i]? = (pc (l.getD j default))[i]?
  | [], j, i, _, h, _ => by simp at h
  | a :: r, 0, i, ho, h, hi => by
    have ha := pc_length (ho a (by simp)).2
    rw [pcs, List.flatMap_cons, List.getElem?_append_left (by rw [ha]; omega)]
    simp
  | a :: r, j + 1, i, ho, h, hi => by
    have ha := pc_length (ho a (by simp)).2
    have ih := pcs_get r j i (fun x hx => ho x (by simp [hx])) (by simpa using h) hi
    rw [pcs, List.flatMap_cons, List.getElem?_append_right (by rw [ha]; omega)]
    rw [show (j + 1) * 513 + i - (pc a).length = j * 513 + i by rw [ha]; omega]
    rw [← pcs, ih]
    simp
theorem pcs_one (l : List Pd) : ∀ u ∈ pcs l, u.oneCell' = true := by
  intro u hu
  simp only [pcs, List.mem_flatMap] at hu
  obtain ⟨x, _, hx⟩ := hu
  simp only [pc, List.mem_cons] at hx
  rcases hx with rfl | hx
  · rfl
  · exact bv_one _ u hx
theorem info_pd : (Try.prog.info? 80).map (fun i => (i.zero, i.size, i.bytes)) = some (some (.agg (#[.int .i64 0] ++ Array.replicate 512 (.int .u8 0))), 513, 520) := by kernel_rfl
def OwnP (w : World) (base n : Nat) (v : Value) (q : Nat) (C : List Pd) : Prop := PdOk n C ∧ w.ownsRow base 80 513 v q (pcs C)
theorem built_pd (parts : List (Nat × Value)) : Try.prog.built 80 parts = Instr.fill ((#[(0, 1), (1, 512)] : Array (Nat × Nat))[·]?) (#[.int .i64 0] ++ Array.replicate 512 (.int .u8 0)) parts := by kernel_rfl
theorem fill_pd (m : Nat) (D : List UInt8) (h : D.length = 512) : Instr.fill ((#[(0, 1), (1, 512)] : Array (Nat × Nat))[·]?) (#[.int .i64 0] ++ Array.replicate 512 (.int .u8 0)) [(0, .int .i64 (m : Int)), (1, .agg (bv D).toArray)] = some (pc ⟨m, D⟩).toArray := by
  have hb := bv_length D
  obtain ⟨Z, hZ⟩ : ∃ Z : Array Value, Z = #[.int .i64 0] ++ Array.replicate 512 (.int .u8 0) := ⟨_, rfl⟩
  have hZs : Z.size = 513 := by rw [hZ]; simp
  rw [← hZ, Instr.fill]
  simp only [show ((#[(0, 1), (1, 512)] : Array (Nat × Nat))[0]?) = some (0, 1) from rfl]
  rw [if_neg (by simp [Value.cells, hZs]), Instr.fill]
  simp only [show ((#[(0, 1), (1, 512)] : Array (Nat × Nat))[1]?) = some (1, 512) from rfl]
  have e0 : ((Value.int .i64 (m : Int)).cells.zipIdx.foldl (fun cs (x : Value × Nat) => cs.setIfInBounds (0 + x.2) x.1) Z) = Z.setIfInBounds 0 (.int .i64 (m : Int)) := rfl
  have e1 : (Value.agg (bv D).toArray).cells = (bv D).toArray := rfl
  have hs2 : (Z.setIfInBounds 0 (.int .i64 (m : Int))).size = 513 := by rw [Array.size_setIfInBounds, hZs]
  obtain ⟨g1, g2⟩ := Go.Great.foldl_set 1 (bv D) 0 (Z.setIfInBounds 0 (.int .i64 (m : Int)))
  rw [if_neg (by rw [e1, e0, hs2]; simp [hb, h]), Instr.fill, e0, e1, ← Array.foldl_toList, Array.toList_zipIdx]
  congr 1
  apply Array.ext_getElem?
  intro k
  have g3 := g2 k
  refine Eq.trans g3 ?_
  rw [hb, h, hs2]
  rcases Nat.eq_zero_or_pos k with rfl | hk
  · rw [if_neg (by omega), Array.getElem?_setIfInBounds_self_of_lt (by omega)]
    rfl
  · by_cases h5 : k < 513
    · rw [if_pos (by omega)]
      obtain ⟨j, rfl⟩ : ∃ j, k = j + 1 := ⟨k - 1, by omega⟩
      simp [pc]
    · rw [if_neg (by omega), Array.getElem?_eq_none (by rw [hs2]; omega), Array.getElem?_eq_none (by rw [List.size_toArray, pc_length h]; omega)]
theorem build_pd (m : Nat) (D : List UInt8) (h : D.length = 512) (W : World) : (Instr.build 80 #[(0, .int .i64 (m : Int)), (1, .agg (bv D).toArray)]).run Try.prog W = .ok (.agg (pc ⟨m, D⟩).toArray) W :=
  run_build W _ _ _ (by rw [built_pd]; exact fill_pd m D h)
theorem bslice_pd (x : Pd) (h : x.data.length = 512) (W : World) : (Instr.buildSlice 74 1 #[(0, .agg (pc x).toArray)]).run Try.prog W = .ok (.slice (some ⟨W.heap.size, 0, none⟩) 1 1) (W.alloc (.cells (pc x).toArray 80)) := by
  obtain ⟨i0, hi, hzz⟩ := Option.map_eq_some_iff.1 info_pd
  simp only [Prod.mk.injEq] at hzz
  obtain ⟨hz0, hz1, hz2⟩ := hzz
  refine run_buildSlice W _ 80 1 _ _ i0 _ Try.underlying74 hi hz0 (by rw [hz1]; omega) (by rw [hz1]; omega) ?_
  rw [hz1]
  have := Go.Great.fill_whole (s := 513) (by omega) [.agg (pc x).toArray] ((Array.range (1 * 513)).map (fun k => (Value.agg (#[.int .i64 0] ++ Array.replicate 512 (.int .u8 0))).cells[k % (Value.agg (#[.int .i64 0] ++ Array.replicate 512 (.int .u8 0))).cells.size]!)) (by
    intro v hv
    simp only [List.mem_singleton] at hv
    subst hv
    show (pc x).toArray.size = 513
    rw [List.size_toArray, pc_length h]) (by simp)
  refine Eq.trans this ?_
  congr 1
  simp [Value.cells]
theorem load_blk (W : World) (bb oo : Nat) (D : List UInt8) (h : D.length = 512) (hc : W.rangeAt bb oo (bv D)) : (Instr.loadAt 78 (.pointer (some ⟨bb, oo, none⟩))).run Try.prog W = .ok (.agg (bv D).toArray) W :=
  run_loadAt_mid W bb oo _ (bv D) _ hc Try.underlying78 rfl (by
    rw [bv_length, h]
    have := info_blk
    cases hq : Try.prog.info? 78 with
    | none => rw [hq] at this; cases this
    | some i => rw [hq] at this; simp at this ⊢; exact this.2.1)
end Go.Proofs.Ytjbffahmjhbpjaa
/- The device as a whole: its state, what an act may change, and the small walks: has, act, Arm, Down. -/
set_option linter.unusedVariables false
set_option linter.unusedSimpArgs false
set_option maxRecDepth 100000
namespace Go.Proofs.Ytjbffahmjhbpjaa
open Go.RowKit
/-- what a device is -/
structure DS where
  n : Nat
  M : List UInt8
  C : List Pd
  left : Nat
  armed : Bool
  down : Bool
  rd : Nat
  wr : Nat
  fl : Nat
/-- of the blocks S only changed; those of S' are of S, or new -/
structure Fr (S S' : List Nat) (w w' : World) : Prop where
  only : Only S w w'
  new : ∀ k ∈ S', k ∈ S ∨ w.heap.size ≤ k
theorem Fr.refl (S : List Nat) (w : World) : Fr S S w w := ⟨Only.refl S w, fun k hk => .inl hk⟩
theorem Fr.trans {S S' S'' : List Nat} {a b c : World} (h : Fr S S' a b) (k : Fr S' S'' b c) : Fr S S'' a c :=
  ⟨⟨k.only.os.trans h.only.os, k.only.tape.trans h.only.tape, k.only.output.trans h.only.output, Nat.le_trans h.only.size k.only.size, fun i hi hs =>
    (k.only.blk i (Nat.lt_of_lt_of_le hi h.only.size) (fun hm => by
      rcases h.new i hm with h1 | h1
      · exact hs h1
      · omega)).trans (h.only.blk i hi hs)⟩, fun i hi => by
    rcases k.new i hi with h1 | h1
    · exact h.new i h1
    · exact .inr (Nat.le_trans h.only.size h1)⟩
theorem Fr.below (S : List Nat) {w w' : World} (h : Below w.heap.size w w') : Fr S S w w' := ⟨Only.of_below S h, fun k hk => .inl hk⟩
theorem Fr.drew {S S' : List Nat} {a b : World} (h : Fr S S' a b) (n : Nat) : Fr S S' a (b.drewN n) := ⟨h.only.drewN n, h.new⟩
theorem Fr.apart {S S' : List Nat} {w w' : World} (h : Fr S S' w w') {k : Nat} (hk : k < w.heap.size) (hs : k ∉ S) : k < w'.heap.size ∧ k ∉ S' :=
  ⟨Nat.lt_of_lt_of_le hk h.only.size, fun hm => by
    rcases h.new k hm with h1 | h1
    · exact hs h1
    · omega⟩
theorem Fr.toBelow {S S' : List Nat} {w w' : World} {B : Nat} (h : Fr S S' w w') (hB : B ≤ w.heap.size) (hS : ∀ k ∈ S, B ≤ k) : Below B w w' ∧ ∀ k ∈ S', B ≤ k :=
  ⟨h.only.below hB hS, fun k hk => by
    rcases h.new k hk with h1 | h1
    · exact hS k h1
    · omega⟩
def dvS (b g : Nat) (vc : Value) : List Nat := b :: g :: vc.ownBlock.toList
/-- the device D lies there: its struct in block b, its medium in g, its cache is vc -/
structure IsV (w : World) (b g : Nat) (vc : Value) (D : DS) : Prop where
  dev : IsDev w b g D.n D.M vc D.left D.armed D.down D.rd D.wr D.fl
  ca : OwnP w 0 D.n vc D.C.length D.C
  nb : ∀ k, vc.ownBlock = some k → k ≠ b ∧ k ≠ g
section
variable {w w' : World} {b g : Nat} {vc : Value} {D : DS}
theorem OwnP.lt {base n q : Nat} {C : List Pd} (h : OwnP w base n vc q C) (k : Nat) (hk : vc.ownBlock = some k) : base ≤ k ∧ k < w.heap.size := (World.ownsRow.lt h.2) k hk
theorem OwnP.keep {base n q : Nat} {C : List Pd} {S : List Nat} (h : OwnP w base n vc q C) (hw : Only S w w') (hs : ∀ k, vc.ownBlock = some k → k ∉ S) : OwnP w' base n vc q C := by
  refine ⟨h.1, h.2.1, ?_⟩
  rcases h.2.2 with h1 | ⟨g, cap, cur, rfl, hb, hh, h3⟩
  · exact .inl h1
  · exact .inr ⟨g, cap, cur, rfl, hb, (hw.blk g (lt_of_block hh) (hs g rfl)).trans hh, h3⟩
theorem IsV.lt (h : IsV w b g vc D) : ∀ k ∈ dvS b g vc, k < w.heap.size := by
  intro k hk
  simp only [dvS, List.mem_cons, Option.mem_toList] at hk
  rcases hk with rfl | rfl | hk
  · exact lt_of_block h.dev.st
  · exact lt_of_block h.dev.med
  · exact (h.ca.lt k hk).2
theorem IsV.keep {S : List Nat} (h : IsV w b g vc D) (hw : Only S w w') (hs : ∀ k ∈ dvS b g vc, k ∉ S) : IsV w' b g vc D :=
  ⟨h.dev.only hw (hs b (by simp [dvS])) (hs g (by simp [dvS])), h.ca.keep hw (fun k hk => hs k (by simp [dvS, hk])), h.nb⟩
theorem IsV.ext (h : IsV w b g vc D) (hb : Below w.heap.size w w') : IsV w' b g vc D := h.keep (Only.of_below [] hb) (by simp)
theorem IsV.drewN (h : IsV w b g vc D) (n : Nat) : IsV (w.drewN n) b g vc D := h.keep ((Only.refl [] w).drewN n) (by simp)
/-- a cell of the struct is written -/
theorem IsV.store (h : IsV w b g vc D) (j : Nat) (v : Value) (D' : DS) (hn : D'.n = D.n) (hM : D'.M = D.M) (hC : D'.C = D.C)
    (hst : (#[.slice (some ⟨g, 0, none⟩) D.n D.n, vc, .int .i64 D.left, .bool D.armed, .bool D.down, .int .i64 D.rd, .int .i64 D.wr, .int .i64 D.fl] : Array Value).setIfInBounds j v = #[.slice (some ⟨g, 0, none⟩) D.n D.n, vc, .int .i64 D'.left, .bool D'.armed, .bool D'.down, .int .i64 D'.rd, .int .i64 D'.wr, .int .i64 D'.fl]) :
    IsV (w.setCell ⟨b, j, none⟩ v) b g vc D' ∧ Fr (dvS b g vc) (dvS b g vc) w (w.setCell ⟨b, j, none⟩ v) := by
  have hO : Only [b] w (w.setCell ⟨b, j, none⟩ v) := (Only.refl [b] w).setCell (by simp) v
  refine ⟨⟨⟨?_, ?_, ?_, h.dev.ne, ?_⟩, ?_, h.nb⟩, hO.mono (by simp [dvS]), fun k hk => .inl hk⟩
  · rw [heap_setCell_same w b j _ _ v h.dev.st, hn, hst]
  · rw [hM]; exact (hO.blk g (lt_of_block h.dev.med) (by simp; exact fun e => h.dev.ne e.symm)).trans h.dev.med
  · rw [hM, hn]; exact h.dev.len
  · rw [hn]; exact h.dev.small
  · rw [hn, hC]; exact h.ca.keep hO (fun k hk => by simp; exact (h.nb k hk).1)
end
theorem dv_has (w : World) (b g : Nat) (vc : Value) (D : DS) (num : Int) (h : IsV w b g vc D) :
    Calls Try.prog 34 #[.pointer (some ⟨b, 0, none⟩), .int .i64 num] w fun e w' => e = .returned (.bool (decide (0 ≤ num ∧ num < D.n))) ∧ w' = w := by
  have c0 := h.dev.c0
  clear h
  rcases (by omega : num < 0 ∨ (0 ≤ num ∧ num < (D.n : Int)) ∨ (0 ≤ num ∧ ¬ num < (D.n : Int))) with h1 | ⟨h1, h2⟩ | ⟨h1, h2⟩
  · rw [decide_eq_false (p := 0 ≤ num ∧ num < (D.n : Int)) (by omega)]
    have e1 : ¬ 0 ≤ num := by omega
    clear h1
    go_enter Try.func34, Try.ntmps34
    go_wp2
    go_ret
    exact ⟨rfl, rfl⟩
  · rw [decide_eq_true (p := 0 ≤ num ∧ num < (D.n : Int)) (by omega)]
    go_enter Try.func34, Try.ntmps34
    go_wp2
    go_ret
    exact ⟨by simp [h2], rfl⟩
  · rw [decide_eq_false (p := 0 ≤ num ∧ num < (D.n : Int)) (by omega)]
    go_enter Try.func34, Try.ntmps34
    go_wp2
    go_ret
    exact ⟨by simp [h2], rfl⟩
def actD (D : DS) : Bool × DS := if D.armed = true ∧ D.left = 0 then (false, { D with down := true }) else if D.down = true then (false, D) else if D.armed = true then (true, { D with left := D.left - 1 }) else (true, D)
theorem dv_act (w : World) (b g : Nat) (vc : Value) (D : DS) (hl : D.left < 9223372036854775808) (h : IsV w b g vc D) :
    Calls Try.prog 35 #[.pointer (some ⟨b, 0, none⟩)] w fun e w' => e = .returned (.bool (actD D).1) ∧ IsV w' b g vc (actD D).2 ∧ Fr (dvS b g vc) (dvS b g vc) w w' := by
  have c2 : w.cell? ⟨b, 2, none⟩ = some (.int .i64 (D.left : Int)) := h.dev.cell 2
  have c3 : w.cell? ⟨b, 3, none⟩ = some (.bool D.armed) := h.dev.cell 3
  have c4 : w.cell? ⟨b, 4, none⟩ = some (.bool D.down) := h.dev.cell 4
  have f2 := frozen_of_row w b 2 _ _ h.dev.st
  have f4 := frozen_of_row w b 4 _ _ h.dev.st
  have HD := Lib.hid h
  clear h
  cases ha : D.armed with
  | false =>
    rw [ha] at c3
    cases hd : D.down with
    | true =>
      rw [hd] at c4
      have HA := Lib.hid (show actD D = (false, D) by unfold actD; rw [if_neg (by simp [ha]), if_pos hd])
      clear ha hd
      rw [HA.out]
      go_enter Try.func35, Try.ntmps35
      go_wp2
      go_ret
      exact ⟨rfl, HD.out, Fr.refl _ _⟩
    | false =>
      rw [hd] at c4
      have HA := Lib.hid (show actD D = (true, D) by unfold actD; rw [if_neg (by simp [ha]), if_neg (by simp [hd]), if_neg (by simp [ha])])
      clear ha hd
      rw [HA.out]
      go_enter Try.func35, Try.ntmps35
      go_wp2
      go_ret
      exact ⟨rfl, HD.out, Fr.refl _ _⟩
  | true =>
    rw [ha] at c3
    by_cases h0 : D.left = 0
    · have e0 : ((D.left : Int) == 0) = true := by simp [h0]
      have HA := Lib.hid (show actD D = (false, { D with down := true }) by unfold actD; rw [if_pos ⟨ha, h0⟩])
      have HS := Lib.hid (HD.out.store 4 (.bool true) { D with down := true } rfl rfl rfl rfl)
      clear h0
      rw [HA.out]
      go_enter Try.func35, Try.ntmps35
      go_wp2
      go_ret
      exact ⟨rfl, HS.out.1, HS.out.2⟩
    · have e0 : ((D.left : Int) == 0) = false := by simp [h0]
      cases hd : D.down with
      | true =>
        rw [hd] at c4
        have HA := Lib.hid (show actD D = (false, D) by unfold actD; rw [if_neg (by simp [h0]), if_pos hd])
        clear ha hd
        rw [HA.out]
        go_enter Try.func35, Try.ntmps35
        go_wp2
        go_ret
        exact ⟨rfl, HD.out, Fr.refl _ _⟩
      | false =>
        rw [hd] at c4
        have HA := Lib.hid (show actD D = (true, { D with left := D.left - 1 }) by unfold actD; rw [if_neg (by simp [h0]), if_neg (by simp [hd]), if_pos ha])
        have e1 : (D.left : Int) - 1 = ((D.left - 1 : Nat) : Int) := by omega
        obtain ⟨l1, hl1⟩ : ∃ l1, l1 = D.left - 1 := ⟨_, rfl⟩
        rw [← hl1] at e1 HA
        have HS := Lib.hid (HD.out.store 2 (.int .i64 (l1 : Int)) { D with left := l1 } rfl rfl rfl rfl)
        have hb1 : (1 : Int) ≤ (D.left : Int) ∧ (D.left : Int) < 9223372036854775808 := by omega
        clear ha hd h0 hl1
        rw [HA.out]
        go_enter Try.func35, Try.ntmps35
        go_wp2
        go_ret
        exact ⟨rfl, HS.out.1, HS.out.2⟩
theorem dv_Down (w : World) (b g : Nat) (vc : Value) (D : DS) (h : IsV w b g vc D) :
    Calls Try.prog 26 #[.pointer (some ⟨b, 0, none⟩)] w fun e w' => e = .returned (.bool D.down) ∧ w' = w := by
  have c4 : w.cell? ⟨b, 4, none⟩ = some (.bool D.down) := h.dev.cell 4
  clear h
  go_enter Try.func26, Try.ntmps26
  go_wp2
  go_ret
  exact ⟨rfl, rfl⟩
def armD (D : DS) (k : Int) : Int × DS := if k < 0 then (1, D) else if D.down = true then (6, D) else (0, { D with armed := true, left := k.toNat })
theorem dv_Arm (w : World) (b g : Nat) (vc : Value) (D : DS) (k : Int) (h : IsV w b g vc D) :
    Calls Try.prog 30 #[.pointer (some ⟨b, 0, none⟩), .int .i64 k] w fun e w' => e = .returned (.int .i64 (armD D k).1) ∧ IsV w' b g vc (armD D k).2 ∧ Fr (dvS b g vc) (dvS b g vc) w w' := by
  have c4 : w.cell? ⟨b, 4, none⟩ = some (.bool D.down) := h.dev.cell 4
  have c2 : w.cell? ⟨b, 2, none⟩ = some (.int .i64 (D.left : Int)) := h.dev.cell 2
  have c3 : w.cell? ⟨b, 3, none⟩ = some (.bool D.armed) := h.dev.cell 3
  have f2 := frozen_of_row w b 2 _ _ h.dev.st
  have f3 := frozen_of_row w b 3 _ _ h.dev.st
  have HD := Lib.hid h
  clear h
  by_cases h0 : k < 0
  · have HA := Lib.hid (show armD D k = (1, D) from if_pos h0)
    rw [HA.out]
    go_enter Try.func30, Try.ntmps30
    go_wp2
    go_ret
    exact ⟨rfl, HD.out, Fr.refl _ _⟩
  · obtain ⟨m, rfl⟩ : ∃ m : Nat, k = m := ⟨k.toNat, by omega⟩
    cases hd : D.down with
    | true =>
      rw [hd] at c4
      have HA := Lib.hid (show armD D m = (6, D) by unfold armD; rw [if_neg h0, if_pos hd])
      clear hd
      rw [HA.out]
      go_enter Try.func30, Try.ntmps30
      go_wp2
      go_ret
      exact ⟨rfl, HD.out, Fr.refl _ _⟩
    | false =>
      rw [hd] at c4
      have HA := Lib.hid (show armD D m = (0, { D with armed := true, left := m }) by unfold armD; rw [if_neg h0, if_neg (by simp [hd]), Int.toNat_natCast])
      have HS := HD.out.store 3 (.bool true) { D with armed := true } rfl rfl rfl rfl
      have HS2 := Lib.hid (HS.1.store 2 (.int .i64 (m : Int)) { D with armed := true, left := m } rfl rfl rfl rfl)
      have HS1 := Lib.hid HS.2
      clear hd HS
      rw [HA.out]
      go_enter Try.func30, Try.ntmps30
      go_wp2
      go_ret
      exact ⟨rfl, HS2.out.1, HS1.out.trans HS2.out.2⟩
end Go.Proofs.Ytjbffahmjhbpjaa
/- A region that draws its order: what holds till one operation z has come up (a cell that a later store of the same region writes), and what holds all along. -/
set_option linter.unusedVariables false
set_option linter.unusedSimpArgs false
namespace Go.Proofs.Ytjbffahmjhbpjaa
open Go.RowKit
section
variable {P : Program} {md : Region.Mode} {ops : Array Oper} {Q : Exit → Act → World → Prop} {R T : World → Prop} {z : Nat}
/-- whatever order is picked: behind each operation R, and T as long as z has not come up -/
def wpAnyZ (P : Program) (md : Region.Mode) (ops : Array Oper) (Q : Exit → Act → World → Prop) (R T : World → Prop) (z : Nat) : Nat → Array Bool → Act → World → Prop
  | 0, l, a, w => Region.ready md ops l = [] ∧ Q .normal a w
  | f + 1, l, a, w => (Region.ready md ops l = [] → Q .normal a w) ∧
    ∀ i ∈ Region.ready md ops l, wpOp P ops Q i (fun a' w' => (R w' ∧ ((l.setIfInBounds i true).getD z true = false → T w')) ∧ wpAnyZ P md ops Q R T z f (l.setIfInBounds i true) a' w') a w
theorem wpAnyZ.any : ∀ (f : Nat) (l : Array Bool) (a : Act) (w : World), wpAnyZ P md ops Q R T z f l a w → wpAny P md ops Q f l a w
  | 0, _, _, _, h => h
  | f + 1, _, _, _, h => ⟨h.1, fun i hi => wpOp_mono (fun a' w' h' => wpAnyZ.any f _ a' w' h'.2) (h.2 i hi)⟩
theorem wpAnyZ.first {i : Nat} {oi : Oper} {v : Value} {U : World → Prop} (hi : ops[i]? = some oi) (hiz : i ≠ z)
    (hU : (∀ w, R w → U w) ∨ ((∀ w, T w → U w) ∧ ∃ oz e, ops[z]? = some oz ∧ e ∈ oz.after ∧ Region.binds md e = true ∧ e.on = i))
    (hsel : ∀ (j : Nat) (o : Oper) cs b, ops[j]? = some o → o.op ≠ .select cs b) (hQ : ∀ c a w, Q (.panic c) (a.put oi.dst v) w → Q (.panic c) a w) :
    ∀ (f : Nat) (l : Array Bool) (a : Act) (w : World), l.getD z true = false ∨ (∀ w, R w → U w) →
      (∀ j oj, ops[j]? = some oj → j ≠ i → l.getD j true = false → (∀ e ∈ oj.after, Region.binds md e = true → e.on ≠ i) → oi.apart ops oj = true) →
      i ∈ Region.ready md ops l → YieldsIf P ops U oi v a → U w → R w → (l.getD z true = false → T w) →
      wpAnyZ P md ops Q R T z f (l.setIfInBounds i true) (a.put oi.dst v) w → wpAnyZ P md ops Q R T z (f + 1) l a w := by
  intro f
  have hzi : ∀ l : Array Bool, (l.setIfInBounds i true).getD z true = l.getD z true := fun l => getD_set_ne true hiz
  induction f with
  | zero =>
    intro l a w _ _ hr hy hu hRw hTw H
    refine ⟨fun h => (by rw [h] at hr; cases hr), fun j hj => ?_⟩
    by_cases hji : j = i
    · subst hji; exact hy.wpOp hi hu ⟨⟨hRw, by rw [hzi]; exact hTw⟩, H⟩
    · have h1 := ready_mono hj hji
      rw [H.1] at h1
      cases h1
  | succ f ih =>
    intro l a w hz hfree hr hy hu hRw hTw H
    refine ⟨fun h => (by rw [h] at hr; cases hr), fun j hj => ?_⟩
    by_cases hji : j = i
    · subst hji; exact hy.wpOp hi hu ⟨⟨hRw, by rw [hzi]; exact hTw⟩, H⟩
    · have h1 := H.2 j (ready_mono hj hji)
      obtain ⟨hjun, oj, hoj, hall⟩ := mem_ready.1 hj
      have hiun := (mem_ready.1 hr).1
      have hnot : ∀ e ∈ oj.after, Region.binds md e = true → e.on ≠ i := fun e he hb heq => by
        have h3 := hall e he hb
        rw [heq] at h3
        rcases Nat.lt_or_ge i l.size with h' | h'
        · simp [h'] at hiun h3; rw [hiun] at h3; cases h3
        · simp [Array.getElem?_eq_none h'] at h3
      have h2 := wpOp_putIf hoj (hfree j oj hoj hji hjun hnot) (fun cs b => hsel i oi cs b hi) (fun cs b => hsel j oj cs b hoj) hQ hy h1
      have hfree' : ∀ k ok, ops[k]? = some ok → k ≠ i → (l.setIfInBounds j true).getD k true = false →
          (∀ e ∈ ok.after, Region.binds md e = true → e.on ≠ i) → oi.apart ops ok = true := fun k ok hk hki hun hno => by
        refine hfree k ok hk hki ?_ hno
        by_cases hjk : j = k
        · subst hjk; exact hjun
        · rw [getD_set_ne true hjk] at hun; exact hun
      have hcomm : (l.setIfInBounds i true).setIfInBounds j true = (l.setIfInBounds j true).setIfInBounds i true := (Array.setIfInBounds_comm _ _ hji).symm
      have hjz : l.getD z true = false → (∃ oz e, ops[z]? = some oz ∧ e ∈ oz.after ∧ Region.binds md e = true ∧ e.on = i) → j ≠ z := fun _ ⟨oz, e, e1, e2, e3, e4⟩ hjz => by
        rw [hjz, e1] at hoj
        injection hoj with hoj
        exact hnot e (hoj ▸ e2) e3 e4
      refine wpOp_mono (fun a' w' h3 => ?_) h2
      obtain ⟨h4, ⟨h5, h6⟩, h7⟩ := h3
      rw [hcomm, hzi] at h6
      rw [hcomm] at h7
      have hu' : U w' ∧ ((l.setIfInBounds j true).getD z true = false ∨ (∀ w, R w → U w)) := by
        rcases hU with hU | ⟨hU, hw⟩
        · exact ⟨hU w' h5, .inr hU⟩
        · rcases hz with hz | hz
          · have hjz' := hjz hz hw
            have h8 : (l.setIfInBounds j true).getD z true = false := by rw [getD_set_ne true hjz']; exact hz
            exact ⟨hU w' (h6 h8), .inl h8⟩
          · exact ⟨hz w' h5, .inr hz⟩
      exact ⟨⟨h5, h6⟩, ih (l.setIfInBounds j true) a' w' hu'.2 hfree' (ready_mono hr (Ne.symm hji)) h4 hu'.1 h5 h6 h7⟩
/-- number i is taken first: in every world that meets U it yields v -/
theorem wpAnyZ.take {i : Nat} {oi : Oper} {v : Value} {U : World → Prop} {f : Nat} {l : Array Bool} {a : Act} {w : World} (hi : ops[i]? = some oi) (hs : Region.noSelect ops = true) (hf : Region.free md ops l i = true) (hr : (Region.ready md ops l).contains i = true) (hiz : i ≠ z)
    (hQ : ∀ c a w, Q (.panic c) (a.put oi.dst v) w → Q (.panic c) a w)
    (hU : (∀ w, R w → U w) ∨ ((∀ w, T w → U w) ∧ Region.waitsFor md ops z i = true)) (hz : l.getD z true = false ∨ (∀ w, R w → U w))
    (hy : YieldsIf P ops U oi v a) (hu : U w) (hRw : R w) (hTw : l.getD z true = false → T w)
    (h : wpAnyZ P md ops Q R T z f (l.setIfInBounds i true) (a.put oi.dst v) w) : wpAnyZ P md ops Q R T z (f + 1) l a w :=
  wpAnyZ.first hi hiz (hU.imp id (fun ⟨h1, h2⟩ => ⟨h1, by
    obtain ⟨oz, h3, e, h4, h5, h6⟩ := Region.waitsFor_spec h2
    exact ⟨oz, e, h3, h4, h5, h6⟩⟩)) (Region.noSelect_spec hs) hQ f l a w hz (Region.free_spec hi hf) (by simpa using hr) hy hu hRw hTw h
/-- it yields whatever the world is -/
theorem wpAnyZ.takeN {i : Nat} {oi : Oper} {v : Value} {f : Nat} {l : Array Bool} {a : Act} {w : World} (hi : ops[i]? = some oi) (hs : Region.noSelect ops = true) (hf : Region.free md ops l i = true) (hr : (Region.ready md ops l).contains i = true) (hiz : i ≠ z)
    (hQ : ∀ c a w, Q (.panic c) (a.put oi.dst v) w → Q (.panic c) a w)
    (hw : Region.wanted oi (yielded ops a.tmps) = true) (hy : ∀ w, (execOp a.eval oi).run P w = .ok (.value v) w) (hRw : R w) (hTw : l.getD z true = false → T w)
    (h : wpAnyZ P md ops Q R T z f (l.setIfInBounds i true) (a.put oi.dst v) w) : wpAnyZ P md ops Q R T z (f + 1) l a w :=
  wpAnyZ.take (U := fun _ => True) hi hs hf hr hiz hQ (.inl fun _ _ => trivial) (.inr fun _ _ => trivial) (.inl ⟨hw, fun w _ => hy w⟩) trivial hRw hTw h
/-- one alone may come up -/
theorem wpAnyZ.one {i : Nat} {oi : Oper} {f : Nat} {l : Array Bool} {a : Act} {w : World} {E : Prop} (hr : Region.ready md ops l = [i]) (hi : ops[i]? = some oi) (hw : Region.wanted oi (yielded ops a.tmps) = true)
    (h : if Region.wanted oi (yielded ops a.tmps) = true then Oper.wp P oi a w (fun a' w' => (R w' ∧ ((l.setIfInBounds i true).getD z true = false → T w')) ∧ wpAnyZ P md ops Q R T z f (l.setIfInBounds i true) a' w') Q else E) : wpAnyZ P md ops Q R T z (f + 1) l a w := by
  refine ⟨fun h0 => (by rw [hr] at h0; cases h0), fun j hj => ?_⟩
  rw [hr] at hj
  simp only [List.mem_singleton] at hj
  subst hj
  unfold wpOp
  rw [if_pos hw] at h
  simp only [hi, hw, if_true]
  exact .inl h
theorem wpAnyZ.done {l : Array Bool} {a : Act} {w : World} (hr : Region.ready md ops l = []) (h : Q .normal a w) : ∀ f, wpAnyZ P md ops Q R T z f l a w
  | 0 => ⟨hr, h⟩
  | _ + 1 => ⟨fun _ => h, by rw [hr]; simp⟩
/-- the beginning -/
theorem wp_region_z {id : Nat} {a : Act} {w : World} (R T : World → Prop) (z : Nat) (hm : P.follows .mixedOrders = true) (h : wpAnyZ P .any ops Q R T z ops.size (Array.replicate ops.size false) a w.drew) : (Code.region id ops true).wp P Q a w :=
  wp_region_any hm (wpAnyZ.any _ _ _ _ h)
end
end Go.Proofs.Ytjbffahmjhbpjaa
/- The device's Write. -/
set_option linter.unusedVariables false
set_option linter.unusedSimpArgs false
set_option maxRecDepth 100000
namespace Go.Proofs.Ytjbffahmjhbpjaa
open Go.RowKit
section
variable {ops : Array Oper} {o : Oper} {a : Act} {Q : Exit → Act → World → Prop}
theorem step_appP {W : World} {K : Act → World → Prop} {E : Prop} (n : Nat) {v : Value} {q : Nat} {C : List Pd} (y : Pd) (HO : OwnP W 0 n v q C) (h1 : y.num < n) (h2 : y.data.length = 512)
    (g0 : Nat) (hrow : W.heap[g0]? = some (.cells (pc y).toArray 80 (0, 0))) (hl : (q + 1) * 520 ≤ 140737488355328) (s x : Operand) (hgd : o.guard = none)
    (ho : o.op = .call { callee := .builtin .append, args := #[s, x], argTypes := #[74, 74] }) (hs : a.eval s = v) (hx : a.eval x = .slice (some ⟨g0, 0, none⟩) 1 1)
    (h : ∀ v1 w1, OwnP w1 0 n v1 (q + 1) (C ++ [y]) → W.grownBy w1 v.ownBlock → (v1.ownBlock = v.ownBlock ∨ v1.ownBlock = some W.heap.size) → K (a.put o.dst v1) w1) :
    if Region.wanted o (yielded ops a.tmps) = true then Oper.wp Try.prog o a W K Q else E := by
  have hw : Region.wanted o (yielded ops a.tmps) = true := by simp [Region.wanted, hgd]
  rw [if_pos hw]
  obtain ⟨i0, hi, hzz⟩ := Option.map_eq_some_iff.1 info_pd
  simp only [Prod.mk.injEq] at hzz
  obtain ⟨hz0, hz1, hz2⟩ := hzz
  obtain ⟨v1, w1, hr, h3, h4, _, h5⟩ := run_append_own_at (P := Try.prog) W 0 74 o.type 80 i0 _ 513 520 Try.underlying74 hi hz0 hz1 hz2 (by simp [Value.cells]) (by omega) v q (pcs C) HO.2 ⟨g0, 0, none⟩ 1 1 (pc y)
    (by rw [pc_length h2]) (fun j u hu => by
      rw [Addr.add_mid, cell_of_row _ _ _ _ _ _ hrow]
      simpa using hu) (fun u hu => pcs_one [y] u (by simpa [pcs] using hu)) (by simp only [maxLen]; omega) hl (Nat.zero_le _)
  unfold Oper.wp execOp
  simp only [ho, resolve, invoke, builtin, Sem.run_bind, Sem.run_pure, Result.andThen_ok, List.map_toArray, List.map_cons, List.map_nil, hs, hx, hr]
  refine h v1 w1 ⟨HO.1.snoc h1 h2, ?_⟩ h4 h5
  rw [pcs_append]
  rw [show pcs [y] = pc y by simp [pcs]]
  exact h3
theorem step_build {w : World} {K : Act → World → Prop} {E : Prop} (t : TypeId) (x0 x1 : Operand) (y0 y1 v : Value) (hgd : o.guard = none) (ho : o.op = .build t #[(0, x0), (1, x1)]) (h0 : a.eval x0 = y0) (h1 : a.eval x1 = y1)
    (hrun : (Instr.build t #[(0, y0), (1, y1)]).run Try.prog w = .ok v w) (h : K (a.put o.dst v) w) :
    if Region.wanted o (yielded ops a.tmps) = true then Oper.wp Try.prog o a w K Q else E := by
  have hw : Region.wanted o (yielded ops a.tmps) = true := by simp [Region.wanted, hgd]
  rw [if_pos hw]
  unfold Oper.wp execOp
  simp only [ho, List.map_toArray, List.map_cons, List.map_nil, h0, h1, Sem.run_bind, hrun, Result.andThen_ok]
  exact h
theorem exec_build {w : World} (t : TypeId) (x0 x1 : Operand) (y0 y1 v : Value) (ho : o.op = .build t #[(0, x0), (1, x1)]) (h0 : a.eval x0 = y0) (h1 : a.eval x1 = y1)
    (hrun : (Instr.build t #[(0, y0), (1, y1)]).run Try.prog w = .ok v w) : (execOp a.eval o).run Try.prog w = .ok (.value v) w := by
  unfold execOp
  simp only [ho, List.map_toArray, List.map_cons, List.map_nil, h0, h1, Sem.run_bind, hrun, Result.andThen_ok, Sem.run_pure]
theorem step_bslice {w : World} {K : Act → World → Prop} {E : Prop} (t : TypeId) (n : Nat) (x0 : Operand) (y0 v : Value) (w' : World) (hgd : o.guard = none) (ho : o.op = .buildSlice t n #[(0, x0)]) (h0 : a.eval x0 = y0)
    (hrun : (Instr.buildSlice t n #[(0, y0)]).run Try.prog w = .ok v w') (h : K (a.put o.dst v) w') :
    if Region.wanted o (yielded ops a.tmps) = true then Oper.wp Try.prog o a w K Q else E := by
  have hw : Region.wanted o (yielded ops a.tmps) = true := by simp [Region.wanted, hgd]
  rw [if_pos hw]
  unfold Oper.wp execOp
  simp only [ho, List.map_toArray, List.map_cons, List.map_nil, h0, Sem.run_bind, hrun, Result.andThen_ok]
  exact h
end
theorem zero_pd (W : World) : (zeroValue 80).run Try.prog W = .ok (.agg (#[.int .i64 0] ++ Array.replicate 512 (.int .u8 0))) W := by
  obtain ⟨i0, hi, hzz⟩ := Option.map_eq_some_iff.1 info_pd
  simp only [Prod.mk.injEq] at hzz
  obtain ⟨hz0, hz1, hz2⟩ := hzz
  simp [zeroValue, typeInfo, hi, hz0]
theorem fold_all (l : List Value) (cs : Array Value) (h : cs.size = l.length) : List.foldl (fun cs x => cs.setIfInBounds x.snd x.fst) cs l.zipIdx = l.toArray := by
  obtain ⟨g1, g2⟩ := Go.Great.foldl_set 0 l 0 cs
  simp only [Nat.zero_add] at g1 g2
  apply Array.ext_getElem?
  intro k
  rw [g2 k]
  by_cases hk : k < l.length
  · rw [if_pos ⟨Nat.zero_le _, hk, by omega⟩]; simp
  · rw [if_neg (by omega), Array.getElem?_eq_none (by omega), Array.getElem?_eq_none (by simp; omega)]
theorem OwnP.slice {w : World} {base n q : Nat} {v : Value} {C : List Pd} (h : OwnP w base n v q C) : ∃ A c, v = .slice A q c := by
  rcases h.2.2 with ⟨rfl, h0⟩ | ⟨g, cap, cur, rfl, _⟩
  · subst h0; exact ⟨none, 0, rfl⟩
  · exact ⟨_, cap, rfl⟩
theorem fold_pd (Z : Array Value) (hZ : Z.size = 513) (m : Nat) (D : List UInt8) (h : D.length = 512) : List.foldl (fun cs x => cs.setIfInBounds (1 + x.snd) x.fst) (Z.setIfInBounds 0 (.int .i64 (m : Int))) (bv D).zipIdx = (pc ⟨m, D⟩).toArray := by
  have hb := bv_length D
  have hs2 : (Z.setIfInBounds 0 (.int .i64 (m : Int))).size = 513 := by rw [Array.size_setIfInBounds, hZ]
  obtain ⟨g1, g2⟩ := Go.Great.foldl_set 1 (bv D) 0 (Z.setIfInBounds 0 (.int .i64 (m : Int)))
  apply Array.ext_getElem?
  intro k
  refine Eq.trans (g2 k) ?_
  rw [hb, h, hs2]
  rcases Nat.eq_zero_or_pos k with rfl | hk
  · rw [if_neg (by omega), Array.getElem?_setIfInBounds_self_of_lt (by omega)]
    rfl
  · by_cases h5 : k < 513
    · rw [if_pos (by omega)]
      obtain ⟨j, rfl⟩ : ∃ j, k = j + 1 := ⟨k - 1, by omega⟩
      simp [pc]
    · rw [if_neg (by omega), Array.getElem?_eq_none (by rw [hs2]; omega), Array.getElem?_eq_none (by rw [List.size_toArray, pc_length h]; omega)]
theorem sz_blk : (Try.prog.info? 78).map (·.size) = some 512 := by kernel_rfl
theorem sap (W : World) (A : Option Addr) (c : Nat) : (Instr.arrayAt 78 (.slice A 512 c)).run Try.prog W = .ok (.pointer A) W := by
  have h := Try.underlying78
  simp [Instr.arrayAt, run_underlying h]
theorem Rd.keepS {w w' : World} {A : Option Addr} {n c : Nat} {l : List UInt8} {S : List Nat} (h : Rd w A n c l) (hw : Only S w w') (hs : 0 < n → ∀ p, A = some p → p.block ∉ S) : Rd w' A n c l :=
  ⟨h.len, h.cap, h.max, fun hn => by
    obtain ⟨b, o, e, hc⟩ := h.at_ hn
    refine ⟨b, o, e, fun j hj => ?_⟩
    have h1 := hc j hj
    have h2 := World.block_lt_of_cell? w _ h1
    exact (World.cell?_of_block (w := w) (a := ⟨b, o + j, none⟩) (hw.blk b h2 (hs hn ⟨b, o, none⟩ e))).trans h1⟩
theorem IsV.append {w w1 : World} {b g : Nat} {vc v1 : Value} {D : DS} {o : Obj} (h : IsV w b g vc D) (y : Pd) (hO : OwnP w1 0 D.n v1 (D.C.length + 1) (D.C ++ [y])) (hG : ((w.drew).alloc o).grownBy w1 vc.ownBlock)
    (hA : v1.ownBlock = vc.ownBlock ∨ v1.ownBlock = some ((w.drew).alloc o).heap.size) :
    (∀ j, w1.cell? ⟨b, j, none⟩ = w.cell? ⟨b, j, none⟩) ∧ (∀ j, w1.frozen? ⟨b, j, none⟩ = false) ∧ IsV (w1.setCell ⟨b, 1, none⟩ v1) b g v1 { D with C := D.C ++ [y] } ∧ Fr (dvS b g vc) (dvS b g v1) w (w1.setCell ⟨b, 1, none⟩ v1) ∧ Only (dvS b g vc) w w1 := by
  have hbl := lt_of_block h.dev.st
  have hgl := lt_of_block h.dev.med
  have hz : ((w.drew).alloc o).heap.size = w.heap.size + 1 := by simp
  have hold : ∀ k, k < w.heap.size → some k ≠ vc.ownBlock → w1.heap[k]? = w.heap[k]? := fun k hk hn => by
    rw [hG.block k (by omega) hn]
    exact Below.heap_alloc w.drew o k hk
  have hb1 := hold b hbl (fun e => (h.nb b e.symm).1 rfl)
  have hg1 := hold g hgl (fun e => (h.nb g e.symm).2 rfl)
  have hst := hb1.trans h.dev.st
  have hO1 : Only (dvS b g vc) w w1 := ⟨hG.os, hG.tape, hG.output, by have := hG.size; omega, fun k hk hs => hold k hk (fun e => hs (by simp [dvS, ← e]))⟩
  have hnew : ∀ k, v1.ownBlock = some k → vc.ownBlock = some k ∨ w.heap.size < k := fun k hk => by
    rcases hA with hA | hA
    · exact .inl (hA ▸ hk)
    · rw [hA, hz] at hk; injection hk with hk; exact .inr (by omega)
  have hnb : ∀ k, v1.ownBlock = some k → k ≠ b ∧ k ≠ g := fun k hk => by
    rcases hnew k hk with h1 | h1
    · exact h.nb k h1
    · exact ⟨by omega, by omega⟩
  have hS : Only [b] w1 (w1.setCell ⟨b, 1, none⟩ v1) := (Only.refl [b] w1).setCell (by simp) v1
  refine ⟨fun j => World.cell?_of_block (w := w) (a := ⟨b, j, none⟩) hb1, fun j => frozen_of_row w1 b j _ _ hst, ⟨⟨?_, ?_, h.dev.len, h.dev.ne, h.dev.small⟩, ?_, hnb⟩, ⟨hO1.trans (hS.mono (by simp [dvS])), ?_⟩, hO1⟩
  · rw [heap_setCell_same w1 b 1 _ _ v1 hst]; rfl
  · exact (hS.blk g (lt_of_block (hg1.trans h.dev.med)) (by simp; exact fun e => h.dev.ne e.symm)).trans (hg1.trans h.dev.med)
  · rw [show ({ D with C := D.C ++ [y] } : DS).C.length = D.C.length + 1 by simp]
    exact hO.keep hS (fun k hk => by simp; exact (hnb k hk).1)
  · intro k hk
    simp only [dvS, List.mem_cons, Option.mem_toList] at hk ⊢
    rcases hk with rfl | rfl | hk
    · simp
    · simp
    · rcases hnew k hk with h1 | h1
      · exact .inl (.inr (.inr h1))
      · exact .inr (by omega)
def wrD (D : DS) (num : Int) (L : List UInt8) : Int × DS :=
  if ¬ (0 ≤ num ∧ num < D.n) then (60, D) else if L.length ≠ 512 then (61, D) else
    if (actD D).1 = true then (0, { (actD D).2 with C := (actD D).2.C ++ [⟨num.toNat, L⟩], wr := (actD D).2.wr + 1 }) else (6, (actD D).2)
theorem dv_Write (w : World) (b g : Nat) (vc : Value) (D : DS) (num : Int) (A : Option Addr) (m c : Nat) (L : List UInt8) (h : IsV w b g vc D) (hr : Rd w A m c L)
    (hx : 0 < m → ∀ p, A = some p → p.block ∉ dvS b g vc) (hl : D.left < 9223372036854775808) (hq : D.C.length ≤ 100000000000) (hwr : D.wr < 9223372036854775807) :
    Calls Try.prog 16 #[.pointer (some ⟨b, 0, none⟩), .int .i64 num, .slice A m c] w fun e w' => e = .returned (.int .i64 (wrD D num L).1) ∧ ∃ vc', IsV w' b g vc' (wrD D num L).2 ∧ Fr (dvS b g vc) (dvS b g vc') w w' := by
  have HH := Lib.hid (dv_has w b g vc D num h)
  have HA := Lib.hid (dv_act w b g vc D hl h)
  have HV := Lib.hid h
  have HR := Lib.hid hr
  have HX := Lib.hid hx
  have hlen := hr.len
  have hmx := hr.max
  clear h hr hx
  by_cases h1 : 0 ≤ num ∧ num < (D.n : Int)
  · rw [decide_eq_true h1] at HH
    by_cases h2 : m = 512
    · subst h2
      obtain ⟨k, rfl⟩ : ∃ k : Nat, num = k := ⟨num.toNat, by omega⟩
      cases hact : (actD D).1 with
      | false =>
        have HW := Lib.hid (show wrD D k L = (6, (actD D).2) by unfold wrD; rw [if_neg (by simpa using h1), if_neg (by omega), if_neg (by simp [hact])])
        rw [hact] at HA
        rw [HW.out]
        clear hlen hact
        go_enter Try.func16, Try.ntmps16
        go_wp2_with fail
        refine HH.out.mono ?_
        rintro e w1 ⟨rfl, rfl⟩
        go_wp2_with fail
        refine HA.out.mono ?_
        rintro e w2 ⟨rfl, hV, hF⟩
        have HV2 := Lib.hid hV
        have HF2 := Lib.hid hF
        clear hV hF
        go_wp2
        go_ret
        exact ⟨rfl, vc, HV2.out, HF2.out⟩
      | true =>
        have HW := Lib.hid (show wrD D k L = (0, { (actD D).2 with C := (actD D).2.C ++ [⟨k, L⟩], wr := (actD D).2.wr + 1 }) by unfold wrD; rw [if_neg (by simpa using h1), if_neg (by omega), if_pos hact, Int.toNat_natCast])
        have HE := Lib.hid (show (actD D).2.C = D.C ∧ (actD D).2.wr = D.wr ∧ (actD D).2.n = D.n by
          unfold actD; split
          · exact ⟨rfl, rfl, rfl⟩
          · split
            · exact ⟨rfl, rfl, rfl⟩
            · split <;> exact ⟨rfl, rfl, rfl⟩)
        rw [hact] at HA
        rw [HW.out]
        obtain ⟨D2, hD2⟩ : ∃ D2, D2 = (actD D).2 := ⟨_, rfl⟩
        rw [← hD2] at HA HE ⊢
        clear hact hD2
        go_enter Try.func16, Try.ntmps16
        go_wp2_with fail
        refine HH.out.mono ?_
        rintro e w1 ⟨rfl, rfl⟩
        go_wp2_with fail
        refine HA.out.mono ?_
        rintro e w2 ⟨rfl, hV, hF⟩
        have HV2 := Lib.hid hV
        have HF2 := Lib.hid hF
        have c1 : w2.cell? ⟨b, 1, none⟩ = some vc := hV.dev.cell 1
        have hkn : k < D2.n := by have := HE.out.2.2; omega
        obtain ⟨bb, oo, rfl, hc⟩ := (HR.out.keepS hF.only HX.out).at_ (by omega)
        have hrg : w2.rangeAt bb oo (bv L) := fun j v hv => by
          have hj : j < 512 := by
            rcases Nat.lt_or_ge j 512 with h | h
            · exact h
            · rw [List.getElem?_eq_none (by rw [bv_length, hlen]; exact h)] at hv; cases hv
          rw [bv_get L j (by omega)] at hv
          rw [← hv]; exact hc j hj
        have hu78 := Try.underlying78
        have hi78 : (Try.prog.info? 78).map (·.size) = some (bv L).length := by rw [bv_length, hlen]; exact sz_blk
        have hbd := build_pd k L hlen
        have hbs := bslice_pd ⟨k, L⟩ hlen
        have hsa := fun W => sap W (some ⟨bb, oo, none⟩) c
        have hbl := hV.lt b (by simp [dvS])
        have c6 : w2.cell? ⟨b, 6, none⟩ = some (.int .i64 (D2.wr : Int)) := hV.dev.cell 6
        have HC2 := Lib.hid (fun o => (show OwnP (w2.drew.alloc o) 0 D2.n vc D2.C.length D2.C from ⟨hV.ca.1, World.ownsRow.alloc (w := w2.drew) hV.ca.2 o⟩))
        have hwb : (0 : Int) ≤ (D2.wr : Int) ∧ (D2.wr : Int) < 9223372036854775807 := by have := HE.out.2.1; omega
        clear hV hF hc
        have c1a : ∀ o, (w2.drew.alloc o).cell? ⟨b, 1, none⟩ = some vc := fun o => by
          have h9 : (w2.drew.alloc o).heap[b]? = w2.heap[b]? := Below.heap_alloc w2 o b hbl
          exact (World.cell?_of_block (w := w2) (a := ⟨b, 1, none⟩) h9).trans c1
        have hrga : ∀ o, (w2.drew.alloc o).rangeAt bb oo (bv L) := fun o j v hv => by
          have h8 := World.block_lt_of_cell? w2 _ (hrg j v hv)
          have h9 : (w2.drew.alloc o).heap[bb]? = w2.heap[bb]? := Below.heap_alloc w2 o bb h8
          exact (World.cell?_of_block (w := w2) (a := ⟨bb, oo + j, none⟩) h9).trans (hrg j v hv)
        have hrd : w2.drew.rangeAt bb oo (bv L) := hrg
        have hcd : w2.drew.cell? ⟨b, 1, none⟩ = some vc := c1
        go_wp2_with fail
        refine wp_region_z (fun w' => w'.rangeAt bb oo (bv L)) (fun w' => w'.cell? ⟨b, 1, none⟩ = some vc) 11 (by kernel_rfl) ?_
        refine wpAnyZ.takeN (i := 0) (v := .pointer (some ⟨b, 0, none⟩)) rfl (by kernel_rfl) (by kernel_rfl) (by kernel_rfl) (by decide) (fun _ _ _ h => h) (by rfl) (fun w => ?zy) hrd (fun _ => hcd) ?_
        case zy => go_simp
        simp only [Act.put, List.getElem_toArray, List.getElem_cons_zero, List.getElem_cons_succ, List.setIfInBounds_toArray, List.set_cons_zero, List.set_cons_succ]
        refine wpAnyZ.takeN (i := 1) (v := .pointer (some ⟨b, 0, none⟩)) rfl (by kernel_rfl) (by kernel_rfl) (by kernel_rfl) (by decide) (fun _ _ _ h => h) (by rfl) (fun w => ?zy) hrd (fun _ => hcd) ?_
        case zy => go_simp
        simp only [Act.put, List.getElem_toArray, List.getElem_cons_zero, List.getElem_cons_succ, List.setIfInBounds_toArray, List.set_cons_zero, List.set_cons_succ]
        refine wpAnyZ.takeN (i := 2) (v := .pointer (some ⟨b, 0, none⟩)) rfl (by kernel_rfl) (by kernel_rfl) (by kernel_rfl) (by decide) (fun _ _ _ h => h) (by rfl) (fun w => ?zy) hrd (fun _ => hcd) ?_
        case zy => go_simp
        simp only [Act.put, List.getElem_toArray, List.getElem_cons_zero, List.getElem_cons_succ, List.setIfInBounds_toArray, List.set_cons_zero, List.set_cons_succ]
        refine wpAnyZ.takeN (i := 3) (v := .pointer (some ⟨b, 1, none⟩)) rfl (by kernel_rfl) (by kernel_rfl) (by kernel_rfl) (by decide) (fun _ _ _ h => h) (by rfl) (fun w => ?zy) hrd (fun _ => hcd) ?_
        case zy => go_simp
        simp only [Act.put, List.getElem_toArray, List.getElem_cons_zero, List.getElem_cons_succ, List.setIfInBounds_toArray, List.set_cons_zero, List.set_cons_succ]
        refine wpAnyZ.take (i := 4) (v := vc) (U := fun w' => w'.cell? ⟨b, 1, none⟩ = some vc) rfl (by kernel_rfl) (by kernel_rfl) (by kernel_rfl) (by decide) (fun _ _ _ h => h) (.inr ⟨fun _ h => h, by kernel_rfl⟩) (.inl (by kernel_rfl)) (.inl ⟨by rfl, fun w hw => ?zy⟩) hcd hrd (fun _ => hcd) ?_
        case zy => (dsimp only at hw; go_simp)
        simp only [Act.put, List.getElem_toArray, List.getElem_cons_zero, List.getElem_cons_succ, List.setIfInBounds_toArray, List.set_cons_zero, List.set_cons_succ]
        refine wpAnyZ.takeN (i := 5) (v := .int .i64 (k : Int)) rfl (by kernel_rfl) (by kernel_rfl) (by kernel_rfl) (by decide) (fun _ _ _ h => h) (by rfl) (fun w => ?zy) hrd (fun _ => hcd) ?_
        case zy => go_simp
        simp only [Act.put, List.getElem_toArray, List.getElem_cons_zero, List.getElem_cons_succ, List.setIfInBounds_toArray, List.set_cons_zero, List.set_cons_succ]
        refine wpAnyZ.takeN (i := 6) (v := .slice (some ⟨bb, oo, none⟩) 512 c) rfl (by kernel_rfl) (by kernel_rfl) (by kernel_rfl) (by decide) (fun _ _ _ h => h) (by rfl) (fun w => ?zy) hrd (fun _ => hcd) ?_
        case zy => go_simp
        simp only [Act.put, List.getElem_toArray, List.getElem_cons_zero, List.getElem_cons_succ, List.setIfInBounds_toArray, List.set_cons_zero, List.set_cons_succ]
        refine wpAnyZ.takeN (i := 7) (v := .pointer (some ⟨bb, oo, none⟩)) rfl (by kernel_rfl) (by kernel_rfl) (by kernel_rfl) (by decide) (fun _ _ _ h => h) (by rfl) (fun w => ?zy) hrd (fun _ => hcd) ?_
        case zy => go_simp
        simp only [Act.put, List.getElem_toArray, List.getElem_cons_zero, List.getElem_cons_succ, List.setIfInBounds_toArray, List.set_cons_zero, List.set_cons_succ]
        refine wpAnyZ.take (i := 8) (v := .agg (bv L).toArray) (U := fun w' => w'.rangeAt bb oo (bv L)) rfl (by kernel_rfl) (by kernel_rfl) (by kernel_rfl) (by decide) (fun _ _ _ h => h) (.inl fun _ h => h) (.inr fun _ h => h) (yieldsIf_load_mid (by rfl) _ _ rfl bb oo rfl (bv L) _ (fun _ h => h) hu78 rfl hi78) hrd hrd (fun _ => hcd) ?_
        simp only [Act.put, List.getElem_toArray, List.getElem_cons_zero, List.getElem_cons_succ, List.setIfInBounds_toArray, List.set_cons_zero, List.set_cons_succ]
        refine wpAnyZ.takeN (i := 9) (v := .agg (pc ⟨k, L⟩).toArray) rfl (by kernel_rfl) (by kernel_rfl) (by kernel_rfl) (by decide) (fun _ _ _ h => h) (by rfl) (fun w => ?zy) hrd (fun _ => hcd) ?_
        case zy => exact exec_build 80 (.tmp 25) (.tmp 28) _ _ _ rfl rfl rfl (hbd w)
        simp only [Act.put, List.getElem_toArray, List.getElem_cons_zero, List.getElem_cons_succ, List.setIfInBounds_toArray, List.set_cons_zero, List.set_cons_succ]
        refine wpAnyZ.one (i := 10) (E := False) (by kernel_rfl) rfl (by rfl) ?_
        refine step_bslice 74 1 (.tmp 29) (.agg (pc ⟨k, L⟩).toArray) _ _ rfl rfl rfl (hbs _) ?_
        refine ⟨⟨hrga _, fun _ => c1a _⟩, ?_⟩
        simp only [Act.put, List.getElem_toArray, List.getElem_cons_zero, List.getElem_cons_succ, List.setIfInBounds_toArray, List.set_cons_zero, List.set_cons_succ]
        refine wpAnyZ.one (i := 11) (E := False) (by kernel_rfl) rfl (by rfl) ?_
        refine step_appP (W := w2.drew.alloc (.cells (pc ⟨k, L⟩).toArray 80)) D2.n ⟨k, L⟩ (q := D2.C.length) (C := D2.C) (v := vc) (HC2.out _) hkn hlen w2.heap.size (heap_alloc_new w2.drew _) (by have := HE.out.1; rw [this]; omega) _ _ rfl rfl rfl rfl ?_
        intro v1 x1 hO1 hG1 hA1
        obtain ⟨A1, q1, rfl⟩ := hO1.slice
        have HP := Lib.hid (HV2.out.append ⟨k, L⟩ hO1 hG1 hA1)
        have k1 := (HP.out.1 1).trans c1
        have k6 := (HP.out.1 6).trans c6
        have f1 := HP.out.2.1 1
        have f6 := HP.out.2.1 6
        have kr : x1.rangeAt bb oo (bv L) := fun j v hv => (World.cell?_of_block (w := w2) (a := ⟨bb, oo + j, none⟩) (HP.out.2.2.2.2.blk bb (World.block_lt_of_cell? w2 _ (hrg j v hv)) (HX.out (by omega) ⟨bb, oo, none⟩ rfl))).trans (hrg j v hv)
        have kr2 : (x1.setCell ⟨b, 1, none⟩ (.slice A1 (D2.C.length + 1) q1)).rangeAt bb oo (bv L) := fun j v hv => (World.cell?_of_block (w := x1) (a := ⟨bb, oo + j, none⟩) (heap_setCell_other x1 _ bb _ (fun e => HX.out (by omega) ⟨bb, oo, none⟩ rfl (by rw [e]; simp [dvS])))).trans (kr j v hv)
        clear hO1 hG1 hA1
        refine ⟨⟨kr, fun h => ?zf⟩, ?_⟩
        case zf => (have h9 : (true : Bool) = false := h; cases h9)
        simp only [Act.put, List.getElem_toArray, List.getElem_cons_zero, List.getElem_cons_succ, List.setIfInBounds_toArray, List.set_cons_zero, List.set_cons_succ]
        refine wpAnyZ.takeN (i := 12) (v := .pointer (some ⟨b, 0, none⟩)) rfl (by kernel_rfl) (by kernel_rfl) (by kernel_rfl) (by decide) (fun _ _ _ h => h) (by rfl) (fun w => ?zy) kr (fun h => ?zf) ?_
        case zy => go_simp
        case zf => (have h9 : (true : Bool) = false := h; cases h9)
        simp only [Act.put, List.getElem_toArray, List.getElem_cons_zero, List.getElem_cons_succ, List.setIfInBounds_toArray, List.set_cons_zero, List.set_cons_succ]
        refine wpAnyZ.takeN (i := 13) (v := .pointer (some ⟨b, 1, none⟩)) rfl (by kernel_rfl) (by kernel_rfl) (by kernel_rfl) (by decide) (fun _ _ _ h => h) (by rfl) (fun w => ?zy) kr (fun h => ?zf) ?_
        case zy => go_simp
        case zf => (have h9 : (true : Bool) = false := h; cases h9)
        simp only [Act.put, List.getElem_toArray, List.getElem_cons_zero, List.getElem_cons_succ, List.setIfInBounds_toArray, List.set_cons_zero, List.set_cons_succ]
        refine wpAnyZ.one (i := 14) (E := False) (by kernel_rfl) rfl (by rfl) ?_
        rw [if_pos (by rfl)]
        clear hbd hbs hsa hrga c1a hu78 hi78 hcd
        go_simp
        refine wpAnyZ.done (by kernel_rfl) ?_ _
        go_wp2
        go_ret
        have HS := HP.out.2.2.1.store 6 (.int .i64 ((D2.wr : Int) + 1)) { n := D2.n, M := D2.M, C := D2.C ++ [⟨k, L⟩], left := D2.left, armed := D2.armed, down := D2.down, rd := D2.rd, wr := D2.wr + 1, fl := D2.fl } rfl rfl rfl (by simp)
        exact ⟨rfl, _, HS.1, HF2.out.trans (HP.out.2.2.2.1.trans HS.2)⟩
    · have HW := Lib.hid (show wrD D num L = (61, D) by unfold wrD; rw [if_neg (by simpa using h1), if_pos (by omega)])
      have e1 : ((m : Int) == 512) = false := by simp; omega
      rw [HW.out]
      clear hlen h2
      go_enter Try.func16, Try.ntmps16
      go_wp2_with fail
      refine HH.out.mono ?_
      rintro e w1 ⟨rfl, rfl⟩
      go_wp2
      go_ret
      exact ⟨rfl, vc, HV.out, Fr.refl _ _⟩
  · rw [decide_eq_false h1] at HH
    have HW := Lib.hid (show wrD D num L = (60, D) by unfold wrD; rw [if_pos h1])
    rw [HW.out]
    clear hlen h1
    go_enter Try.func16, Try.ntmps16
    go_wp2_with fail
    refine HH.out.mono ?_
    rintro e w1 ⟨rfl, rfl⟩
    go_wp2
    go_ret
    exact ⟨rfl, vc, HV.out, Fr.refl _ _⟩
end Go.Proofs.Ytjbffahmjhbpjaa
/- The device's copied, Raw: a block's bytes as new memory. -/
set_option linter.unusedVariables false
set_option linter.unusedSimpArgs false
set_option maxRecDepth 100000
namespace Go.Proofs.Ytjbffahmjhbpjaa
open Go.RowKit
theorem mk512 (W : World) : (Instr.makeSlice 29 (.int .i64 512) (.int .i64 512)).run Try.prog W = .ok (.slice (some ⟨W.heap.size, 0, none⟩) 512 512) (W.alloc (.cells (zc 512) 5)) := mk_u8 512 512 (by omega) (by omega) W
theorem Own.row {W : World} {base g n : Nat} {l : List UInt8} (hb : base ≤ g) (hl : l.length = n) (hm : n ≤ 140737490452480) (h : W.heap[g]? = some (.cells (bv l).toArray 5 (0, 0))) : Own W base (.slice (some ⟨g, 0, none⟩) n n) n l :=
  ⟨by rw [bv_length, hl, Nat.mul_one], .inr ⟨g, n, _, rfl, hb, h, Nat.le_refl _, by simp only [maxLen]; omega, by rw [List.size_toArray, bv_length, hl, Nat.mul_one], by rw [Nat.mul_one, List.take_of_length_le (by simp [bv_length, hl])]⟩⟩
/-- new memory that holds L -/
def NewB (w : World) (u : Value) (L : List UInt8) (w' : World) : Prop := ∃ k, u = .slice (some ⟨k, 0, none⟩) 512 512 ∧ Own w' w.heap.size u 512 L ∧ Below w.heap.size w w'
theorem dv_copied (w : World) (g off : Nat) (D : List UInt8) (hl : D.length = 512) (hc : w.rangeAt g off (bv D)) :
    Calls Try.prog 36 #[.pointer (some ⟨g, off, none⟩)] w fun e w' => ∃ u, e = .returned u ∧ NewB w u D w' := by
  have hmk := mk512
  have hbl := bv_length D
  have HL := Lib.hid hl
  have hgl : g < w.heap.size := by
    have h0 := hc 0 _ (bv_get D 0 (by omega))
    exact World.block_lt_of_cell? w _ h0
  have HC := Lib.hid (show ∀ j v, (bv D)[j]? = some v → (w.alloc (.cells (zc 512) 5)).cell? ((⟨g, off, none⟩ : Addr).add j) = some v from fun j v hv => by
    rw [Addr.add_mid]
    exact (World.cell?_of_block (w := w) (a := ⟨g, off + j, none⟩) (Below.heap_alloc w _ g hgl)).trans (hc j v hv))
  have hcp := run_copy_row (P := Try.prog) (w.alloc (.cells (zc 512) 5)) 29 29 3 5 w.heap.size 0 512 512 ⟨g, off, none⟩ 512 512 (zc 512) 5 (bv D) Try.underlying29 sz_u8 (heap_alloc_new w _) (by rw [bv_length, hl]; decide) HC.out (by rw [bv_length, hl]; simp [zc, size_madeCells]) (bv_one _)
  have he : ((zc 512).toList.take 0 ++ bv D ++ (zc 512).toList.drop (0 + (bv D).length)).toArray = (bv D).toArray := by
    rw [bv_length, hl, List.take_zero, List.nil_append, List.drop_eq_nil_of_le (by simp [zc, size_madeCells]), List.append_nil]
  rw [he] at hcp
  have HSR := Lib.hid (setRow_heap (w.alloc (.cells (zc 512) 5)) w.heap.size _ (bv D).toArray 5 (0, 0) (heap_alloc_new w _))
  clear hc hl he
  go_enter Try.func36, Try.ntmps36
  go_wp2
  go_ret
  refine ⟨_, rfl, w.heap.size, rfl, ?_, below_setRow ((Below.refl _ w).alloc (Nat.le_refl _) _) (Nat.le_refl _) _⟩
  exact Own.row (Nat.le_refl _) HL.out (by omega) HSR.out
/-- a block of the medium -/
def blkM (M : List UInt8) (k : Nat) : List UInt8 := (M.drop (k * 512)).take 512
theorem IsV.med {w : World} {b g : Nat} {vc : Value} {D : DS} (h : IsV w b g vc D) (k : Nat) (hk : k < D.n) : w.rangeAt g (k * 512) (bv (blkM D.M k)) ∧ (blkM D.M k).length = 512 := by
  have hl := h.dev.len
  have h5 : (blkM D.M k).length = 512 := by unfold blkM; rw [List.length_take, List.length_drop, hl]; omega
  refine ⟨fun j v hv => ?_, h5⟩
  have hj : j < 512 := by
    rcases Nat.lt_or_ge j 512 with h | h
    · exact h
    · rw [List.getElem?_eq_none (by rw [bv_length, h5]; exact h)] at hv; cases hv
  rw [cell_of_row w g (k * 512 + j) _ _ _ h.dev.med]
  rw [List.getElem?_toArray, bv_get _ _ (by rw [hl]; omega), ← hv, bv_get _ _ (by rw [h5]; exact hj)]
  congr 3
  unfold blkM
  simp [List.getD_eq_getElem?_getD, hj]
def rawD (D : DS) (num : Int) : List UInt8 := blkM D.M num.toNat
theorem dv_Raw_bad (w : World) (b g : Nat) (vc : Value) (D : DS) (num : Int) (h : IsV w b g vc D) (hn : ¬ (0 ≤ num ∧ num < (D.n : Int))) :
    Calls Try.prog 22 #[.pointer (some ⟨b, 0, none⟩), .int .i64 num] w fun e w' => e = .returned (.tuple #[.slice none 0 0, .int .i64 60]) ∧ w' = w := by
  have HH := Lib.hid (dv_has w b g vc D num h)
  rw [decide_eq_false hn] at HH
  clear h hn
  go_enter Try.func22, Try.ntmps22
  go_wp2_with fail
  refine HH.out.mono ?_
  rintro e w1 ⟨rfl, rfl⟩
  go_wp2
  go_ret2
  exact ⟨rfl, rfl⟩
theorem dv_Raw (w : World) (b g : Nat) (vc : Value) (D : DS) (k : Nat) (h : IsV w b g vc D) (hk : k < D.n) :
    Calls Try.prog 22 #[.pointer (some ⟨b, 0, none⟩), .int .i64 k] w fun e w' => ∃ u, e = .returned (.tuple #[u, .int .i64 0]) ∧ NewB w u (blkM D.M k) w' := by
  have HH := Lib.hid (dv_has w b g vc D k h)
  rw [decide_eq_true (show 0 ≤ (k : Int) ∧ (k : Int) < (D.n : Int) by omega)] at HH
  have hmd := h.med k hk
  have HC := Lib.hid (dv_copied w g (k * 512) (blkM D.M k) hmd.2 hmd.1)
  have c0 := h.dev.c0
  have hkk : (0 : Int) ≤ (k : Int) ∧ (k : Int) < (D.n : Int) := by omega
  clear h hmd hk
  go_enter Try.func22, Try.ntmps22
  go_wp2_with fail
  refine HH.out.mono ?_
  rintro e w1 ⟨rfl, rfl⟩
  go_wp2_with fail
  refine HC.out.mono ?_
  rintro e w2 ⟨u, rfl, hN⟩
  have HN := Lib.hid hN
  obtain ⟨q, rfl, _, _⟩ := hN
  go_wp2
  go_ret2
  exact ⟨_, rfl, HN.out⟩
end Go.Proofs.Ytjbffahmjhbpjaa
/- The device's Edit, Counts. -/
set_option linter.unusedVariables false
set_option linter.unusedSimpArgs false
set_option maxRecDepth 100000
namespace Go.Proofs.Ytjbffahmjhbpjaa
open Go.RowKit
theorem only_setRow (w : World) (g : Nat) (cs : Array Value) : Only [g] w (w.setRow g cs) := ⟨rfl, rfl, rfl, by simp [World.setRow], fun k hk hs => setRow_other w g k _ (fun e => hs (by simp [e]))⟩
theorem IsV.setMed {w w' : World} {b g : Nat} {vc : Value} {D : DS} {M' : List UInt8} (h : IsV w b g vc D) (ho : Only [g] w w') (hm : w'.heap[g]? = some (.cells (bv M').toArray 78 (0, 0))) (hl : M'.length = D.M.length) :
    IsV w' b g vc { D with M := M' } ∧ Fr (dvS b g vc) (dvS b g vc) w w' :=
  ⟨⟨h.dev.medium ho hm hl, h.ca.keep ho (fun k hk => by simp; exact (h.nb k hk).2), h.nb⟩, ho.mono (by simp [dvS]), fun k hk => .inl hk⟩
def edD (D : DS) (num at_ : Int) (L : List UInt8) : Int × DS :=
  if ¬ (0 ≤ num ∧ num < D.n) then (60, D) else if at_ < 0 ∨ 512 < at_ ∨ 512 - at_ < L.length then (1, D) else (0, { D with M := splice D.M (num.toNat * 512 + at_.toNat) L })
theorem dv_Edit (w : World) (b g : Nat) (vc : Value) (D : DS) (num at_ : Int) (A : Option Addr) (m c : Nat) (L : List UInt8) (h : IsV w b g vc D) (hr : Rd w A m c L) (hat : -9223372036854775808 ≤ at_ ∧ at_ < 9223372036854775808) :
    Calls Try.prog 18 #[.pointer (some ⟨b, 0, none⟩), .int .i64 num, .int .i64 at_, .slice A m c] w fun e w' => e = .returned (.int .i64 (edD D num at_ L).1) ∧ IsV w' b g vc (edD D num at_ L).2 ∧ Fr (dvS b g vc) (dvS b g vc) w w' := by
  have HH := Lib.hid (dv_has w b g vc D num h)
  have HV := Lib.hid h
  have HR := Lib.hid hr
  have hlen := hr.len
  have hmx := hr.max
  have c0 := h.dev.c0
  clear h hr
  by_cases h1 : 0 ≤ num ∧ num < (D.n : Int)
  · rw [decide_eq_true h1] at HH
    obtain ⟨k, rfl⟩ : ∃ k : Nat, num = k := ⟨num.toNat, by omega⟩
    rcases (by omega : at_ < 0 ∨ (¬ at_ < 0 ∧ 512 < at_) ∨ (0 ≤ at_ ∧ at_ ≤ 512 ∧ 512 - at_ < (m : Int)) ∨ (0 ≤ at_ ∧ at_ ≤ 512 ∧ (m : Int) ≤ 512 - at_)) with h2 | ⟨h2, h3⟩ | ⟨h2, h3, h4⟩ | ⟨h2, h3, h4⟩
    · have HW := Lib.hid (show edD D k at_ L = (1, D) by unfold edD; rw [if_neg (by simpa using h1), if_pos (by omega)])
      rw [HW.out]
      clear hlen
      go_enter Try.func18, Try.ntmps18
      go_wp2_with fail
      refine HH.out.mono ?_
      rintro e w1 ⟨rfl, rfl⟩
      go_wp2
      go_ret
      exact ⟨rfl, HV.out, Fr.refl _ _⟩
    · have HW := Lib.hid (show edD D k at_ L = (1, D) by unfold edD; rw [if_neg (by simpa using h1), if_pos (by omega)])
      rw [HW.out]
      clear hlen
      go_enter Try.func18, Try.ntmps18
      go_wp2_with fail
      refine HH.out.mono ?_
      rintro e w1 ⟨rfl, rfl⟩
      go_wp2
      go_ret
      exact ⟨rfl, HV.out, Fr.refl _ _⟩
    · have HW := Lib.hid (show edD D k at_ L = (1, D) by unfold edD; rw [if_neg (by simpa using h1), if_pos (by omega)])
      rw [HW.out]
      clear hlen
      go_enter Try.func18, Try.ntmps18
      go_wp2_with fail
      refine HH.out.mono ?_
      rintro e w1 ⟨rfl, rfl⟩
      go_wp2
      go_ret
      exact ⟨rfl, HV.out, Fr.refl _ _⟩
    · obtain ⟨a, rfl⟩ : ∃ a : Nat, at_ = a := ⟨at_.toNat, by omega⟩
      have HW := Lib.hid (show edD D k a L = (0, { D with M := splice D.M (k * 512 + a) L }) by unfold edD; rw [if_neg (by simpa using h1), if_neg (by omega), Int.toNat_natCast, Int.toNat_natCast])
      rw [HW.out]
      have hml := HV.out.dev.len
      have ha : a ≤ 512 := by omega
      have hkn : k < D.n := by omega
      by_cases hm0 : m = 0
      · subst hm0
        obtain rfl : L = [] := List.eq_nil_of_length_eq_zero hlen
        have hsp : splice D.M (k * 512 + a) [] = D.M := by simp [splice]
        rw [hsp]
        have hcp := fun (dp sp : Option Addr) (dl dc sc : Nat) => run_copy_none (P := Try.prog) w 29 29 3 5 dp sp dl dc 0 sc Try.underlying29 sz_u8 (by simp)
        clear hlen hml hsp
        by_cases ha5 : a = 512
        · subst ha5
          go_enter Try.func18, Try.ntmps18
          go_wp2_with fail
          refine HH.out.mono ?_
          rintro e w1 ⟨rfl, rfl⟩
          go_wp2
          go_ret
          exact ⟨rfl, HV.out, Fr.refl _ _⟩
        · go_enter Try.func18, Try.ntmps18
          go_wp2_with fail
          refine HH.out.mono ?_
          rintro e w1 ⟨rfl, rfl⟩
          go_wp2
          go_ret
          exact ⟨rfl, HV.out, Fr.refl _ _⟩
      · have ha5 : a < 512 := by omega
        obtain ⟨bb, oo, rfl, hc⟩ := HR.out.at_ (by omega)
        have hfit : k * 512 + a + L.length ≤ D.M.length := by omega
        have hcp := run_copy_row (P := Try.prog) w 29 29 3 5 g (k * 512 + a) (512 - a) (512 - a) ⟨bb, oo, none⟩ m c (bv D.M).toArray 78 (bv L) Try.underlying29 sz_u8 HV.out.dev.med (by rw [bv_length, hlen]; exact (Nat.min_eq_left (by omega)).symm) (fun j v hv => by
          have hj : j < m := by
            rcases Nat.lt_or_ge j m with h | h
            · exact h
            · rw [List.getElem?_eq_none (by rw [bv_length, hlen]; exact h)] at hv; cases hv
          rw [bv_get L j (by omega)] at hv
          rw [Addr.add_mid, ← hv]; exact hc j hj) (by rw [List.size_toArray, bv_length, bv_length]; exact hfit) (bv_one _)
        have he : ((bv D.M).toArray.toList.take (k * 512 + a) ++ bv L ++ (bv D.M).toArray.toList.drop (k * 512 + a + (bv L).length)).toArray = (bv (splice D.M (k * 512 + a) L)).toArray := by
          rw [← splice_bv]
          simp [splice]
        rw [he] at hcp
        have HSM := Lib.hid (HV.out.setMed (only_setRow w g (bv (splice D.M (k * 512 + a) L)).toArray) (setRow_heap w g _ _ _ _ HV.out.dev.med) (by simp [splice]; omega))
        have hne : ¬ 512 = a := by omega
        clear hlen hml hc he hfit
        go_enter Try.func18, Try.ntmps18
        go_wp2_with fail
        refine HH.out.mono ?_
        rintro e w1 ⟨rfl, rfl⟩
        go_wp2
        go_ret
        exact ⟨rfl, HSM.out.1, HSM.out.2⟩
  · rw [decide_eq_false h1] at HH
    have HW := Lib.hid (show edD D num at_ L = (60, D) by unfold edD; rw [if_pos h1])
    rw [HW.out]
    clear hlen h1
    go_enter Try.func18, Try.ntmps18
    go_wp2_with fail
    refine HH.out.mono ?_
    rintro e w1 ⟨rfl, rfl⟩
    go_wp2
    go_ret
    exact ⟨rfl, HV.out, Fr.refl _ _⟩
end Go.Proofs.Ytjbffahmjhbpjaa
/- The device's Medium, Down, Counts. -/
set_option linter.unusedVariables false
set_option linter.unusedSimpArgs false
set_option maxRecDepth 100000
namespace Go.Proofs.Ytjbffahmjhbpjaa
open Go.RowKit
theorem Rd.ofRange {w : World} {g off n c : Nat} {D : List UInt8} (hl : D.length = n) (hc : n ≤ c) (hm : n ≤ 140737490452480) (h : w.rangeAt g off (bv D)) : Rd w (some ⟨g, off, none⟩) n c D :=
  ⟨hl, hc, hm, fun _ => ⟨g, off, rfl, fun j hj => h j _ (bv_get D j (by omega))⟩⟩
theorem med_step (M : List UInt8) (k : Nat) : M.take ((k + 1) * 512) = M.take (k * 512) ++ blkM M k := by
  unfold blkM
  rw [show (k + 1) * 512 = k * 512 + 512 by omega, List.take_add]
theorem dv_Medium (w : World) (b g : Nat) (vc : Value) (D : DS) (h : IsV w b g vc D) :
    Calls Try.prog 23 #[.pointer (some ⟨b, 0, none⟩)] w fun e w' => ∃ u, e = .returned u ∧ Own w' w.heap.size u (D.n * 512) D.M ∧ Below w.heap.size w w' := by
  have HV := Lib.hid h
  have c0 := h.dev.c0
  have hsm := h.dev.small
  have HLM := Lib.hid h.dev.len
  obtain ⟨n, hn⟩ : ∃ n, n = D.n := ⟨_, rfl⟩
  rw [← hn] at c0 hsm ⊢
  have hmk : ∀ W, (Instr.makeSlice 29 (.int .i64 0) (.int .i64 ((n : Int) * 512))).run Try.prog W = .ok (.slice (some ⟨W.heap.size, 0, none⟩) 0 (n * 512)) (W.alloc (.cells (zc (n * 512)) 5)) := fun W => by
    have h9 := mk_u8_0 (n * 512) (by omega) W
    rw [show ((n * 512 : Nat) : Int) = (n : Int) * 512 by omega] at h9
    exact h9
  have HN := Lib.hid hn
  have c0a := (h.ext ((Below.refl _ w).alloc (Nat.le_refl _) (.cells (zc (n * 512)) 5))).dev.c0
  rw [← hn] at c0a
  clear h hn
  go_enter Try.func23, Try.ntmps23
  go_wp2_with fail
  clear hmk c0a
  go_loopw [3, 4, 17] (fun v _ x wx => ∃ k : Nat, k ≤ n ∧ x = .int .i64 k ∧ Own wx w.heap.size v (k * 512) (D.M.take (k * 512)) ∧ Below w.heap.size w wx) (fun _ _ x _ => n - (intOf x).toNat)
  case atStart => exact ⟨0, by omega, rfl, by simpa using Own.made0 w w.heap.size (n * 512) (Nat.le_refl _) (by omega), (Below.refl _ w).alloc (Nat.le_refl _) _⟩
  case round =>
    obtain ⟨k, hk, rfl, hO, hB⟩ := hrel
    have HO := Lib.hid hO
    have HB := Lib.hid hB
    have hz := hB.size
    have hV := HV.out.ext hB
    have d0 := hV.dev.c0
    rw [← HN.out] at d0
    by_cases hkn : k < n
    · have hmd := hV.med k (by rw [← HN.out]; exact hkn)
      have HRB := Lib.hid (Rd.ofRange (n := 512) (c := 512) hmd.2 (Nat.le_refl _) (by omega) hmd.1)
      have HST := Lib.hid (med_step D.M k)
      have hkk : (0 : Int) ≤ (k : Int) ∧ (k : Int) < (n : Int) := by omega
      clear hO hB hV hmd
      go_wp2_with (at_builtin; refine wp_app (w0 := w) w.heap.size HO.out HRB.out HB.out hz (by omega) _ _ rfl rfl rfl rfl ?_; intro v1 w1 hO1 hB1 hG1 hA1; have HO1 := Lib.hid hO1; have HB1 := Lib.hid hB1; clear hO1 hB1 hG1 hA1)
      go_roundw
      case rel => exact ⟨k + 1, by omega, by go_num, by rw [HST.out, show (k + 1) * 512 = k * 512 + 512 by omega]; exact HO1.out, HB1.out⟩
      case measure => simp [intOf]; omega
    · obtain rfl : n = k := by omega
      have HT := Lib.hid (show D.M.take (n * 512) = D.M from List.take_of_length_le (by rw [HLM.out, HN.out]; exact Nat.le_refl _))
      clear hO hB hV
      go_wp2
      go_ret
      exact ⟨_, rfl, by rw [← HT.out]; exact HO.out, HB.out⟩
end Go.Proofs.Ytjbffahmjhbpjaa
/- The device's Read, through the cache. -/
set_option linter.unusedVariables false
set_option linter.unusedSimpArgs false
set_option maxRecDepth 100000
namespace Go.Proofs.Ytjbffahmjhbpjaa
open Go.RowKit
/-- a block's bytes with the writes of a list over them -/
def rdC : List Pd → Nat → List UInt8 → List UInt8
  | [], _, d => d
  | x :: r, k, d => rdC r k (if x.num = k then x.data else d)
theorem rdC_snoc (k : Nat) (x : Pd) : ∀ (l : List Pd) (d : List UInt8), rdC (l ++ [x]) k d = if x.num = k then x.data else rdC l k d
  | [], d => rfl
  | y :: r, d => by rw [List.cons_append, rdC, rdC_snoc k x r, rdC]
theorem rdC_len {n : Nat} (k : Nat) : ∀ (l : List Pd) (d : List UInt8), PdOk n l → d.length = 512 → (rdC l k d).length = 512
  | [], d, _, h => h
  | y :: r, d, ho, h => by
    rw [rdC]
    refine rdC_len k r _ (fun x hx => ho x (by simp [hx])) ?_
    split
    · exact (ho y (by simp)).2
    · exact h
theorem takeP_snoc (l : List Pd) (k : Nat) (h : k < l.length) : l.take (k + 1) = l.take k ++ [l.getD k default] := by
  rw [List.take_succ_eq_append_getElem h, List.getD_eq_getElem?_getD, List.getElem?_eq_getElem h]; rfl
theorem OwnP.form {w : World} {base n q : Nat} {v : Value} {C : List Pd} (h : OwnP w base n v q C) (hp : 0 < q) : ∃ g c, v = .slice (some ⟨g, 0, none⟩) q c := by
  rcases h.2.2 with ⟨_, h0⟩ | ⟨g, cap, cur, rfl, _⟩
  · omega
  · exact ⟨g, cap, rfl⟩
theorem OwnP.len {w : World} {base n q : Nat} {v : Value} {C : List Pd} (h : OwnP w base n v q C) : C.length = q := by
  have h1 := h.2.1
  rw [pcs_length h.1] at h1; omega
theorem OwnP.at_ {w : World} {base n q g c : Nat} {C : List Pd} (h : OwnP w base n (.slice (some ⟨g, 0, none⟩) q c) q C) (j : Nat) (hj : j < q) :
    w.cell? ⟨g, j * 513, none⟩ = some (.int .i64 (((C.getD j default).num : Nat) : Int)) ∧ w.rangeAt g (j * 513 + 1) (bv (C.getD j default).data) := by
  have hl := h.len
  have key : ∀ i u, i < 513 → (pc (C.getD j default))[i]? = some u → w.cell? ⟨g, j * 513 + i, none⟩ = some u := fun i u hi hu => by
    have := World.ownsRow.cells h.2 (g := g) rfl (j * 513 + i) u (by rw [pcs_get C j i h.1 (by omega) hi, hu])
    rwa [Addr.add_mid, Nat.zero_add] at this
  have hd := (h.1.get j (by omega)).2
  refine ⟨key 0 _ (by omega) rfl, fun i u hu => ?_⟩
  have hi : i < 512 := by
    rcases Nat.lt_or_ge i 512 with h | h
    · exact h
    · rw [List.getElem?_eq_none (by rw [bv_length, hd]; exact h)] at hu; cases hu
  rw [Nat.add_assoc, Nat.add_comm 1 i]
  exact key (i + 1) u (by omega) (by simpa [pc] using hu)
def rdB (D : DS) (k : Nat) : List UInt8 := rdC D.C k (blkM D.M k)
theorem dv_Read (w : World) (b g : Nat) (vc : Value) (D : DS) (k : Nat) (h : IsV w b g vc D) (hk : k < D.n) (hd : D.down = false) (hrd : D.rd < 9223372036854775807) (hq : D.C.length ≤ 100000000000) :
    Calls Try.prog 19 #[.pointer (some ⟨b, 0, none⟩), .int .i64 k] w fun e w' => ∃ u, e = .returned (.tuple #[u, .int .i64 0]) ∧ (∃ j, u = .slice (some ⟨j, 0, none⟩) 512 512) ∧ Own w' w.heap.size u 512 (rdB D k) ∧ IsV w' b g vc { D with rd := D.rd + 1 } ∧ Fr (dvS b g vc) (dvS b g vc) w w' := by
  have HH := Lib.hid (dv_has w b g vc D k h)
  rw [decide_eq_true (show 0 ≤ (k : Int) ∧ (k : Int) < (D.n : Int) by omega)] at HH
  have c4 : w.cell? ⟨b, 4, none⟩ = some (.bool D.down) := h.dev.cell 4
  rw [hd] at c4
  have c5 : w.cell? ⟨b, 5, none⟩ = some (.int .i64 (D.rd : Int)) := h.dev.cell 5
  have f5 := frozen_of_row w b 5 _ _ h.dev.st
  have hw5 : (0 : Int) ≤ (D.rd : Int) ∧ (D.rd : Int) < 9223372036854775807 := by omega
  have HS := Lib.hid (h.store 5 (.int .i64 ((D.rd : Int) + 1)) { D with rd := D.rd + 1 } rfl rfl rfl (by simp))
  obtain ⟨W, hW⟩ : ∃ W, W = w.setCell ⟨b, 5, none⟩ (.int .i64 ((D.rd : Int) + 1)) := ⟨_, rfl⟩
  rw [← hW] at HS
  have hcw : W.cell? ⟨b, 1, none⟩ = some vc := HS.out.1.dev.cell 1
  clear h hd
  go_enter Try.func19, Try.ntmps19
  go_wp2_with fail
  refine HH.out.mono ?_
  rintro e w1 ⟨rfl, rfl⟩
  rw [hW] at hcw
  obtain ⟨Ac, cc, rfl⟩ := HS.out.1.ca.slice
  go_wp2_with fail
  rw [← hW]
  rw [← hW] at hcw
  have hmd := HS.out.1.med k hk
  have hlc := HS.out.1.ca.len
  have c0 := HS.out.1.dev.c0
  have hsm := HS.out.1.dev.small
  have HF := Lib.hid HS.out.2
  have HV := Lib.hid HS.out.1
  have HCP := Lib.hid (dv_copied W g (k * 512) (blkM D.M k) hmd.2 hmd.1)
  have hkk : (0 : Int) ≤ (k : Int) ∧ (k : Int) < (D.n : Int) := by omega
  have hzw : w1.heap.size ≤ W.heap.size := HF.out.only.size
  have HFin := Lib.hid (fun (u : Value) (R : List UInt8) (w2 : World) (hN : NewB W u R w2) => (show (∃ j, u = .slice (some ⟨j, 0, none⟩) 512 512) ∧ Own w2 w1.heap.size u 512 R ∧ IsV w2 b g (.slice Ac D.C.length cc) { D with rd := D.rd + 1 } ∧ Fr (dvS b g (.slice Ac D.C.length cc)) (dvS b g (.slice Ac D.C.length cc)) w1 w2 from by
    obtain ⟨j, e1, e2, e3⟩ := hN
    exact ⟨⟨j, e1⟩, e2.mono hzw, HV.out.ext e3, HF.out.trans (Fr.below _ e3)⟩))
  have HQ := Lib.hid hq
  clear c4 c5 f5 hW HH HS hmd hlc
  go_loop [6] (fun x => ∃ m : Nat, m ≤ D.C.length ∧ x = .int .i64 ((m : Int) - 1) ∧ rdB D k = rdC (D.C.take m) k (blkM D.M k)) (fun x => (intOf x + 1).toNat)
  case atStart => exact ⟨D.C.length, Nat.le_refl _, rfl, by rw [List.take_length]; rfl⟩
  case round =>
    obtain ⟨m, hm, rfl, hE⟩ := hrel
    have HE := Lib.hid hE
    clear hE
    rcases Nat.eq_zero_or_pos m with rfl | hp
    · go_wp2_with fail
      refine HCP.out.mono ?_
      rintro e w2 ⟨u, rfl, hN⟩
      have HN := Lib.hid (HFin.out u _ w2 hN)
      obtain ⟨j, rfl, _, _⟩ := hN
      go_wp2
      go_ret2
      refine ⟨_, rfl, HN.out.1, ?_, HN.out.2.2⟩
      rw [HE.out]
      exact HN.out.2.1
    · obtain ⟨j, rfl⟩ : ∃ j, m = j + 1 := ⟨m - 1, by omega⟩
      have hx : ((j + 1 : Nat) : Int) - 1 = (j : Int) := by omega
      rw [hx]
      obtain ⟨gc, cc2, hvc⟩ := HV.out.ca.form (by show 0 < D.C.length; omega)
      injection hvc with hv1 hv2 hv3
      subst hv1 hv3
      have hat := HV.out.ca.at_ j (by show j < D.C.length; omega)
      have hpd := HV.out.ca.1.get j (by show j < D.C.length; omega)
      have HCJ := Lib.hid (dv_copied W gc (j * 513 + 1) _ hpd.2 hat.2)
      have hn1 := hat.1
      have hts := takeP_snoc D.C j (by omega)
      obtain ⟨x, hxx⟩ : ∃ x, x = D.C.getD j default := ⟨_, rfl⟩
      have hn2 : W.cell? ⟨gc, j * 513, none⟩ = some (.int .i64 ((x.num : Nat) : Int)) := by rw [hxx]; exact hn1
      rw [← hxx] at hts
      have HST := Lib.hid (show rdB D k = if x.num = k then x.data else rdC (D.C.take j) k (blkM D.M k) by rw [HE.out, hts, rdC_snoc])
      have HXX := Lib.hid hxx
      have hjj : (0 : Int) ≤ (j : Int) ∧ (j : Int) < ((D.C.length : Nat) : Int) ∧ ((D.C.length : Nat) : Int) ≤ 100000000000 := by omega
      clear hat hpd hn1 hts hxx hx hp
      by_cases hnk : x.num = k
      · have e1 : (((x.num : Nat) : Int) == (k : Int)) = true := by simp [hnk]
        have HR := Lib.hid (show rdB D k = (D.C.getD j default).data by rw [HST.out, if_pos hnk, HXX.out])
        clear hnk
        go_wp2_with fail
        refine HCJ.out.mono ?_
        rintro e w2 ⟨u, rfl, hN⟩
        have HN := Lib.hid (HFin.out u _ w2 hN)
        obtain ⟨j2, rfl, _, _⟩ := hN
        go_wp2
        go_ret2
        refine ⟨_, rfl, HN.out.1, ?_, HN.out.2.2⟩
        rw [HR.out]
        exact HN.out.2.1
      · have e1 : (((x.num : Nat) : Int) == (k : Int)) = false := by simp; omega
        have HR := Lib.hid (show rdB D k = rdC (D.C.take j) k (blkM D.M k) by rw [HST.out, if_neg hnk])
        clear hnk
        go_wp2
        go_round
        case rel => exact ⟨j, by omega, rfl, HR.out⟩
        case measure => simp [intOf]
end Go.Proofs.Ytjbffahmjhbpjaa
/- The device's settle under Flush. -/
set_option linter.unusedVariables false
set_option linter.unusedSimpArgs false
set_option maxRecDepth 100000
namespace Go.Proofs.Ytjbffahmjhbpjaa
open Go.RowKit
/-- the first n bytes of a write are laid on the medium -/
def layP (M : List UInt8) (x : Pd) (n : Nat) : List UInt8 := splice M (x.num * 512) (x.data.take n)
theorem layP_len {M : List UInt8} {x : Pd} {n N : Nat} (h : M.length = N * 512) (h1 : x.num < N) (h2 : x.data.length = 512) : (layP M x n).length = N * 512 := by
  have h3 : (x.data.take n).length ≤ 512 := by rw [List.length_take]; omega
  have h4 : x.num * 512 + 512 ≤ N * 512 := by have : (x.num + 1) * 512 ≤ N * 512 := Nat.mul_le_mul_right _ h1; omega
  unfold layP splice
  rw [List.length_append, List.length_append, List.length_take, List.length_drop, h]
  omega
/-- all writes of a list, each as far as f says -/
def layA (f : Nat → Nat) : Nat → List Pd → List UInt8 → List UInt8
  | _, [], M => M
  | i, x :: r, M => layA f (i + 1) r (layP M x (f i))
theorem layA_snoc (f : Nat → Nat) (x : Pd) : ∀ (i : Nat) (l : List Pd) (M : List UInt8), layA f i (l ++ [x]) M = layP (layA f i l M) x (f (i + l.length))
  | i, [], M => rfl
  | i, y :: r, M => by
    rw [List.cons_append, layA, layA_snoc f x (i + 1) r, layA, List.length_cons, show i + 1 + r.length = i + (r.length + 1) by omega]
theorem dv_flush1 (w : World) (i : Int) : Calls Try.prog 38 #[.int .i64 i] w fun e w' => e = .returned (.tuple #[.int .i64 512, .bool true]) ∧ w' = w := by
  go_enter Try.func38, Try.ntmps38
  go_wp2
  go_ret2
  exact ⟨rfl, rfl⟩
theorem IsV.noCache {w : World} {b g : Nat} {vc : Value} {D : DS} (h : IsV w b g vc D) : IsV (w.setCell ⟨b, 1, none⟩ (.slice none 0 0)) b g (.slice none 0 0) { D with C := [] } ∧ Fr (dvS b g vc) (dvS b g (.slice none 0 0)) w (w.setCell ⟨b, 1, none⟩ (.slice none 0 0)) := by
  have hS : Only [b] w (w.setCell ⟨b, 1, none⟩ (.slice none 0 0)) := (Only.refl [b] w).setCell (by simp) _
  refine ⟨⟨⟨?_, ?_, h.dev.len, h.dev.ne, h.dev.small⟩, ⟨PdOk.nil _, World.ownsRow_nil _ _ _ _⟩, fun k hk => by cases hk⟩, hS.mono (by simp [dvS]), ?_⟩
  · rw [heap_setCell_same w b 1 _ _ _ h.dev.st]; rfl
  · exact (hS.blk g (lt_of_block h.dev.med) (by simp; exact fun e => h.dev.ne e.symm)).trans h.dev.med
  · intro k hk
    simp only [dvS, Value.ownBlock, Option.toList_none, List.mem_cons, List.not_mem_nil, or_false] at hk ⊢
    rcases hk with rfl | rfl
    · exact .inl (.inl rfl)
    · exact .inl (.inr (.inl rfl))
theorem Fr.of_med {b g : Nat} {vc : Value} {w w' : World} (h : b ≠ g) (ho : Only [g] w w') : Fr (dvS b g vc) (dvS b g vc) w w' := ⟨ho.mono (by simp [dvS]), fun k hk => .inl hk⟩
theorem dv_settleF (w : World) (b g : Nat) (vc : Value) (D : DS) (h : IsV w b g vc D) (hq : D.C.length ≤ 100000000000) :
    Calls Try.prog 37 #[.pointer (some ⟨b, 0, none⟩), .func (.func 38) #[] #[]] w fun e w' => e = .returned (.int .i64 (D.C.length : Nat)) ∧
      IsV w' b g (.slice none 0 0) { D with C := [], M := layA (fun _ => 512) 0 D.C D.M } ∧ Fr (dvS b g vc) (dvS b g (.slice none 0 0)) w w' := by
  have c1 : w.cell? ⟨b, 1, none⟩ = some vc := h.dev.cell 1
  have HV := Lib.hid h
  obtain ⟨Ac, cc, rfl⟩ := h.ca.slice
  have hbg := h.dev.ne
  clear h
  go_enter Try.func37, Try.ntmps37
  go_wp2_with fail
  clear c1
  go_loopw [5, 6, 7, 8, 9, 15] (fun vt _ _ _ _ x wx => ∃ j : Nat, j ≤ D.C.length ∧ x = .int .i64 j ∧ vt = .int .i64 j ∧ IsV wx b g (.slice Ac D.C.length cc) { D with M := layA (fun _ => 512) 0 (D.C.take j) D.M } ∧ Only [g] w wx) (fun _ _ _ _ _ x _ => D.C.length - (intOf x).toNat)
  case atStart => exact ⟨0, Nat.zero_le _, rfl, rfl, HV.out, Only.refl _ _⟩
  case round =>
    obtain ⟨j, hj, rfl, rfl, hI, hO⟩ := hrel
    have HI := Lib.hid hI
    have HO := Lib.hid hO
    have c1 : wr.cell? ⟨b, 1, none⟩ = some (.slice Ac D.C.length cc) := hI.dev.cell 1
    have c0 := hI.dev.c0
    have hsm := hI.dev.small
    have hml := hI.dev.len
    by_cases hjn : j < D.C.length
    · obtain ⟨gc, cc2, hvc⟩ := hI.ca.form (by show 0 < D.C.length; omega)
      injection hvc with hv1 hv2 hv3
      subst hv1 hv3
      have hat := hI.ca.at_ j hjn
      have hpd := hI.ca.1.get j hjn
      obtain ⟨x, hxx⟩ : ∃ x, x = D.C.getD j default := ⟨_, rfl⟩
      have hn2 : wr.cell? ⟨gc, j * 513, none⟩ = some (.int .i64 ((x.num : Nat) : Int)) := by rw [hxx]; exact hat.1
      have hrg : wr.rangeAt gc (j * 513 + 1) (bv x.data) := by rw [hxx]; exact hat.2
      have hpd1 : x.num < D.n := by rw [hxx]; exact hpd.1
      have hpd2 : x.data.length = 512 := by rw [hxx]; exact hpd.2
      obtain ⟨M, hM⟩ : ∃ M, M = layA (fun _ => 512) 0 (D.C.take j) D.M := ⟨_, rfl⟩
      have HST := Lib.hid (show layA (fun _ => 512) 0 (D.C.take (j + 1)) D.M = splice M (x.num * 512) x.data by
        rw [takeP_snoc D.C j hjn, layA_snoc, ← hxx, ← hM]
        unfold layP
        rw [List.take_of_length_le (by omega)])
      have hml2 : M.length = D.n * 512 := by rw [hM]; exact hml
      rw [← hM] at HI
      have HMD := Lib.hid HI.out.dev.med
      have hjj : (0 : Int) ≤ (j : Int) ∧ (j : Int) < ((D.C.length : Nat) : Int) ∧ ((D.C.length : Nat) : Int) ≤ 100000000000 := by omega
      have hxn : (0 : Int) ≤ (x.num : Int) ∧ (x.num : Int) < (D.n : Int) := by omega
      have hgne : gc ≠ g := (HI.out.nb gc rfl).2
      have hbne : b ≠ g := HI.out.dev.ne
      have HXX := Lib.hid hxx
      clear hI hO hat hpd hxx hM hml
      go_wp2_with fail
      refine (dv_flush1 _ _).mono ?_
      rintro e w2 ⟨rfl, rfl⟩
      go_wp2_with fail
      have HSRC := Lib.hid (show ∀ k v, (bv x.data)[k]? = some v → w2.drew.cell? ((⟨gc, j * 513 + 1, none⟩ : Addr).add k) = some v from fun k v hv => by rw [Addr.add_mid]; exact hrg k v hv)
      have HMD2 := Lib.hid (show w2.drew.heap[g]? = some (.cells (bv M).toArray 78 (0, 0)) from HMD.out)
      clear hrg
      go_region_held3 (fun w' => w'.cell? ⟨b, 0, none⟩ = some (.slice (some ⟨g, 0, none⟩) D.n D.n) ∧ w'.cell? ⟨gc, j * 513, none⟩ = some (.int .i64 ((x.num : Nat) : Int)) ∧ Only [g] w2 w')
        (first | exact ⟨f0, f1, fO⟩ | exact ⟨c0, hn2, (Only.refl _ _).drew⟩)
        (first | (refine step_copy_only rfl (.tmp 39) (.tmp 44) 29 29 rfl 5 Try.underlying29 sz_u8 g (x.num * 512) 512 512 ⟨gc, j * 513 + 1, none⟩ 512 512 rfl rfl (bv M) 78 HMD2.out (bv x.data) ?q3 HSRC.out ?q5 (bv_one _) ?_
                  (case q3 => (rw [bv_length, hpd2]; first | done | rfl))
                  (case q5 => (rw [bv_length, bv_length, hml2, hpd2]; omega))
                  intro w3 hg3 ho3
                  rw [splice_bv] at hg3
                  have fO : Only [g] w2 w3 := ((Only.refl [g] w2).drew).trans ho3
                  have HP := Lib.hid (HI.out.setMed fO hg3 (by simp [splice]; omega))
                  have f0 := HP.out.1.dev.c0
                  have f1 := (HP.out.1.ca.at_ j hjn).1
                  rw [← HXX.out] at f1
                  clear ho3 hg3))
      rename_i hHeld
      clear hHeld
      go_wp2
      go_roundw
      case rel => exact ⟨j + 1, by omega, by go_num, by go_num, by rw [HST.out]; exact HP.out.1, HO.out.trans fO⟩
      case measure => simp [intOf]; omega
    · obtain rfl : D.C.length = j := by omega
      have HT := Lib.hid (show layA (fun _ => 512) 0 (D.C.take D.C.length) D.M = layA (fun _ => 512) 0 D.C D.M by rw [List.take_length])
      have f1 := frozen_of_row wr b 1 _ _ hI.dev.st
      rw [HT.out] at hI
      have HD := Lib.hid hI.noCache
      clear hI HI
      go_wp2
      go_ret
      exact ⟨by simp, HD.out.1, (Fr.of_med hbg HO.out).trans HD.out.2⟩
end Go.Proofs.Ytjbffahmjhbpjaa
/- The device's Flush. -/
set_option linter.unusedVariables false
set_option linter.unusedSimpArgs false
set_option maxRecDepth 100000
namespace Go.Proofs.Ytjbffahmjhbpjaa
open Go.RowKit
theorem actD_keeps (D : DS) : (actD D).2.C = D.C ∧ (actD D).2.M = D.M ∧ (actD D).2.n = D.n ∧ (actD D).2.rd = D.rd ∧ (actD D).2.wr = D.wr ∧ (actD D).2.fl = D.fl := by
  unfold actD; split
  · exact ⟨rfl, rfl, rfl, rfl, rfl, rfl⟩
  · split
    · exact ⟨rfl, rfl, rfl, rfl, rfl, rfl⟩
    · split <;> exact ⟨rfl, rfl, rfl, rfl, rfl, rfl⟩
def flD (D : DS) : Int × DS := if (actD D).1 = true then (0, { (actD D).2 with C := [], M := layA (fun _ => 512) 0 (actD D).2.C (actD D).2.M, fl := (actD D).2.fl + 1 }) else (6, (actD D).2)
theorem dv_Flush (w : World) (b g : Nat) (vc : Value) (D : DS) (h : IsV w b g vc D) (hl : D.left < 9223372036854775808) (hq : D.C.length ≤ 100000000000) (hfl : D.fl < 9223372036854775807) :
    Calls Try.prog 21 #[.pointer (some ⟨b, 0, none⟩)] w fun e w' => e = .returned (.int .i64 (flD D).1) ∧ ∃ vc', IsV w' b g vc' (flD D).2 ∧ Fr (dvS b g vc) (dvS b g vc') w w' := by
  have HA := Lib.hid (dv_act w b g vc D hl h)
  have hk := actD_keeps D
  clear h
  cases hact : (actD D).1 with
  | false =>
    have HW := Lib.hid (show flD D = (6, (actD D).2) by unfold flD; rw [if_neg (by simp [hact])])
    rw [hact] at HA
    rw [HW.out]
    clear hact hk
    go_enter Try.func21, Try.ntmps21
    go_wp2_with fail
    refine HA.out.mono ?_
    rintro e w2 ⟨rfl, hV, hF⟩
    have HV2 := Lib.hid hV
    have HF2 := Lib.hid hF
    clear hV hF
    go_wp2
    go_ret
    exact ⟨rfl, vc, HV2.out, HF2.out⟩
  | true =>
    have HW := Lib.hid (show flD D = (0, { (actD D).2 with C := [], M := layA (fun _ => 512) 0 (actD D).2.C (actD D).2.M, fl := (actD D).2.fl + 1 }) by unfold flD; rw [if_pos hact])
    rw [hact] at HA
    rw [HW.out]
    obtain ⟨D2, hD2⟩ : ∃ D2, D2 = (actD D).2 := ⟨_, rfl⟩
    rw [← hD2] at HA hk ⊢
    clear hact hD2
    go_enter Try.func21, Try.ntmps21
    go_wp2_with fail
    refine HA.out.mono ?_
    rintro e w2 ⟨rfl, hV, hF⟩
    have HF2 := Lib.hid hF
    have HS := Lib.hid (dv_settleF w2 b g vc D2 hV (by rw [hk.1]; exact hq))
    clear hV hF
    go_wp2_with fail
    refine HS.out.mono ?_
    rintro e w3 ⟨rfl, hV3, hF3⟩
    have c7 : w3.cell? ⟨b, 7, none⟩ = some (.int .i64 (D2.fl : Int)) := hV3.dev.cell 7
    have f7 := frozen_of_row w3 b 7 _ _ hV3.dev.st
    have hw7 : (0 : Int) ≤ (D2.fl : Int) ∧ (D2.fl : Int) < 9223372036854775807 := by have := hk.2.2.2.2.2; omega
    have HS7 := Lib.hid (hV3.store 7 (.int .i64 ((D2.fl : Int) + 1)) { D2 with C := [], M := layA (fun _ => 512) 0 D2.C D2.M, fl := D2.fl + 1 } rfl rfl rfl (by simp))
    have HF3 := Lib.hid hF3
    clear hV3 hF3 hk
    go_wp2
    go_ret
    exact ⟨rfl, _, HS7.out.1, HF2.out.trans (HF3.out.trans HS7.out.2)⟩
end Go.Proofs.Ytjbffahmjhbpjaa
/- The laws' own helpers over the device: full. -/
set_option linter.unusedVariables false
set_option linter.unusedSimpArgs false
set_option maxRecDepth 100000
namespace Go.Proofs.Ytjbffahmjhbpjaa
open Go.RowKit
theorem l6_full (c : UInt8) (w : World) : Calls Try.prog 15 #[.int .u8 (c.toNat : Int)] w fun e w' => ∃ u, e = .returned u ∧ NewB w u (List.replicate 512 c) w' := by
  have hmk := mk512
  go_enter Try.func15, Try.ntmps15
  go_wp2_with fail
  clear hmk
  have H0 := Lib.hid (show Own (w.alloc (.cells (zc 512) 5)) w.heap.size (.slice (some ⟨w.heap.size, 0, none⟩) 512 512) 512 (List.replicate 512 0) from Own.row (Nat.le_refl _) (by simp) (by omega) (by rw [← zc_bv]; exact heap_alloc_new w _))
  go_loopw [4] (fun x wx => ∃ k : Nat, k ≤ 512 ∧ x = .int .i64 k ∧ Own wx w.heap.size (.slice (some ⟨w.heap.size, 0, none⟩) 512 512) 512 (List.replicate k c ++ List.replicate (512 - k) 0) ∧ Below w.heap.size w wx) (fun x _ => 512 - (intOf x).toNat)
  case atStart => exact ⟨0, by omega, rfl, by simpa using H0.out, (Below.refl _ w).alloc (Nat.le_refl _) _⟩
  case round =>
    obtain ⟨k, hk, rfl, hO, hB⟩ := hrel
    have HO := Lib.hid hO
    have HB := Lib.hid hB
    by_cases hkn : k < 512
    · have hcell := hO.cell k hkn
      have hfree := hO.free k
      have HST := Lib.hid (show List.replicate (k + 1) c ++ List.replicate (512 - (k + 1)) 0 = (List.replicate k c ++ List.replicate (512 - k) 0).set k c by
        rw [List.set_append_right _ _ (by simp), List.length_replicate, Nat.sub_self, show 512 - k = (512 - (k + 1)) + 1 by omega, List.replicate_succ (n := 512 - (k + 1)), List.set_cons_zero, List.replicate_succ', List.append_assoc]
        rfl)
      generalize (List.replicate k c ++ List.replicate (512 - k) 0).getD k 0 = y at hcell
      clear hO hB
      go_wp2
      go_roundw
      case rel => exact ⟨k + 1, by omega, by go_num, by rw [HST.out]; exact HO.out.store k c, HB.out.setCell (by simp) _⟩
      case measure => simp [intOf]; omega
    · obtain rfl : k = 512 := by omega
      clear hO hB
      go_wp2
      go_ret
      exact ⟨_, rfl, w.heap.size, rfl, by simpa using HO.out, HB.out⟩
end Go.Proofs.Ytjbffahmjhbpjaa
/- The laws' own helpers over the device: same. -/
set_option linter.unusedVariables false
set_option linter.unusedSimpArgs false
set_option maxRecDepth 100000
namespace Go.Proofs.Ytjbffahmjhbpjaa
open Go.RowKit
theorem bstr_list (l : List UInt8) : (bstr l).toList = l := by rw [ByteArray.toList_eq]; rfl
theorem l6_same (A A' : Option Addr) (n c n' c' : Nat) (L L' : List UInt8) (w : World) (hr : Rd w A n c L) (hr' : Rd w A' n' c' L') :
    Calls Try.prog 17 #[.slice A n c, .slice A' n' c'] w fun e w' => e = .returned (.bool (decide (L = L'))) ∧ w' = w := by
  have h1 := hr.str
  have h2 := hr'.str
  obtain ⟨x, hx⟩ : ∃ x, x = bstr L := ⟨_, rfl⟩
  obtain ⟨y, hy⟩ : ∃ y, y = bstr L' := ⟨_, rfl⟩
  rw [← hx] at h1
  rw [← hy] at h2
  by_cases h : L = L'
  · have e1 : (x.toList == y.toList) = true := by rw [hx, hy, bstr_list, bstr_list]; exact beq_iff_eq.2 h
    rw [decide_eq_true h]
    clear hr hr' hx hy h
    go_enter Try.func17, Try.ntmps17
    go_wp2
    go_ret
    exact ⟨by first | (simp; done) | (simp; exact beq_iff_eq.1 e1), rfl⟩
  · have e1 : (x.toList == y.toList) = false := by rw [hx, hy, bstr_list, bstr_list]; exact beq_eq_false_iff_ne.2 h
    rw [decide_eq_false h]
    clear hr hr' hx hy h
    go_enter Try.func17, Try.ntmps17
    go_wp2
    go_ret
    exact ⟨by first | (simp; done) | (simp; exact beq_eq_false_iff_ne.1 e1), rfl⟩
end Go.Proofs.Ytjbffahmjhbpjaa
