/- Words on memory: only the blocks of S may have changed; ints as values; a slice of ints that is read. -/
import Derived.Test.YtggoaelbglhehaaMgA3
import Derived.Test.YtggoaelbglhehaaProg
import Derived.Maps.AppendAt
import Derived.Laws.CopyOwn
import Derived.Deep.RegionLaw
import Derived.Deep.QuietTactic
import Derived.BigQuiet
import Derived.IntWalk
import Derived.Deep.RegionHeld3
import Derived.Great.BuildSlice
import Derived.Deep.MidRow
import Derived.OrdersHeld
import Derived.StillTail
/- Words on memory: only the blocks of S may have changed; ints as values; a slice of ints that is read. -/
set_option linter.unusedVariables false
set_option linter.unusedSimpArgs false
namespace Go.Proofs.Ytggoaelbglhehaa
open Go.RowKit
/-- Of the blocks that were, only those of S changed. -/
structure Only (S : List Nat) (w w' : World) : Prop where
  os : w'.os = w.os
  tape : w'.tape = w.tape
  output : w'.output = w.output
  size : w.heap.size ≤ w'.heap.size
  blk : ∀ k, k < w.heap.size → k ∉ S → w'.heap[k]? = w.heap[k]?
theorem Only.refl (S : List Nat) (w : World) : Only S w w := ⟨rfl, rfl, rfl, Nat.le_refl _, fun _ _ _ => rfl⟩
theorem Only.trans {S : List Nat} {a b c : World} (h : Only S a b) (k : Only S b c) : Only S a c :=
  ⟨k.os.trans h.os, k.tape.trans h.tape, k.output.trans h.output, Nat.le_trans h.size k.size, fun i hi hs => (k.blk i (Nat.lt_of_lt_of_le hi h.size) hs).trans (h.blk i hi hs)⟩
theorem Only.of_below {w w' : World} (S : List Nat) (h : Below w.heap.size w w') : Only S w w' := ⟨h.os, h.tape, h.output, h.size, fun k hk _ => h.block k hk⟩
theorem Only.below {B : Nat} {w w' : World} {S : List Nat} (h : Only S w w') (hB : B ≤ w.heap.size) (hS : ∀ k ∈ S, B ≤ k) : Below B w w' := ⟨h.os, h.tape, h.output, h.size, fun k hk => h.blk k (Nat.lt_of_lt_of_le hk hB) (fun hm => by have := hS k hm; omega)⟩
theorem Only.mono {S S' : List Nat} {w w' : World} (h : Only S w w') (hs : ∀ k ∈ S, k ∈ S') : Only S' w w' := ⟨h.os, h.tape, h.output, h.size, fun k hk hn => h.blk k hk (fun hm => hn (hs k hm))⟩
theorem Only.setCell {S : List Nat} {a w : World} (h : Only S a w) {p : Addr} (hp : p.block ∈ S) (u : Value) : Only S a (w.setCell p u) :=
  h.trans ⟨rfl, rfl, rfl, by simp, fun k _ hk => heap_setCell_other w p k u (fun e => hk (e ▸ hp))⟩
theorem Only.setNew {S : List Nat} {a w : World} (h : Only S a w) {p : Addr} (hp : a.heap.size ≤ p.block) (u : Value) : Only S a (w.setCell p u) :=
  ⟨h.os, h.tape, h.output, by have := h.size; simpa using this, fun k hk hs => (heap_setCell_other w p k u (by omega)).trans (h.blk k hk hs)⟩
theorem Only.drew {S : List Nat} {a w : World} (h : Only S a w) : Only S a w.drew := ⟨h.os, h.tape, h.output, h.size, h.blk⟩
theorem Only.drewN {S : List Nat} {a w : World} (h : Only S a w) (n : Nat) : Only S a (w.drewN n) := ⟨h.os, h.tape, h.output, h.size, h.blk⟩
theorem Only.alloc {S : List Nat} {a w : World} (h : Only S a w) (o : Obj) : Only S a (w.alloc o) :=
  h.trans ⟨rfl, rfl, rfl, by simp, fun k hk _ => Below.heap_alloc w o k hk⟩
/-- ints as values -/
def iv_ (xs : List Int) : List Value := xs.map fun x => .int .i64 x
theorem iv_length (xs : List Int) : (iv_ xs).length = xs.length := by simp [iv_]
theorem iv_append (xs ys : List Int) : iv_ (xs ++ ys) = iv_ xs ++ iv_ ys := by simp [iv_]
theorem iv_get (xs : List Int) (j : Nat) (h : j < xs.length) : (iv_ xs)[j]? = some (.int .i64 (xs.getD j 0)) := by
  simp [iv_, List.getElem?_eq_getElem h, List.getD_eq_getElem?_getD]
theorem iv_one (xs : List Int) : ∀ u ∈ iv_ xs, u.oneCell' = true := by
  intro u hu; simp only [iv_, List.mem_map] at hu; obtain ⟨c, _, rfl⟩ := hu; rfl
/-- The cells of a slice of ints hold the list l; none of its cells lies in the blocks of D. -/
structure RdI (D : List Nat) (w : World) (A : Option Addr) (n c : Nat) (l : List Int) : Prop where
  len : l.length = n
  cap : n ≤ c
  max : n ≤ 140737488355328
  at_ : 0 < n → ∃ b o, A = some ⟨b, o, none⟩ ∧ b ∉ D ∧ ∀ j, j < n → w.cell? ⟨b, o + j, none⟩ = some (.int .i64 (l.getD j 0))
theorem RdI.nil (D : List Nat) (w : World) : RdI D w none 0 0 [] := ⟨rfl, Nat.le_refl _, by omega, fun hp => absurd hp (by omega)⟩
theorem RdI.only {D S : List Nat} {w w' : World} {A : Option Addr} {n c : Nat} {l : List Int} (h : RdI D w A n c l) (hw : Only S w w') (hs : ∀ k ∈ S, k ∈ D) : RdI D w' A n c l :=
  ⟨h.len, h.cap, h.max, fun hn => by
    obtain ⟨b, o, e, hb, hc⟩ := h.at_ hn
    refine ⟨b, o, e, hb, fun j hj => ?_⟩
    have hlt := World.block_lt_of_cell? w _ (hc j hj)
    have := hw.blk b hlt (fun hm => hb (hs b hm))
    exact (World.cell?_of_block (w := w) (a := ⟨b, o + j, none⟩) this).trans (hc j hj)⟩
theorem RdI.ext {D : List Nat} {w w' : World} {A : Option Addr} {n c : Nat} {l : List Int} (h : RdI D w A n c l) (hb : Below w.heap.size w w') : RdI D w' A n c l := h.only (Only.of_below D hb) (fun _ h => h)
theorem RdI.sub {D D' : List Nat} {w : World} {A : Option Addr} {n c : Nat} {l : List Int} (h : RdI D w A n c l) (hs : ∀ k ∈ D', k ∈ D) : RdI D' w A n c l :=
  ⟨h.len, h.cap, h.max, fun hn => by
    obtain ⟨b, o, e, hb, hc⟩ := h.at_ hn
    exact ⟨b, o, e, fun hm => hb (hs b hm), hc⟩⟩
end Go.Proofs.Ytggoaelbglhehaa
/- The device: its memory, and the walks of New, Blocks and Of. -/
set_option linter.unusedVariables false
set_option linter.unusedSimpArgs false
namespace Go.Proofs.Ytggoaelbglhehaa
open Go.RowKit
theorem info_blk : (Try.prog.info? 89).map (fun i => (i.zero, i.size, i.bytes)) = some (some (.agg (Array.replicate 512 (.int .u8 0))), 512, 512) := by kernel_rfl
theorem sz_u8 : (Try.prog.info? 5).map (·.size) = some 1 := by kernel_rfl
theorem Rd.cellsAt {w : World} {bb oo n c : Nat} {L : List UInt8} (h : Rd w (some ⟨bb, oo, none⟩) n c L) (i m : Nat) (hi : i + m ≤ n) : ∀ j v, (bv ((L.drop i).take m))[j]? = some v → w.cell? ((⟨bb, oo + i, none⟩ : Addr).add j) = some v := by
  intro j v hv
  have hl := h.len
  have hj : j < m := by
    rcases Nat.lt_or_ge j m with h | h
    · exact h
    · rw [List.getElem?_eq_none (by rw [bv_length]; simp; omega)] at hv; cases hv
  obtain ⟨b', o', he, hc⟩ := h.at_ (by omega)
  injection he with he
  injection he with h1 h2
  subst h1 h2
  rw [bv_get _ _ (by simp; omega)] at hv
  rw [Addr.add_mid, Nat.add_assoc, hc (i + j) (by omega), ← hv]
  simp [List.getD_eq_getElem?_getD, hj]
theorem zc_bv (m : Nat) : zc m = (bv (List.replicate m 0)).toArray := by
  apply Array.ext'
  simp only [zc, bv, madeCells]
  apply List.ext_getElem
  · simp
  · intro i h1 h2
    simp [Nat.mod_one]
theorem Rd.zc (w : World) (m : Nat) (hm : m ≤ 140737488355328) : Rd (w.alloc (.cells (zc m) 5)) (some ⟨w.heap.size, 0, none⟩) m m (List.replicate m 0) := by
  rw [zc_bv]
  exact Rd.lit w _ m (by simp) (by omega)
theorem bv_zero (m : Nat) : bv (List.replicate m 0) = List.replicate m (.int .u8 0) := by simp [bv]
theorem madeCells_rep (u : Value) (k m : Nat) (hk : 0 < k) : madeCells (Array.replicate k u) m = (List.replicate m u).toArray := by
  apply Array.ext'
  simp only [madeCells]
  apply List.ext_getElem
  · simp
  · intro i h1 h2
    have : i % k < k := Nat.mod_lt _ hk
    simp [this]
theorem mk_blk (m : Nat) (hm : m ≤ 4096) (W : World) :
    (Instr.makeSlice 83 (.int .i64 (m : Int)) (.int .i64 (m : Int))).run Try.prog W = .ok (.slice (some ⟨W.heap.size, 0, none⟩) m m) (W.alloc (.cells (bv (List.replicate (m * 512) 0)).toArray 89)) := by
  obtain ⟨i0, hi, hzz⟩ := Option.map_eq_some_iff.1 info_blk
  simp only [Prod.mk.injEq] at hzz
  obtain ⟨hz0, hz1, hz2⟩ := hzz
  have := run_make W (P := Try.prog) 83 89 i0 _ Try.underlying83 hi hz0 .i64 .i64 (m : Int) (m : Int) (by omega) (by omega) (by rw [hz2]; omega) (by omega)
  rw [this]
  have hc : (Value.agg (Array.replicate 512 (.int .u8 0))).cells = Array.replicate 512 (.int .u8 0) := by rfl
  simp only [hc, madeCells_rep _ _ _ (show 0 < 512 by omega), bv_zero, Int.toNat_natCast, hz1]
/-- a device: its struct in block b, its medium in block g -/
structure IsDev (w : World) (b g n : Nat) (M : List UInt8) (vc : Value) (left : Int) (armed down : Bool) (rd wr fl : Int) : Prop where
  st : w.heap[b]? = some (.cells #[.slice (some ⟨g, 0, none⟩) n n, vc, .int .i64 left, .bool armed, .bool down, .int .i64 rd, .int .i64 wr, .int .i64 fl] 86 (0, 0))
  med : w.heap[g]? = some (.cells (bv M).toArray 89 (0, 0))
  len : M.length = n * 512
  ne : b ≠ g
  small : 64 ≤ n ∧ n ≤ 4096
section
variable {w : World} {b g n : Nat} {M : List UInt8} {vc : Value} {left rd wr fl : Int} {armed down : Bool}
theorem IsDev.cell (h : IsDev w b g n M vc left armed down rd wr fl) (j : Nat) : w.cell? ⟨b, j, none⟩ = #[.slice (some ⟨g, 0, none⟩) n n, vc, .int .i64 left, .bool armed, .bool down, .int .i64 rd, .int .i64 wr, .int .i64 fl][j]? := by
  rw [cell_of_row _ _ _ _ _ _ h.st]
theorem IsDev.c0 (h : IsDev w b g n M vc left armed down rd wr fl) : w.cell? ⟨b, 0, none⟩ = some (.slice (some ⟨g, 0, none⟩) n n) := h.cell 0
theorem IsDev.only {w' : World} {S : List Nat} (h : IsDev w b g n M vc left armed down rd wr fl) (hw : Only S w w') (hb : b ∉ S) (hg : g ∉ S) : IsDev w' b g n M vc left armed down rd wr fl :=
  ⟨(hw.blk b (lt_of_block h.st) hb).trans h.st, (hw.blk g (lt_of_block h.med) hg).trans h.med, h.len, h.ne, h.small⟩
theorem IsDev.ext {w' : World} (h : IsDev w b g n M vc left armed down rd wr fl) (hw : Below w.heap.size w w') : IsDev w' b g n M vc left armed down rd wr fl := h.only (Only.of_below [] hw) (by simp) (by simp)
end
/-- copy into a row, as one step of a region that draws: only that row changes. -/
theorem step_copy_only {P : Program} {ops : Array Oper} {o : Oper} {a : Act} {w : World} {K : Act → World → Prop} {Q : Exit → Act → World → Prop} {E : Prop} (hgd : o.guard = none) (d s : Operand) (dT sT : TypeId)
    (ho : o.op = .call { callee := .builtin .copy, args := #[d, s], argTypes := #[dT, sT] }) (elem : TypeId) (hu : P.underlying dT = some (.slice elem)) (hsz : (P.info? elem).map (·.size) = some 1)
    (g off dLen dCap : Nat) (ad : Addr) (sLen sCap : Nat) (hd : a.eval d = .slice (some ⟨g, off, none⟩) dLen dCap) (hs : a.eval s = .slice (some ad) sLen sCap)
    (cur : List Value) (t : TypeId) (hg : w.heap[g]? = some (.cells cur.toArray t (0, 0))) (cs : List Value) (hn : cs.length = Nat.min sLen dLen)
    (hsrc : ∀ j v, cs[j]? = some v → w.cell? (ad.add j) = some v) (hfit : off + cs.length ≤ cur.length) (h1 : ∀ v ∈ cs, v.oneCell' = true)
    (h : ∀ w', w'.heap[g]? = some (.cells (splice cur off cs).toArray t (0, 0)) → Only [g] w w' → K (a.put o.dst (goInt cs.length)) w') :
    if Region.wanted o (yielded ops a.tmps) = true then Oper.wp P o a w K Q else E := by
  have hw : Region.wanted o (yielded ops a.tmps) = true := by simp [Region.wanted, hgd]
  rw [if_pos hw]
  have hrun := run_copy_row (P := P) w dT sT o.type elem g off dLen dCap ad sLen sCap cur.toArray t cs hu hsz hg hn hsrc (by simpa using hfit) h1
  unfold Oper.wp
  simp [execOp, ho, resolve, invoke, builtin, hd, hs, hrun, Result.andThen]
  refine h _ (by simpa [splice] using setRow_heap w g _ _ t _ hg) ⟨rfl, rfl, rfl, by simp [World.setRow], fun k hk hs => setRow_other w g k _ (fun e => hs (by simp [e]))⟩
theorem splice_bv (M X : List UInt8) (off : Nat) : splice (bv M) off (bv X) = bv (splice M off X) := by simp [splice, bv]
theorem IsDev.medium {w w' : World} {b g n : Nat} {M M' : List UInt8} {vc : Value} {left rd wr fl : Int} {armed down : Bool} (h : IsDev w b g n M vc left armed down rd wr fl) (ho : Only [g] w w') (hm : w'.heap[g]? = some (.cells (bv M').toArray 89 (0, 0))) (hl : M'.length = M.length) :
    IsDev w' b g n M' vc left armed down rd wr fl :=
  ⟨(ho.blk b (lt_of_block h.st) (by simpa using h.ne)).trans h.st, hm, hl.trans h.len, h.ne, h.small⟩
set_option maxRecDepth 100000 in
theorem dv_New_ok (n : Nat) (h1 : 64 ≤ n) (h2 : n ≤ 4096) (w : World) :
    Calls Try.prog 18 #[.int .i64 n] w fun e w' => e = .returned (.tuple #[.pointer (some ⟨w.heap.size + 1, 0, none⟩), .int .i64 0]) ∧
      IsDev w' (w.heap.size + 1) w.heap.size n (List.replicate (n * 512) 0) (.slice none 0 0) 0 false false 0 0 0 ∧ Below w.heap.size w w' := by
  have hm := mk_blk n h2 w
  have d1 : (64 : Int) ≤ (n : Int) := by omega
  have d2 : (n : Int) ≤ 4096 := by omega
  go_enter Try.func18, Try.ntmps18
  go_wp2
  go_ret2
  refine ⟨by simp, ⟨?_, ?_, by simp, by simp, h1, h2⟩, ?_⟩
  · simpa using heap_alloc2_new _ _ _
  · exact heap_alloc2_old _ _ _
  · exact ((Below.refl _ w).alloc (Nat.le_refl _) _).alloc (by simp) _
theorem dv_New_bad (k : Int) (h : k < 64 ∨ 4096 < k) (w : World) :
    Calls Try.prog 18 #[.int .i64 k] w fun e w' => e = .returned (.tuple #[.pointer none, .int .i64 1]) ∧ w' = w := by
  by_cases h1 : k < 64
  · go_enter Try.func18, Try.ntmps18
    go_wp2
    go_ret2
    simp
  · have h2 : 4096 < k := by omega
    go_enter Try.func18, Try.ntmps18
    go_wp2
    go_ret2
    simp
theorem dv_Blocks (b g n : Nat) (M : List UInt8) (vc : Value) (left rd wr fl : Int) (armed down : Bool) (w : World) (h : IsDev w b g n M vc left armed down rd wr fl) :
    Calls Try.prog 50 #[.pointer (some ⟨b, 0, none⟩)] w fun e w' => e = .returned (.int .i64 n) ∧ w' = w := by
  have c0 := h.c0
  clear h
  go_enter Try.func50, Try.ntmps50
  go_wp2
  go_ret
  simp
end Go.Proofs.Ytggoaelbglhehaa
/- The walk of the device's Of. -/
set_option linter.unusedVariables false
set_option linter.unusedSimpArgs false
namespace Go.Proofs.Ytggoaelbglhehaa
open Go.RowKit
def OfOk (n : Nat) : Prop := n % 512 = 0 ∧ 64 ≤ n / 512 ∧ n / 512 ≤ 4096
/-- the medium when k blocks are carried -/
def ofM (L : List UInt8) (q k : Nat) : List UInt8 := L.take (k * 512) ++ List.replicate ((q - k) * 512) 0
theorem splice_at {α : Type} (X Z Y : List α) (k : Nat) (hk : X.length = k) : splice (X ++ Z) k Y = X ++ (Y ++ Z.drop Y.length) := by
  subst hk
  simp [splice, List.drop_append]
theorem ofM_step (L : List UInt8) (q k : Nat) (hk : k < q) (hl : L.length = q * 512) : splice (ofM L q k) (k * 512) ((L.drop (k * 512)).take 512) = ofM L q (k + 1) := by
  have h1 : (L.take (k * 512)).length = k * 512 := by simp; omega
  have h2 : ((L.drop (k * 512)).take 512).length = 512 := by simp; omega
  unfold ofM
  rw [splice_at _ _ _ _ h1, h2, List.drop_replicate, ← List.append_assoc, show (k + 1) * 512 = k * 512 + 512 by omega, List.take_add, show (q - k) * 512 - 512 = (q - (k + 1)) * 512 by omega]
theorem ofM_length (L : List UInt8) (q k : Nat) (hk : k ≤ q) (hl : L.length = q * 512) : (ofM L q k).length = q * 512 := by
  simp [ofM]; omega
theorem dv_Of_bad (A : Option Addr) (n c : Nat) (L : List UInt8) (w : World) (hr : Rd w A n c L) (hb : ¬ OfOk n) :
    Calls Try.prog 37 #[.slice A n c] w fun e w' => e = .returned (.tuple #[.pointer none, .int .i64 61]) ∧ Below w.heap.size w w' := by
  have hmx := hr.max
  have HB := Lib.hid hb
  clear hb hr
  obtain ⟨q, hq⟩ : ∃ q, q = n / 512 := ⟨_, rfl⟩
  have HQ := Lib.hid hq
  have e2 : (n : Int) / 512 = (q : Int) := by omega
  have hq2 : q ≤ 274877911040 := by omega
  clear hq
  by_cases hk : (q : Int) < 64 ∨ (4096 : Int) < q
  · go_enter Try.func37, Try.ntmps37
    go_wp2_with fail
    refine (dv_New_bad q hk w).mono ?_
    rintro e w1 ⟨rfl, rfl⟩
    go_wp2_with fail
    go_ret2
    exact ⟨rfl, Below.refl _ _⟩
  · have hne : ((n : Int) != (q : Int) * 512) = true := by
      have : n ≠ q * 512 := by
        intro h
        exact HB.out ⟨by omega, by have := HQ.out; omega, by have := HQ.out; omega⟩
      simp only [bne_iff_ne, ne_eq]
      omega
    go_enter Try.func37, Try.ntmps37
    go_wp2_with fail
    refine (dv_New_ok q (by omega) (by omega) w).mono ?_
    rintro e w1 ⟨rfl, -, hB⟩
    have HB1 := Lib.hid hB
    clear hB
    go_wp2_with fail
    go_ret2
    exact ⟨rfl, HB1.out⟩
set_option maxRecDepth 100000 in
theorem dv_Of_ok (A : Option Addr) (n c : Nat) (L : List UInt8) (w : World) (hr : Rd w A n c L) (hb : OfOk n) :
    Calls Try.prog 37 #[.slice A n c] w fun e w' => e = .returned (.tuple #[.pointer (some ⟨w.heap.size + 1, 0, none⟩), .int .i64 0]) ∧
      IsDev w' (w.heap.size + 1) w.heap.size (n / 512) L (.slice none 0 0) 0 false false 0 0 0 ∧ Below w.heap.size w w' := by
  obtain ⟨q, hq⟩ : ∃ q, q = n / 512 := ⟨_, rfl⟩
  rw [← hq]
  have hb1 := hb.1
  have hb2 := hb.2
  rw [← hq] at hb2
  obtain rfl : n = q * 512 := by omega
  clear hb hb1 hq
  obtain ⟨bb, oo, rfl, hc⟩ := hr.at_ (by omega)
  have hl := hr.len
  have hcap := hr.cap
  have HR := Lib.hid hr
  have HC := Lib.hid hc
  have HL := Lib.hid hl
  clear hc hr hl
  have e2 : ((q : Int) * 512) / 512 = (q : Int) := by omega
  go_enter Try.func37, Try.ntmps37
  go_wp2_with fail
  refine (dv_New_ok q (by omega) (by omega) w).mono ?_
  rintro e w1 ⟨rfl, hD, hB⟩
  obtain ⟨b, hbb⟩ : ∃ b, b = w.heap.size + 1 := ⟨_, rfl⟩
  obtain ⟨g, hgg⟩ : ∃ g, g = w.heap.size := ⟨_, rfl⟩
  rw [← hbb, ← hgg] at hD
  rw [← hbb]
  have c0 := hD.c0
  have HD := Lib.hid hD
  have HB1 := Lib.hid hB
  have HBB := Lib.hid hbb
  have HGG := Lib.hid hgg
  clear hD hB hbb hgg
  go_wp2_with fail
  go_loopw [7, 30] (fun _ x wr => ∃ k : Nat, k ≤ q ∧ x = .int .i64 k ∧ IsDev wr b g q (ofM L q k) (.slice none 0 0) 0 false false 0 0 0 ∧ Only [g] w1 wr) (fun _ x _ => q - (intOf x).toNat)
  case atStart => exact ⟨0, by omega, rfl, by simpa [ofM] using HD.out, Only.refl _ _⟩
  case round =>
    obtain ⟨k, hk, rfl, hD, hO⟩ := hrel
    have d0 := hD.c0
    have HD2 := Lib.hid hD
    have HO := Lib.hid hO
    clear hD hO
    by_cases hkq : k < q
    · go_wp2_with fail
      have hw1 : IntKind.i64.wrap ((k : Int) * 512) = (k : Int) * 512 := IntWalk.i64_in _ (by omega)
      have hw2 : (0 : Int) ≤ (k : Int) * 512 ∧ (k : Int) * 512 ≤ (q : Int) * 512 ∧ (0 : Int) ≤ k ∧ (k : Int) < q := by omega
      have hw3 : ((k : Int) * 512).toNat = k * 512 := by omega
      have hck : ¬ c = k * 512 := by omega
      have HS := Lib.hid (Rd.cellsAt (w := wr.drew) ((HR.out.ext (HB1.out.trans (HO.out.below HB1.out.size (by simp [HGG.out])))).drew 1) (k * 512) 512 (by omega))
      have HM := Lib.hid (show wr.drew.heap[g]? = some (.cells (bv (ofM L q k)).toArray 89 (0, 0)) from HD2.out.med)
      go_region_held3 (fun w' => w'.cell? ⟨b, 0, none⟩ = some (.slice (some ⟨g, 0, none⟩) q q) ∧ Only [g] wr w')
        (first | exact ⟨f0, fO⟩ | exact ⟨d0, (Only.refl _ _).drew⟩)
        (first | (refine step_copy_only rfl (.tmp 39) (.tmp 43) 26 26 rfl 5 Try.underlying26 sz_u8 g (k * 512) 512 512 ⟨bb, oo + k * 512, none⟩ (q * 512 - k * 512) (c - k * 512) ?q1 ?q2 (bv (ofM L q k)) 89 HM.out (bv ((L.drop (k * 512)).take 512)) ?q3 HS.out ?q5 (bv_one _) ?_
                  (case q1 => rfl)
                  (case q2 => (first | rfl | (simp only [if_neg hck]; rfl)))
                  (case q3 => (rw [bv_length, List.length_take, List.length_drop, HL.out, Nat.min_comm]))
                  (case q5 => (rw [bv_length, bv_length, ofM_length L q k hk HL.out, List.length_take, List.length_drop, HL.out]; omega))
                  intro w2 hg2 ho2
                  rw [splice_bv, ofM_step L q k hkq HL.out] at hg2
                  have fO : Only [g] wr w2 := ((Only.refl [g] wr).drew).trans ho2
                  have f0 := (HD2.out.medium fO hg2 (by rw [ofM_length L q (k + 1) hkq HL.out, ofM_length L q k hk HL.out])).c0
                  have HG2 := Lib.hid hg2
                  clear ho2 hg2))
      clear hw1 hw3
      rename_i hHeld
      clear hHeld
      go_wp2
      go_roundw
      case rel => exact ⟨k + 1, by omega, by go_num, HD2.out.medium fO HG2.out (by rw [ofM_length L q (k + 1) hkq HL.out, ofM_length L q k hk HL.out]), HO.out.trans fO⟩
      case measure => simp [intOf]; omega
    · obtain rfl : q = k := by omega
      go_wp2_with fail
      go_ret2
      rw [show ofM L q q = L by unfold ofM; rw [Nat.sub_self, Nat.zero_mul, List.replicate_zero, List.append_nil, List.take_of_length_le (by rw [HL.out]; omega)]] at HD2
      rw [HBB.out, HGG.out] at HD2
      refine ⟨?_, HD2.out, HB1.out.trans (HO.out.below HB1.out.size (by simp [HGG.out]))⟩
      rw [← HBB.out]
      rfl
end Go.Proofs.Ytggoaelbglhehaa
/- The device's cache: pending writes, a row of them of the program's own. -/
set_option linter.unusedVariables false
set_option linter.unusedSimpArgs false
set_option maxRecDepth 100000
namespace Go.Proofs.Ytggoaelbglhehaa
open Go.RowKit
structure Pd where
  num : Nat
  data : List UInt8
instance : Inhabited Pd := ⟨⟨0, List.replicate 512 0⟩⟩
def pc (x : Pd) : List Value := .int .i64 x.num :: bv x.data
def pcs (l : List Pd) : List Value := l.flatMap pc
def PdOk (n : Nat) (l : List Pd) : Prop := ∀ x ∈ l, x.num < n ∧ x.data.length = 512
theorem pc_length {x : Pd} (h : x.data.length = 512) : (pc x).length = 513 := by simp [pc, bv_length, h]
theorem PdOk.nil (n : Nat) : PdOk n [] := fun x hx => by cases hx
theorem PdOk.snoc {n : Nat} {l : List Pd} {y : Pd} (h : PdOk n l) (h1 : y.num < n) (h2 : y.data.length = 512) : PdOk n (l ++ [y]) := by
  intro x hx
  rcases List.mem_append.1 hx with hx | hx
  · exact h x hx
  · simp at hx; subst hx; exact ⟨h1, h2⟩
theorem PdOk.get {n : Nat} {l : List Pd} (h : PdOk n l) (j : Nat) (hj : j < l.length) : (l.getD j default).num < n ∧ (l.getD j default).data.length = 512 := by
  rw [List.getD_eq_getElem?_getD, List.getElem?_eq_getElem hj]
  exact h _ (List.getElem_mem _)
theorem pcs_length {n : Nat} : ∀ {l : List Pd}, PdOk n l → (pcs l).length = l.length * 513
  | [], _ => rfl
  | a :: r, h => by
    have ih := pcs_length (l := r) (fun x hx => h x (by simp [hx]))
    have ha := pc_length (h a (by simp)).2
    rw [pcs, List.flatMap_cons, List.length_append, ← pcs, ih, ha, List.length_cons]; omega
theorem pcs_append (l m : List Pd) : pcs (l ++ m) = pcs l ++ pcs m := by simp [pcs]
theorem pcs_get {n : Nat} : ∀ (l : List Pd) (j i : Nat), PdOk n l → j < l.length → i < 513 → (pcs l)[j * 513 + i]? = (pc (l.getD j default))[i]?
  | [], j, i, _, h, _ => by simp at h
  | a :: r, 0, i, ho, h, hi => by
    have ha := pc_length (ho a (by simp)).2
    rw [pcs, List.flatMap_cons, List.getElem?_append_left (by rw [ha]; omega)]
    simp
  | a :: r, j + 1, i, ho, h, hi => by
    have ha := pc_length (ho a (by simp)).2
    have ih := pcs_get r j i (fun x hx => ho x (by simp [hx])) (by simpa using h) hi
    rw [pcs, List.flatMap_cons, List.getElem?_append_right (by rw [ha]; omega)]
    rw [show (j + 1) * 513 + i - (pc a).length = j * 513 + i by rw [ha]; omega]
    rw [← pcs, ih]
    simp
theorem pcs_one (l : List Pd) : ∀ u ∈ pcs l, u.oneCell' = true := by
  intro u hu
  simp only [pcs, List.mem_flatMap] at hu
  obtain ⟨x, _, hx⟩ := hu
  simp only [pc, List.mem_cons] at hx
  rcases hx with rfl | hx
  · rfl
  · exact bv_one _ u hx
theorem info_pd : (Try.prog.info? 105).map (fun i => (i.zero, i.size, i.bytes)) = some (some (.agg (#[.int .i64 0] ++ Array.replicate 512 (.int .u8 0))), 513, 520) := by kernel_rfl
def OwnP (w : World) (base n : Nat) (v : Value) (q : Nat) (C : List Pd) : Prop := PdOk n C ∧ w.ownsRow base 105 513 v q (pcs C)
theorem built_pd (parts : List (Nat × Value)) : Try.prog.built 105 parts = Instr.fill ((#[(0, 1), (1, 512)] : Array (Nat × Nat))[·]?) (#[.int .i64 0] ++ Array.replicate 512 (.int .u8 0)) parts := by kernel_rfl
theorem fill_pd (m : Nat) (D : List UInt8) (h : D.length = 512) : Instr.fill ((#[(0, 1), (1, 512)] : Array (Nat × Nat))[·]?) (#[.int .i64 0] ++ Array.replicate 512 (.int .u8 0)) [(0, .int .i64 (m : Int)), (1, .agg (bv D).toArray)] = some (pc ⟨m, D⟩).toArray := by
  have hb := bv_length D
  obtain ⟨Z, hZ⟩ : ∃ Z : Array Value, Z = #[.int .i64 0] ++ Array.replicate 512 (.int .u8 0) := ⟨_, rfl⟩
  have hZs : Z.size = 513 := by rw [hZ]; simp
  rw [← hZ, Instr.fill]
  simp only [show ((#[(0, 1), (1, 512)] : Array (Nat × Nat))[0]?) = some (0, 1) from rfl]
  rw [if_neg (by simp [Value.cells, hZs]), Instr.fill]
  simp only [show ((#[(0, 1), (1, 512)] : Array (Nat × Nat))[1]?) = some (1, 512) from rfl]
  have e0 : ((Value.int .i64 (m : Int)).cells.zipIdx.foldl (fun cs (x : Value × Nat) => cs.setIfInBounds (0 + x.2) x.1) Z) = Z.setIfInBounds 0 (.int .i64 (m : Int)) := rfl
  have e1 : (Value.agg (bv D).toArray).cells = (bv D).toArray := rfl
  have hs2 : (Z.setIfInBounds 0 (.int .i64 (m : Int))).size = 513 := by rw [Array.size_setIfInBounds, hZs]
  obtain ⟨g1, g2⟩ := Go.Great.foldl_set 1 (bv D) 0 (Z.setIfInBounds 0 (.int .i64 (m : Int)))
  rw [if_neg (by rw [e1, e0, hs2]; simp [hb, h]), Instr.fill, e0, e1, ← Array.foldl_toList, Array.toList_zipIdx]
  congr 1
  apply Array.ext_getElem?
  intro k
  have g3 := g2 k
  refine Eq.trans g3 ?_
  rw [hb, h, hs2]
  rcases Nat.eq_zero_or_pos k with rfl | hk
  · rw [if_neg (by omega), Array.getElem?_setIfInBounds_self_of_lt (by omega)]
    rfl
  · by_cases h5 : k < 513
    · rw [if_pos (by omega)]
      obtain ⟨j, rfl⟩ : ∃ j, k = j + 1 := ⟨k - 1, by omega⟩
      simp [pc]
    · rw [if_neg (by omega), Array.getElem?_eq_none (by rw [hs2]; omega), Array.getElem?_eq_none (by rw [List.size_toArray, pc_length h]; omega)]
theorem build_pd (m : Nat) (D : List UInt8) (h : D.length = 512) (W : World) : (Instr.build 105 #[(0, .int .i64 (m : Int)), (1, .agg (bv D).toArray)]).run Try.prog W = .ok (.agg (pc ⟨m, D⟩).toArray) W :=
  run_build W _ _ _ (by rw [built_pd]; exact fill_pd m D h)
theorem bslice_pd (x : Pd) (h : x.data.length = 512) (W : World) : (Instr.buildSlice 84 1 #[(0, .agg (pc x).toArray)]).run Try.prog W = .ok (.slice (some ⟨W.heap.size, 0, none⟩) 1 1) (W.alloc (.cells (pc x).toArray 105)) := by
  obtain ⟨i0, hi, hzz⟩ := Option.map_eq_some_iff.1 info_pd
  simp only [Prod.mk.injEq] at hzz
  obtain ⟨hz0, hz1, hz2⟩ := hzz
  refine run_buildSlice W _ 105 1 _ _ i0 _ Try.underlying84 hi hz0 (by rw [hz1]; omega) (by rw [hz1]; omega) ?_
  rw [hz1]
  have := Go.Great.fill_whole (s := 513) (by omega) [.agg (pc x).toArray] ((Array.range (1 * 513)).map (fun k => (Value.agg (#[.int .i64 0] ++ Array.replicate 512 (.int .u8 0))).cells[k % (Value.agg (#[.int .i64 0] ++ Array.replicate 512 (.int .u8 0))).cells.size]!)) (by
    intro v hv
    simp only [List.mem_singleton] at hv
    subst hv
    show (pc x).toArray.size = 513
    rw [List.size_toArray, pc_length h]) (by simp)
  refine Eq.trans this ?_
  congr 1
  simp [Value.cells]
theorem load_blk (W : World) (bb oo : Nat) (D : List UInt8) (h : D.length = 512) (hc : W.rangeAt bb oo (bv D)) : (Instr.loadAt 89 (.pointer (some ⟨bb, oo, none⟩))).run Try.prog W = .ok (.agg (bv D).toArray) W :=
  run_loadAt_mid W bb oo _ (bv D) _ hc Try.underlying89 rfl (by
    rw [bv_length, h]
    have := info_blk
    cases hq : Try.prog.info? 89 with
    | none => rw [hq] at this; cases this
    | some i => rw [hq] at this; simp at this ⊢; exact this.2.1)
end Go.Proofs.Ytggoaelbglhehaa
/- The device as a whole: its state, what an act may change, and the small walks: has, act, Arm, Down. -/
set_option linter.unusedVariables false
set_option linter.unusedSimpArgs false
set_option maxRecDepth 100000
namespace Go.Proofs.Ytggoaelbglhehaa
open Go.RowKit
/-- what a device is -/
structure DS where
  n : Nat
  M : List UInt8
  C : List Pd
  left : Nat
  armed : Bool
  down : Bool
  rd : Nat
  wr : Nat
  fl : Nat
/-- of the blocks S only changed; those of S' are of S, or new -/
structure Fr (S S' : List Nat) (w w' : World) : Prop where
  only : Only S w w'
  new : ∀ k ∈ S', k ∈ S ∨ w.heap.size ≤ k
theorem Fr.refl (S : List Nat) (w : World) : Fr S S w w := ⟨Only.refl S w, fun k hk => .inl hk⟩
theorem Fr.trans {S S' S'' : List Nat} {a b c : World} (h : Fr S S' a b) (k : Fr S' S'' b c) : Fr S S'' a c :=
  ⟨⟨k.only.os.trans h.only.os, k.only.tape.trans h.only.tape, k.only.output.trans h.only.output, Nat.le_trans h.only.size k.only.size, fun i hi hs =>
    (k.only.blk i (Nat.lt_of_lt_of_le hi h.only.size) (fun hm => by
      rcases h.new i hm with h1 | h1
      · exact hs h1
      · omega)).trans (h.only.blk i hi hs)⟩, fun i hi => by
    rcases k.new i hi with h1 | h1
    · exact h.new i h1
    · exact .inr (Nat.le_trans h.only.size h1)⟩
theorem Fr.below (S : List Nat) {w w' : World} (h : Below w.heap.size w w') : Fr S S w w' := ⟨Only.of_below S h, fun k hk => .inl hk⟩
theorem Fr.drew {S S' : List Nat} {a b : World} (h : Fr S S' a b) (n : Nat) : Fr S S' a (b.drewN n) := ⟨h.only.drewN n, h.new⟩
theorem Fr.apart {S S' : List Nat} {w w' : World} (h : Fr S S' w w') {k : Nat} (hk : k < w.heap.size) (hs : k ∉ S) : k < w'.heap.size ∧ k ∉ S' :=
  ⟨Nat.lt_of_lt_of_le hk h.only.size, fun hm => by
    rcases h.new k hm with h1 | h1
    · exact hs h1
    · omega⟩
theorem Fr.toBelow {S S' : List Nat} {w w' : World} {B : Nat} (h : Fr S S' w w') (hB : B ≤ w.heap.size) (hS : ∀ k ∈ S, B ≤ k) : Below B w w' ∧ ∀ k ∈ S', B ≤ k :=
  ⟨h.only.below hB hS, fun k hk => by
    rcases h.new k hk with h1 | h1
    · exact hS k h1
    · omega⟩
def dvS (b g : Nat) (vc : Value) : List Nat := b :: g :: vc.ownBlock.toList
/-- the device D lies there: its struct in block b, its medium in g, its cache is vc -/
structure IsV (w : World) (b g : Nat) (vc : Value) (D : DS) : Prop where
  dev : IsDev w b g D.n D.M vc D.left D.armed D.down D.rd D.wr D.fl
  ca : OwnP w 0 D.n vc D.C.length D.C
  nb : ∀ k, vc.ownBlock = some k → k ≠ b ∧ k ≠ g
section
variable {w w' : World} {b g : Nat} {vc : Value} {D : DS}
theorem OwnP.lt {base n q : Nat} {C : List Pd} (h : OwnP w base n vc q C) (k : Nat) (hk : vc.ownBlock = some k) : base ≤ k ∧ k < w.heap.size := (World.ownsRow.lt h.2) k hk
theorem OwnP.keep {base n q : Nat} {C : List Pd} {S : List Nat} (h : OwnP w base n vc q C) (hw : Only S w w') (hs : ∀ k, vc.ownBlock = some k → k ∉ S) : OwnP w' base n vc q C := by
  refine ⟨h.1, h.2.1, ?_⟩
  rcases h.2.2 with h1 | ⟨g, cap, cur, rfl, hb, hh, h3⟩
  · exact .inl h1
  · exact .inr ⟨g, cap, cur, rfl, hb, (hw.blk g (lt_of_block hh) (hs g rfl)).trans hh, h3⟩
theorem IsV.lt (h : IsV w b g vc D) : ∀ k ∈ dvS b g vc, k < w.heap.size := by
  intro k hk
  simp only [dvS, List.mem_cons, Option.mem_toList] at hk
  rcases hk with rfl | rfl | hk
  · exact lt_of_block h.dev.st
  · exact lt_of_block h.dev.med
  · exact (h.ca.lt k hk).2
theorem IsV.keep {S : List Nat} (h : IsV w b g vc D) (hw : Only S w w') (hs : ∀ k ∈ dvS b g vc, k ∉ S) : IsV w' b g vc D :=
  ⟨h.dev.only hw (hs b (by simp [dvS])) (hs g (by simp [dvS])), h.ca.keep hw (fun k hk => hs k (by simp [dvS, hk])), h.nb⟩
theorem IsV.ext (h : IsV w b g vc D) (hb : Below w.heap.size w w') : IsV w' b g vc D := h.keep (Only.of_below [] hb) (by simp)
theorem IsV.drewN (h : IsV w b g vc D) (n : Nat) : IsV (w.drewN n) b g vc D := h.keep ((Only.refl [] w).drewN n) (by simp)
/-- a cell of the struct is written -/
theorem IsV.store (h : IsV w b g vc D) (j : Nat) (v : Value) (D' : DS) (hn : D'.n = D.n) (hM : D'.M = D.M) (hC : D'.C = D.C)
    (hst : (#[.slice (some ⟨g, 0, none⟩) D.n D.n, vc, .int .i64 D.left, .bool D.armed, .bool D.down, .int .i64 D.rd, .int .i64 D.wr, .int .i64 D.fl] : Array Value).setIfInBounds j v = #[.slice (some ⟨g, 0, none⟩) D.n D.n, vc, .int .i64 D'.left, .bool D'.armed, .bool D'.down, .int .i64 D'.rd, .int .i64 D'.wr, .int .i64 D'.fl]) :
    IsV (w.setCell ⟨b, j, none⟩ v) b g vc D' ∧ Fr (dvS b g vc) (dvS b g vc) w (w.setCell ⟨b, j, none⟩ v) := by
  have hO : Only [b] w (w.setCell ⟨b, j, none⟩ v) := (Only.refl [b] w).setCell (by simp) v
  refine ⟨⟨⟨?_, ?_, ?_, h.dev.ne, ?_⟩, ?_, h.nb⟩, hO.mono (by simp [dvS]), fun k hk => .inl hk⟩
  · rw [heap_setCell_same w b j _ _ v h.dev.st, hn, hst]
  · rw [hM]; exact (hO.blk g (lt_of_block h.dev.med) (by simp; exact fun e => h.dev.ne e.symm)).trans h.dev.med
  · rw [hM, hn]; exact h.dev.len
  · rw [hn]; exact h.dev.small
  · rw [hn, hC]; exact h.ca.keep hO (fun k hk => by simp; exact (h.nb k hk).1)
end
theorem dv_has (w : World) (b g : Nat) (vc : Value) (D : DS) (num : Int) (h : IsV w b g vc D) :
    Calls Try.prog 48 #[.pointer (some ⟨b, 0, none⟩), .int .i64 num] w fun e w' => e = .returned (.bool (decide (0 ≤ num ∧ num < D.n))) ∧ w' = w := by
  have c0 := h.dev.c0
  clear h
  rcases (by omega : num < 0 ∨ (0 ≤ num ∧ num < (D.n : Int)) ∨ (0 ≤ num ∧ ¬ num < (D.n : Int))) with h1 | ⟨h1, h2⟩ | ⟨h1, h2⟩
  · rw [decide_eq_false (p := 0 ≤ num ∧ num < (D.n : Int)) (by omega)]
    have e1 : ¬ 0 ≤ num := by omega
    clear h1
    go_enter Try.func48, Try.ntmps48
    go_wp2
    go_ret
    exact ⟨rfl, rfl⟩
  · rw [decide_eq_true (p := 0 ≤ num ∧ num < (D.n : Int)) (by omega)]
    go_enter Try.func48, Try.ntmps48
    go_wp2
    go_ret
    exact ⟨by simp [h2], rfl⟩
  · rw [decide_eq_false (p := 0 ≤ num ∧ num < (D.n : Int)) (by omega)]
    go_enter Try.func48, Try.ntmps48
    go_wp2
    go_ret
    exact ⟨by simp [h2], rfl⟩
def actD (D : DS) : Bool × DS := if D.armed = true ∧ D.left = 0 then (false, { D with down := true }) else if D.down = true then (false, D) else if D.armed = true then (true, { D with left := D.left - 1 }) else (true, D)
theorem dv_act (w : World) (b g : Nat) (vc : Value) (D : DS) (hl : D.left < 9223372036854775808) (h : IsV w b g vc D) :
    Calls Try.prog 65 #[.pointer (some ⟨b, 0, none⟩)] w fun e w' => e = .returned (.bool (actD D).1) ∧ IsV w' b g vc (actD D).2 ∧ Fr (dvS b g vc) (dvS b g vc) w w' := by
  have c2 : w.cell? ⟨b, 2, none⟩ = some (.int .i64 (D.left : Int)) := h.dev.cell 2
  have c3 : w.cell? ⟨b, 3, none⟩ = some (.bool D.armed) := h.dev.cell 3
  have c4 : w.cell? ⟨b, 4, none⟩ = some (.bool D.down) := h.dev.cell 4
  have f2 := frozen_of_row w b 2 _ _ h.dev.st
  have f4 := frozen_of_row w b 4 _ _ h.dev.st
  have HD := Lib.hid h
  clear h
  cases ha : D.armed with
  | false =>
    rw [ha] at c3
    cases hd : D.down with
    | true =>
      rw [hd] at c4
      have HA := Lib.hid (show actD D = (false, D) by unfold actD; rw [if_neg (by simp [ha]), if_pos hd])
      clear ha hd
      rw [HA.out]
      go_enter Try.func65, Try.ntmps65
      go_wp2
      go_ret
      exact ⟨rfl, HD.out, Fr.refl _ _⟩
    | false =>
      rw [hd] at c4
      have HA := Lib.hid (show actD D = (true, D) by unfold actD; rw [if_neg (by simp [ha]), if_neg (by simp [hd]), if_neg (by simp [ha])])
      clear ha hd
      rw [HA.out]
      go_enter Try.func65, Try.ntmps65
      go_wp2
      go_ret
      exact ⟨rfl, HD.out, Fr.refl _ _⟩
  | true =>
    rw [ha] at c3
    by_cases h0 : D.left = 0
    · have e0 : ((D.left : Int) == 0) = true := by simp [h0]
      have HA := Lib.hid (show actD D = (false, { D with down := true }) by unfold actD; rw [if_pos ⟨ha, h0⟩])
      have HS := Lib.hid (HD.out.store 4 (.bool true) { D with down := true } rfl rfl rfl rfl)
      clear h0
      rw [HA.out]
      go_enter Try.func65, Try.ntmps65
      go_wp2
      go_ret
      exact ⟨rfl, HS.out.1, HS.out.2⟩
    · have e0 : ((D.left : Int) == 0) = false := by simp [h0]
      cases hd : D.down with
      | true =>
        rw [hd] at c4
        have HA := Lib.hid (show actD D = (false, D) by unfold actD; rw [if_neg (by simp [h0]), if_pos hd])
        clear ha hd
        rw [HA.out]
        go_enter Try.func65, Try.ntmps65
        go_wp2
        go_ret
        exact ⟨rfl, HD.out, Fr.refl _ _⟩
      | false =>
        rw [hd] at c4
        have HA := Lib.hid (show actD D = (true, { D with left := D.left - 1 }) by unfold actD; rw [if_neg (by simp [h0]), if_neg (by simp [hd]), if_pos ha])
        have e1 : (D.left : Int) - 1 = ((D.left - 1 : Nat) : Int) := by omega
        obtain ⟨l1, hl1⟩ : ∃ l1, l1 = D.left - 1 := ⟨_, rfl⟩
        rw [← hl1] at e1 HA
        have HS := Lib.hid (HD.out.store 2 (.int .i64 (l1 : Int)) { D with left := l1 } rfl rfl rfl rfl)
        have hb1 : (1 : Int) ≤ (D.left : Int) ∧ (D.left : Int) < 9223372036854775808 := by omega
        clear ha hd h0 hl1
        rw [HA.out]
        go_enter Try.func65, Try.ntmps65
        go_wp2
        go_ret
        exact ⟨rfl, HS.out.1, HS.out.2⟩
theorem dv_Down (w : World) (b g : Nat) (vc : Value) (D : DS) (h : IsV w b g vc D) :
    Calls Try.prog 36 #[.pointer (some ⟨b, 0, none⟩)] w fun e w' => e = .returned (.bool D.down) ∧ w' = w := by
  have c4 : w.cell? ⟨b, 4, none⟩ = some (.bool D.down) := h.dev.cell 4
  clear h
  go_enter Try.func36, Try.ntmps36
  go_wp2
  go_ret
  exact ⟨rfl, rfl⟩
def armD (D : DS) (k : Int) : Int × DS := if k < 0 then (1, D) else if D.down = true then (6, D) else (0, { D with armed := true, left := k.toNat })
theorem dv_Arm (w : World) (b g : Nat) (vc : Value) (D : DS) (k : Int) (h : IsV w b g vc D) :
    Calls Try.prog 25 #[.pointer (some ⟨b, 0, none⟩), .int .i64 k] w fun e w' => e = .returned (.int .i64 (armD D k).1) ∧ IsV w' b g vc (armD D k).2 ∧ Fr (dvS b g vc) (dvS b g vc) w w' := by
  have c4 : w.cell? ⟨b, 4, none⟩ = some (.bool D.down) := h.dev.cell 4
  have c2 : w.cell? ⟨b, 2, none⟩ = some (.int .i64 (D.left : Int)) := h.dev.cell 2
  have c3 : w.cell? ⟨b, 3, none⟩ = some (.bool D.armed) := h.dev.cell 3
  have f2 := frozen_of_row w b 2 _ _ h.dev.st
  have f3 := frozen_of_row w b 3 _ _ h.dev.st
  have HD := Lib.hid h
  clear h
  by_cases h0 : k < 0
  · have HA := Lib.hid (show armD D k = (1, D) from if_pos h0)
    rw [HA.out]
    go_enter Try.func25, Try.ntmps25
    go_wp2
    go_ret
    exact ⟨rfl, HD.out, Fr.refl _ _⟩
  · obtain ⟨m, rfl⟩ : ∃ m : Nat, k = m := ⟨k.toNat, by omega⟩
    cases hd : D.down with
    | true =>
      rw [hd] at c4
      have HA := Lib.hid (show armD D m = (6, D) by unfold armD; rw [if_neg h0, if_pos hd])
      clear hd
      rw [HA.out]
      go_enter Try.func25, Try.ntmps25
      go_wp2
      go_ret
      exact ⟨rfl, HD.out, Fr.refl _ _⟩
    | false =>
      rw [hd] at c4
      have HA := Lib.hid (show armD D m = (0, { D with armed := true, left := m }) by unfold armD; rw [if_neg h0, if_neg (by simp [hd]), Int.toNat_natCast])
      have HS := HD.out.store 3 (.bool true) { D with armed := true } rfl rfl rfl rfl
      have HS2 := Lib.hid (HS.1.store 2 (.int .i64 (m : Int)) { D with armed := true, left := m } rfl rfl rfl rfl)
      have HS1 := Lib.hid HS.2
      clear hd HS
      rw [HA.out]
      go_enter Try.func25, Try.ntmps25
      go_wp2
      go_ret
      exact ⟨rfl, HS2.out.1, HS1.out.trans HS2.out.2⟩
end Go.Proofs.Ytggoaelbglhehaa
/- A region that draws its order: what holds till one operation z has come up (a cell that a later store of the same region writes), and what holds all along. -/
set_option linter.unusedVariables false
set_option linter.unusedSimpArgs false
namespace Go.Proofs.Ytggoaelbglhehaa
open Go.RowKit
section
variable {P : Program} {md : Region.Mode} {ops : Array Oper} {Q : Exit → Act → World → Prop} {R T : World → Prop} {z : Nat}
/-- whatever order is picked: behind each operation R, and T as long as z has not come up -/
def wpAnyZ (P : Program) (md : Region.Mode) (ops : Array Oper) (Q : Exit → Act → World → Prop) (R T : World → Prop) (z : Nat) : Nat → Array Bool → Act → World → Prop
  | 0, l, a, w => Region.ready md ops l = [] ∧ Q .normal a w
  | f + 1, l, a, w => (Region.ready md ops l = [] → Q .normal a w) ∧
    ∀ i ∈ Region.ready md ops l, wpOp P ops Q i (fun a' w' => (R w' ∧ ((l.setIfInBounds i true).getD z true = false → T w')) ∧ wpAnyZ P md ops Q R T z f (l.setIfInBounds i true) a' w') a w
theorem wpAnyZ.any : ∀ (f : Nat) (l : Array Bool) (a : Act) (w : World), wpAnyZ P md ops Q R T z f l a w → wpAny P md ops Q f l a w
  | 0, _, _, _, h => h
  | f + 1, _, _, _, h => ⟨h.1, fun i hi => wpOp_mono (fun a' w' h' => wpAnyZ.any f _ a' w' h'.2) (h.2 i hi)⟩
theorem wpAnyZ.first {i : Nat} {oi : Oper} {v : Value} {U : World → Prop} (hi : ops[i]? = some oi) (hiz : i ≠ z)
    (hU : (∀ w, R w → U w) ∨ ((∀ w, T w → U w) ∧ ∃ oz e, ops[z]? = some oz ∧ e ∈ oz.after ∧ Region.binds md e = true ∧ e.on = i))
    (hsel : ∀ (j : Nat) (o : Oper) cs b, ops[j]? = some o → o.op ≠ .select cs b) (hQ : ∀ c a w, Q (.panic c) (a.put oi.dst v) w → Q (.panic c) a w) :
    ∀ (f : Nat) (l : Array Bool) (a : Act) (w : World), l.getD z true = false ∨ (∀ w, R w → U w) →
      (∀ j oj, ops[j]? = some oj → j ≠ i → l.getD j true = false → (∀ e ∈ oj.after, Region.binds md e = true → e.on ≠ i) → oi.apart ops oj = true) →
      i ∈ Region.ready md ops l → YieldsIf P ops U oi v a → U w → R w → (l.getD z true = false → T w) →
      wpAnyZ P md ops Q R T z f (l.setIfInBounds i true) (a.put oi.dst v) w → wpAnyZ P md ops Q R T z (f + 1) l a w := by
  intro f
  have hzi : ∀ l : Array Bool, (l.setIfInBounds i true).getD z true = l.getD z true := fun l => getD_set_ne true hiz
  induction f with
  | zero =>
    intro l a w _ _ hr hy hu hRw hTw H
    refine ⟨fun h => (by rw [h] at hr; cases hr), fun j hj => ?_⟩
    by_cases hji : j = i
    · subst hji; exact hy.wpOp hi hu ⟨⟨hRw, by rw [hzi]; exact hTw⟩, H⟩
    · have h1 := ready_mono hj hji
      rw [H.1] at h1
      cases h1
  | succ f ih =>
    intro l a w hz hfree hr hy hu hRw hTw H
    refine ⟨fun h => (by rw [h] at hr; cases hr), fun j hj => ?_⟩
    by_cases hji : j = i
    · subst hji; exact hy.wpOp hi hu ⟨⟨hRw, by rw [hzi]; exact hTw⟩, H⟩
    · have h1 := H.2 j (ready_mono hj hji)
      obtain ⟨hjun, oj, hoj, hall⟩ := mem_ready.1 hj
      have hiun := (mem_ready.1 hr).1
      have hnot : ∀ e ∈ oj.after, Region.binds md e = true → e.on ≠ i := fun e he hb heq => by
        have h3 := hall e he hb
        rw [heq] at h3
        rcases Nat.lt_or_ge i l.size with h' | h'
        · simp [h'] at hiun h3; rw [hiun] at h3; cases h3
        · simp [Array.getElem?_eq_none h'] at h3
      have h2 := wpOp_putIf hoj (hfree j oj hoj hji hjun hnot) (fun cs b => hsel i oi cs b hi) (fun cs b => hsel j oj cs b hoj) hQ hy h1
      have hfree' : ∀ k ok, ops[k]? = some ok → k ≠ i → (l.setIfInBounds j true).getD k true = false →
          (∀ e ∈ ok.after, Region.binds md e = true → e.on ≠ i) → oi.apart ops ok = true := fun k ok hk hki hun hno => by
        refine hfree k ok hk hki ?_ hno
        by_cases hjk : j = k
        · subst hjk; exact hjun
        · rw [getD_set_ne true hjk] at hun; exact hun
      have hcomm : (l.setIfInBounds i true).setIfInBounds j true = (l.setIfInBounds j true).setIfInBounds i true := (Array.setIfInBounds_comm _ _ hji).symm
      have hjz : l.getD z true = false → (∃ oz e, ops[z]? = some oz ∧ e ∈ oz.after ∧ Region.binds md e = true ∧ e.on = i) → j ≠ z := fun _ ⟨oz, e, e1, e2, e3, e4⟩ hjz => by
        rw [hjz, e1] at hoj
        injection hoj with hoj
        exact hnot e (hoj ▸ e2) e3 e4
      refine wpOp_mono (fun a' w' h3 => ?_) h2
      obtain ⟨h4, ⟨h5, h6⟩, h7⟩ := h3
      rw [hcomm, hzi] at h6
      rw [hcomm] at h7
      have hu' : U w' ∧ ((l.setIfInBounds j true).getD z true = false ∨ (∀ w, R w → U w)) := by
        rcases hU with hU | ⟨hU, hw⟩
        · exact ⟨hU w' h5, .inr hU⟩
        · rcases hz with hz | hz
          · have hjz' := hjz hz hw
            have h8 : (l.setIfInBounds j true).getD z true = false := by rw [getD_set_ne true hjz']; exact hz
            exact ⟨hU w' (h6 h8), .inl h8⟩
          · exact ⟨hz w' h5, .inr hz⟩
      exact ⟨⟨h5, h6⟩, ih (l.setIfInBounds j true) a' w' hu'.2 hfree' (ready_mono hr (Ne.symm hji)) h4 hu'.1 h5 h6 h7⟩
/-- number i is taken first: in every world that meets U it yields v -/
theorem wpAnyZ.take {i : Nat} {oi : Oper} {v : Value} {U : World → Prop} {f : Nat} {l : Array Bool} {a : Act} {w : World} (hi : ops[i]? = some oi) (hs : Region.noSelect ops = true) (hf : Region.free md ops l i = true) (hr : (Region.ready md ops l).contains i = true) (hiz : i ≠ z)
    (hQ : ∀ c a w, Q (.panic c) (a.put oi.dst v) w → Q (.panic c) a w)
    (hU : (∀ w, R w → U w) ∨ ((∀ w, T w → U w) ∧ Region.waitsFor md ops z i = true)) (hz : l.getD z true = false ∨ (∀ w, R w → U w))
    (hy : YieldsIf P ops U oi v a) (hu : U w) (hRw : R w) (hTw : l.getD z true = false → T w)
    (h : wpAnyZ P md ops Q R T z f (l.setIfInBounds i true) (a.put oi.dst v) w) : wpAnyZ P md ops Q R T z (f + 1) l a w :=
  wpAnyZ.first hi hiz (hU.imp id (fun ⟨h1, h2⟩ => ⟨h1, by
    obtain ⟨oz, h3, e, h4, h5, h6⟩ := Region.waitsFor_spec h2
    exact ⟨oz, e, h3, h4, h5, h6⟩⟩)) (Region.noSelect_spec hs) hQ f l a w hz (Region.free_spec hi hf) (by simpa using hr) hy hu hRw hTw h
/-- it yields whatever the world is -/
theorem wpAnyZ.takeN {i : Nat} {oi : Oper} {v : Value} {f : Nat} {l : Array Bool} {a : Act} {w : World} (hi : ops[i]? = some oi) (hs : Region.noSelect ops = true) (hf : Region.free md ops l i = true) (hr : (Region.ready md ops l).contains i = true) (hiz : i ≠ z)
    (hQ : ∀ c a w, Q (.panic c) (a.put oi.dst v) w → Q (.panic c) a w)
    (hw : Region.wanted oi (yielded ops a.tmps) = true) (hy : ∀ w, (execOp a.eval oi).run P w = .ok (.value v) w) (hRw : R w) (hTw : l.getD z true = false → T w)
    (h : wpAnyZ P md ops Q R T z f (l.setIfInBounds i true) (a.put oi.dst v) w) : wpAnyZ P md ops Q R T z (f + 1) l a w :=
  wpAnyZ.take (U := fun _ => True) hi hs hf hr hiz hQ (.inl fun _ _ => trivial) (.inr fun _ _ => trivial) (.inl ⟨hw, fun w _ => hy w⟩) trivial hRw hTw h
/-- one alone may come up -/
theorem wpAnyZ.one {i : Nat} {oi : Oper} {f : Nat} {l : Array Bool} {a : Act} {w : World} {E : Prop} (hr : Region.ready md ops l = [i]) (hi : ops[i]? = some oi) (hw : Region.wanted oi (yielded ops a.tmps) = true)
    (h : if Region.wanted oi (yielded ops a.tmps) = true then Oper.wp P oi a w (fun a' w' => (R w' ∧ ((l.setIfInBounds i true).getD z true = false → T w')) ∧ wpAnyZ P md ops Q R T z f (l.setIfInBounds i true) a' w') Q else E) : wpAnyZ P md ops Q R T z (f + 1) l a w := by
  refine ⟨fun h0 => (by rw [hr] at h0; cases h0), fun j hj => ?_⟩
  rw [hr] at hj
  simp only [List.mem_singleton] at hj
  subst hj
  unfold wpOp
  rw [if_pos hw] at h
  simp only [hi, hw, if_true]
  exact .inl h
theorem wpAnyZ.done {l : Array Bool} {a : Act} {w : World} (hr : Region.ready md ops l = []) (h : Q .normal a w) : ∀ f, wpAnyZ P md ops Q R T z f l a w
  | 0 => ⟨hr, h⟩
  | _ + 1 => ⟨fun _ => h, by rw [hr]; simp⟩
/-- the beginning -/
theorem wp_region_z {id : Nat} {a : Act} {w : World} (R T : World → Prop) (z : Nat) (hm : P.follows .mixedOrders = true) (h : wpAnyZ P .any ops Q R T z ops.size (Array.replicate ops.size false) a w.drew) : (Code.region id ops true).wp P Q a w :=
  wp_region_any hm (wpAnyZ.any _ _ _ _ h)
end
/-- one alone may come up: what follows it is a letter, kept from the walk's simp -/
theorem wpAnyZ.oneK {P : Program} {md : Region.Mode} {ops : Array Oper} {Q : Exit → Act → World → Prop} {R T : World → Prop} {z i : Nat} {oi : Oper} {f : Nat} {l : Array Bool} {a : Act} {w : World} {E : Prop} (hr : Region.ready md ops l = [i]) (hi : ops[i]? = some oi) (hw : Region.wanted oi (yielded ops a.tmps) = true)
    (h : ∀ K : Act → World → Prop, Hid (∀ a' w', ((R w' ∧ ((l.setIfInBounds i true).getD z true = false → T w')) ∧ wpAnyZ P md ops Q R T z f (l.setIfInBounds i true) a' w') → K a' w') → if Region.wanted oi (yielded ops a.tmps) = true then Oper.wp P oi a w K Q else E) : wpAnyZ P md ops Q R T z (f + 1) l a w :=
  wpAnyZ.one (E := E) hr hi hw (h _ (Lib.hid fun _ _ h => h))
end Go.Proofs.Ytggoaelbglhehaa
