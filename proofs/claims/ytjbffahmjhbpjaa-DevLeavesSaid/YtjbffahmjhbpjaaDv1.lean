/- The device: its memory, and the walks of New, Blocks and Of. -/
import Derived.Test.YtjbffahmjhbpjaaOwn
import Derived.Test.YtjbffahmjhbpjaaOnly
import Derived.Laws.CopyOwn
import Derived.Deep.RegionLaw
import Derived.Deep.QuietTactic
import Derived.BigQuiet
set_option linter.unusedVariables false
set_option linter.unusedSimpArgs false
namespace Go.Proofs.Ytjbffahmjhbpjaa
open Go.RowKit
theorem info_blk : (Try.prog.info? 78).map (fun i => (i.zero, i.size, i.bytes)) = some (some (.agg (Array.replicate 512 (.int .u8 0))), 512, 512) := by kernel_rfl
theorem sz_u8 : (Try.prog.info? 5).map (·.size) = some 1 := by kernel_rfl
theorem Rd.cellsAt {w : World} {bb oo n c : Nat} {L : List UInt8} (h : Rd w (some ⟨bb, oo, none⟩) n c L) (i m : Nat) (hi : i + m ≤ n) : ∀ j v, (bv ((L.drop i).take m))[j]? = some v → w.cell? ((⟨bb, oo + i, none⟩ : Addr).add j) = some v := by
  intro j v hv
  have hl := h.len
  have hj : j < m := by
    rcases Nat.lt_or_ge j m with h | h
    · exact h
    · rw [List.getElem?_eq_none (by rw [bv_length]; simp; omega)] at hv; cases hv
  obtain ⟨b', o', he, hc⟩ := h.at_ (by omega)
  injection he with he
  injection he with h1 h2
  subst h1 h2
  rw [bv_get _ _ (by simp; omega)] at hv
  rw [Addr.add_mid, Nat.add_assoc, hc (i + j) (by omega), ← hv]
  simp [List.getD_eq_getElem?_getD, hj]
theorem zc_bv (m : Nat) : zc m = (bv (List.replicate m 0)).toArray := by
  apply Array.ext'
  simp only [zc, bv, madeCells]
  apply List.ext_getElem
  · simp
  · intro i h1 h2
    simp [Nat.mod_one]
theorem Rd.zc (w : World) (m : Nat) (hm : m ≤ 140737488355328) : Rd (w.alloc (.cells (zc m) 5)) (some ⟨w.heap.size, 0, none⟩) m m (List.replicate m 0) := by
  rw [zc_bv]
  exact Rd.lit w _ m (by simp) (by omega)
theorem bv_zero (m : Nat) : bv (List.replicate m 0) = List.replicate m (.int .u8 0) := by simp [bv]
theorem madeCells_rep (u : Value) (k m : Nat) (hk : 0 < k) : madeCells (Array.replicate k u) m = (List.replicate m u).toArray := by
  apply Array.ext'
  simp only [madeCells]
  apply List.ext_getElem
  · simp
  · intro i h1 h2
    have : i % k < k := Nat.mod_lt _ hk
    simp [this]
theorem mk_blk (m : Nat) (hm : m ≤ 4096) (W : World) :
    (Instr.makeSlice 73 (.int .i64 (m : Int)) (.int .i64 (m : Int))).run Try.prog W = .ok (.slice (some ⟨W.heap.size, 0, none⟩) m m) (W.alloc (.cells (bv (List.replicate (m * 512) 0)).toArray 78)) := by
  obtain ⟨i0, hi, hzz⟩ := Option.map_eq_some_iff.1 info_blk
  simp only [Prod.mk.injEq] at hzz
  obtain ⟨hz0, hz1, hz2⟩ := hzz
  have := run_make W (P := Try.prog) 73 78 i0 _ Try.underlying73 hi hz0 .i64 .i64 (m : Int) (m : Int) (by omega) (by omega) (by rw [hz2]; omega) (by omega)
  rw [this]
  have hc : (Value.agg (Array.replicate 512 (.int .u8 0))).cells = Array.replicate 512 (.int .u8 0) := by rfl
  simp only [hc, madeCells_rep _ _ _ (show 0 < 512 by omega), bv_zero, Int.toNat_natCast, hz1]
/-- a device: its struct in block b, its medium in block g -/
structure IsDev (w : World) (b g n : Nat) (M : List UInt8) (vc : Value) (left : Int) (armed down : Bool) (rd wr fl : Int) : Prop where
  st : w.heap[b]? = some (.cells #[.slice (some ⟨g, 0, none⟩) n n, vc, .int .i64 left, .bool armed, .bool down, .int .i64 rd, .int .i64 wr, .int .i64 fl] 76 (0, 0))
  med : w.heap[g]? = some (.cells (bv M).toArray 78 (0, 0))
  len : M.length = n * 512
  ne : b ≠ g
  small : 64 ≤ n ∧ n ≤ 4096
section
variable {w : World} {b g n : Nat} {M : List UInt8} {vc : Value} {left rd wr fl : Int} {armed down : Bool}
theorem IsDev.cell (h : IsDev w b g n M vc left armed down rd wr fl) (j : Nat) : w.cell? ⟨b, j, none⟩ = #[.slice (some ⟨g, 0, none⟩) n n, vc, .int .i64 left, .bool armed, .bool down, .int .i64 rd, .int .i64 wr, .int .i64 fl][j]? := by
  rw [cell_of_row _ _ _ _ _ _ h.st]
theorem IsDev.c0 (h : IsDev w b g n M vc left armed down rd wr fl) : w.cell? ⟨b, 0, none⟩ = some (.slice (some ⟨g, 0, none⟩) n n) := h.cell 0
theorem IsDev.only {w' : World} {S : List Nat} (h : IsDev w b g n M vc left armed down rd wr fl) (hw : Only S w w') (hb : b ∉ S) (hg : g ∉ S) : IsDev w' b g n M vc left armed down rd wr fl :=
  ⟨(hw.blk b (lt_of_block h.st) hb).trans h.st, (hw.blk g (lt_of_block h.med) hg).trans h.med, h.len, h.ne, h.small⟩
theorem IsDev.ext {w' : World} (h : IsDev w b g n M vc left armed down rd wr fl) (hw : Below w.heap.size w w') : IsDev w' b g n M vc left armed down rd wr fl := h.only (Only.of_below [] hw) (by simp) (by simp)
end
/-- copy into a row, as one step of a region that draws: only that row changes. -/
theorem step_copy_only {P : Program} {ops : Array Oper} {o : Oper} {a : Act} {w : World} {K : Act → World → Prop} {Q : Exit → Act → World → Prop} {E : Prop} (hgd : o.guard = none) (d s : Operand) (dT sT : TypeId)
    (ho : o.op = .call { callee := .builtin .copy, args := #[d, s], argTypes := #[dT, sT] }) (elem : TypeId) (hu : P.underlying dT = some (.slice elem)) (hsz : (P.info? elem).map (·.size) = some 1)
    (g off dLen dCap : Nat) (ad : Addr) (sLen sCap : Nat) (hd : a.eval d = .slice (some ⟨g, off, none⟩) dLen dCap) (hs : a.eval s = .slice (some ad) sLen sCap)
    (cur : List Value) (t : TypeId) (hg : w.heap[g]? = some (.cells cur.toArray t (0, 0))) (cs : List Value) (hn : cs.length = Nat.min sLen dLen)
    (hsrc : ∀ j v, cs[j]? = some v → w.cell? (ad.add j) = some v) (hfit : off + cs.length ≤ cur.length) (h1 : ∀ v ∈ cs, v.oneCell' = true)
    (h : ∀ w', w'.heap[g]? = some (.cells (splice cur off cs).toArray t (0, 0)) → Only [g] w w' → K (a.put o.dst (goInt cs.length)) w') :
    if Region.wanted o (yielded ops a.tmps) = true then Oper.wp P o a w K Q else E := by
  have hw : Region.wanted o (yielded ops a.tmps) = true := by simp [Region.wanted, hgd]
  rw [if_pos hw]
  have hrun := run_copy_row (P := P) w dT sT o.type elem g off dLen dCap ad sLen sCap cur.toArray t cs hu hsz hg hn hsrc (by simpa using hfit) h1
  unfold Oper.wp
  simp [execOp, ho, resolve, invoke, builtin, hd, hs, hrun, Result.andThen]
  refine h _ (by simpa [splice] using setRow_heap w g _ _ t _ hg) ⟨rfl, rfl, rfl, by simp [World.setRow], fun k hk hs => setRow_other w g k _ (fun e => hs (by simp [e]))⟩
theorem splice_bv (M X : List UInt8) (off : Nat) : splice (bv M) off (bv X) = bv (splice M off X) := by simp [splice, bv]
theorem IsDev.medium {w w' : World} {b g n : Nat} {M M' : List UInt8} {vc : Value} {left rd wr fl : Int} {armed down : Bool} (h : IsDev w b g n M vc left armed down rd wr fl) (ho : Only [g] w w') (hm : w'.heap[g]? = some (.cells (bv M').toArray 78 (0, 0))) (hl : M'.length = M.length) :
    IsDev w' b g n M' vc left armed down rd wr fl :=
  ⟨(ho.blk b (lt_of_block h.st) (by simpa using h.ne)).trans h.st, hm, hl.trans h.len, h.ne, h.small⟩
set_option maxRecDepth 100000 in
theorem dv_New_ok (n : Nat) (h1 : 64 ≤ n) (h2 : n ≤ 4096) (w : World) :
    Calls Try.prog 11 #[.int .i64 n] w fun e w' => e = .returned (.tuple #[.pointer (some ⟨w.heap.size + 1, 0, none⟩), .int .i64 0]) ∧
      IsDev w' (w.heap.size + 1) w.heap.size n (List.replicate (n * 512) 0) (.slice none 0 0) 0 false false 0 0 0 ∧ Below w.heap.size w w' := by
  have hm := mk_blk n h2 w
  have d1 : (64 : Int) ≤ (n : Int) := by omega
  have d2 : (n : Int) ≤ 4096 := by omega
  go_enter Try.func11, Try.ntmps11
  go_wp2
  go_ret2
  refine ⟨by simp, ⟨?_, ?_, by simp, by simp, h1, h2⟩, ?_⟩
  · simpa using heap_alloc2_new _ _ _
  · exact heap_alloc2_old _ _ _
  · exact ((Below.refl _ w).alloc (Nat.le_refl _) _).alloc (by simp) _
theorem dv_New_bad (k : Int) (h : k < 64 ∨ 4096 < k) (w : World) :
    Calls Try.prog 11 #[.int .i64 k] w fun e w' => e = .returned (.tuple #[.pointer none, .int .i64 1]) ∧ w' = w := by
  by_cases h1 : k < 64
  · go_enter Try.func11, Try.ntmps11
    go_wp2
    go_ret2
    simp
  · have h2 : 4096 < k := by omega
    go_enter Try.func11, Try.ntmps11
    go_wp2
    go_ret2
    simp
theorem dv_Blocks (b g n : Nat) (M : List UInt8) (vc : Value) (left rd wr fl : Int) (armed down : Bool) (w : World) (h : IsDev w b g n M vc left armed down rd wr fl) :
    Calls Try.prog 12 #[.pointer (some ⟨b, 0, none⟩)] w fun e w' => e = .returned (.int .i64 n) ∧ w' = w := by
  have c0 := h.c0
  clear h
  go_enter Try.func12, Try.ntmps12
  go_wp2
  go_ret
  simp
end Go.Proofs.Ytjbffahmjhbpjaa
