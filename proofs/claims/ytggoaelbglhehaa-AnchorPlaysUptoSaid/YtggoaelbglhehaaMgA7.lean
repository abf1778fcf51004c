/- A superblock read from bytes: Decode of the program and of the reference. -/
import Derived.Test.YtggoaelbglhehaaMgA6
import Derived.Laws.ResultCell
import Derived.ArgAppend
import Derived.Test.YtggoaelbglhehaaProg
import Derived.WalkKit
import Derived.Deep.MidRow
import Derived.Deep.Cut
/- A superblock read from bytes: Decode of the program and of the reference. -/
set_option linter.unusedVariables false
set_option linter.unusedSimpArgs false
set_option maxRecDepth 100000
namespace Go.Proofs.Ytggoaelbglhehaa
open Go.RowKit SumMath
theorem results_cr2 {P : Program} {fn : Func} {p u : Tmp} {ty : TypeId} (h : fn.results = #[.cell p ty, .tmp u]) (tmps : Array Value) (w : World) (g : Nat) (t : TypeId) (cs : Array Value) (fr : Nat × Nat) (d : TypeDesc)
    (hp : tmps.getD p undef = .pointer (some ⟨g, 0, none⟩)) (hg : w.heap[g]? = some (.cells cs t fr))
    (hu : P.underlying ty = some d) (hd : (match d with | .struct _ | .array _ _ => true | _ => false) = true) (hi : (P.info? ty).map (·.size) = some cs.size) :
    (results fn tmps).run P w = .ok (.tuple #[.agg cs, tmps.getD u undef]) w := by
  have hp' : tmps[p]?.getD undef = .pointer (some ⟨g, 0, none⟩) := by simpa using hp
  simp [results, h, hp', asAddr, run_loadVar_row w g t ty cs fr d hg hu hd hi]
theorem results_cr3 {P : Program} {fn : Func} {p u v : Tmp} {ty : TypeId} (h : fn.results = #[.cell p ty, .tmp u, .tmp v]) (tmps : Array Value) (w : World) (g : Nat) (t : TypeId) (cs : Array Value) (fr : Nat × Nat) (d : TypeDesc)
    (hp : tmps.getD p undef = .pointer (some ⟨g, 0, none⟩)) (hg : w.heap[g]? = some (.cells cs t fr))
    (hu : P.underlying ty = some d) (hd : (match d with | .struct _ | .array _ _ => true | _ => false) = true) (hi : (P.info? ty).map (·.size) = some cs.size) :
    (results fn tmps).run P w = .ok (.tuple #[.agg cs, tmps.getD u undef, tmps.getD v undef]) w := by
  have hp' : tmps[p]?.getD undef = .pointer (some ⟨g, 0, none⟩) := by simpa using hp
  simp [results, h, hp', asAddr, run_loadVar_row w g t ty cs fr d hg hu hd hi]
theorem sz_sup : (Try.prog.info? 25).map (·.size) = some 9 := by kernel_rfl
/-- the cells of a superblock's struct -/
theorem cell9 {W : World} {q : Nat} {s : Sp} {t : TypeId} (h : W.heap[q]? = some (.cells (spC s) t (0, 0))) : W.cell? ⟨q, 0, none⟩ = some (.int .i64 s.gen) ∧ W.cell? ⟨q, 1, none⟩ = some (.int .i64 s.epoch) ∧ W.cell? ⟨q, 2, none⟩ = some (.int .i64 s.blocks) ∧ W.cell? ⟨q, 3, none⟩ = some (.int .i64 s.log) ∧ W.cell? ⟨q, 4, none⟩ = some (.int .i64 s.stamp) ∧ W.cell? ⟨q, 5, none⟩ = some (.int .i64 s.at_) ∧ W.cell? ⟨q, 6, none⟩ = some (.int .i64 s.root) ∧ W.cell? ⟨q, 7, none⟩ = some (.int .i64 s.count) ∧ W.cell? ⟨q, 8, none⟩ = some (.int .i64 s.version) :=
  ⟨cell_of_row W q 0 _ _ _ h, cell_of_row W q 1 _ _ _ h, cell_of_row W q 2 _ _ _ h, cell_of_row W q 3 _ _ _ h, cell_of_row W q 4 _ _ _ h, cell_of_row W q 5 _ _ _ h, cell_of_row W q 6 _ _ _ h, cell_of_row W q 7 _ _ _ h, cell_of_row W q 8 _ _ _ h⟩
theorem free9 {W : World} {q : Nat} {cs : Array Value} {t : TypeId} (h : W.heap[q]? = some (.cells cs t (0, 0))) : W.frozen? ⟨q, 0, none⟩ = false ∧ W.frozen? ⟨q, 1, none⟩ = false ∧ W.frozen? ⟨q, 2, none⟩ = false ∧ W.frozen? ⟨q, 3, none⟩ = false ∧ W.frozen? ⟨q, 4, none⟩ = false ∧ W.frozen? ⟨q, 5, none⟩ = false ∧ W.frozen? ⟨q, 6, none⟩ = false ∧ W.frozen? ⟨q, 7, none⟩ = false ∧ W.frozen? ⟨q, 8, none⟩ = false :=
  ⟨frozen_of_row W q 0 _ _ h, frozen_of_row W q 1 _ _ h, frozen_of_row W q 2 _ _ h, frozen_of_row W q 3 _ _ h, frozen_of_row W q 4 _ _ h, frozen_of_row W q 5 _ _ h, frozen_of_row W q 6 _ _ h, frozen_of_row W q 7 _ _ h, frozen_of_row W q 8 _ _ h⟩
/-- a superblock laid over another -/
def put9 (W : World) (q : Nat) (s : Sp) : World := ((((((((W.setCell ⟨q, 0, none⟩ (.int .i64 s.gen)).setCell ⟨q, 1, none⟩ (.int .i64 s.epoch)).setCell ⟨q, 2, none⟩ (.int .i64 s.blocks)).setCell ⟨q, 3, none⟩ (.int .i64 s.log)).setCell ⟨q, 4, none⟩ (.int .i64 s.stamp)).setCell ⟨q, 5, none⟩ (.int .i64 s.at_)).setCell ⟨q, 6, none⟩ (.int .i64 s.root)).setCell ⟨q, 7, none⟩ (.int .i64 s.count)).setCell ⟨q, 8, none⟩ (.int .i64 s.version)
theorem row9 {W : World} {q : Nat} {s0 s : Sp} {t : TypeId} (h : W.heap[q]? = some (.cells (spC s0) t (0, 0))) : (put9 W q s).heap[q]? = some (.cells (spC s) t (0, 0)) := by
  unfold put9
  rw [heap_setCell_same _ q 8 _ _ _ (heap_setCell_same _ q 7 _ _ _ (heap_setCell_same _ q 6 _ _ _ (heap_setCell_same _ q 5 _ _ _ (heap_setCell_same _ q 4 _ _ _ (heap_setCell_same _ q 3 _ _ _ (heap_setCell_same _ q 2 _ _ _ (heap_setCell_same _ q 1 _ _ _ (heap_setCell_same W q 0 _ _ _ h))))))))]
  simp only [spC, List.setIfInBounds_toArray, List.set_cons_zero, List.set_cons_succ]
theorem below9 {B : Nat} {w W : World} {q : Nat} {s : Sp} (h : Below B w W) (hq : B ≤ q) : Below B w (put9 W q s) := by
  have k : ∀ (W : World) (j : Nat) (u : Value), Below B w W → Below B w (W.setCell ⟨q, j, none⟩ u) := fun W j u h => h.setCell (show B ≤ (⟨q, j, none⟩ : Addr).block from hq) u
  unfold put9
  exact k _ _ _ (k _ _ _ (k _ _ _ (k _ _ _ (k _ _ _ (k _ _ _ (k _ _ _ (k _ _ _ (k _ _ _ h))))))))
theorem getI_ok (l : List UInt8) : -9223372036854775808 ≤ getI l ∧ getI l < 9223372036854775808 := by
  unfold getI; rw [i64_wrap_def]; split <;> omega
theorem decS_ok (L : List UInt8) : (decS L).ok := ⟨getI_ok _, getI_ok _, getI_ok _, getI_ok _, getI_ok _, getI_ok _, getI_ok _, getI_ok _, getI_ok _⟩
theorem ByteArray.toList_inj' {x y : ByteArray} (h : x.toList = y.toList) : x = y := by
  rw [ByteArray.toList_eq, ByteArray.toList_eq] at h
  exact ByteArray.ext (Array.toList_inj.1 h)
set_option maxHeartbeats 4000000 in
theorem an_Decode (A : Option Addr) (n c : Nat) (L : List UInt8) (w : World) (hr : Rd w A n c L) : Calls Try.prog 15 #[.slice A n c] w fun e w' => e = .returned (.tuple #[.agg (spC (decG L).1), .int .i64 (decG L).2]) ∧ Below w.heap.size w w' := by
  have hlen := hr.len
  have hmx := hr.max
  by_cases h5 : n = 512
  rotate_left
  · have HD := Lib.hid (show decG L = (zSp, 61) by unfold decG; rw [if_pos (by omega)])
    rw [HD.out]
    have q1 : ((n : Int) != 512) = true := by simp; omega
    clear hr hlen
    go_enter Try.func15, Try.ntmps15
    go_wp2
    (try simp only [Exit.inBlock, Exit.then])
    exact bodyPost_ret (results_cr2 rfl _ _ w.heap.size 25 (spC zSp) (0, 0) _ rfl (heap_alloc_new w _) Try.underlying25 rfl sz_sup) rfl ⟨rfl, (Below.refl _ w).alloc (Nat.le_refl _) _⟩
  subst h5
  obtain ⟨s, hs⟩ : ∃ s, s = decS L := ⟨_, rfl⟩
  have hok : s.ok := by rw [hs]; exact decS_ok L
  have HR := Lib.hid hr
  have HG0 := Lib.hid (fun (W : World) (hb : Below w.heap.size w W) => an_got A 512 c L 8 8 W (hr.ext hb) (by omega) (by omega) (by omega) (by omega))
  rw [show getI (seg L 8 8) = s.gen by rw [hs]; rfl] at HG0
  have HG1 := Lib.hid (fun (W : World) (hb : Below w.heap.size w W) => an_got A 512 c L 16 8 W (hr.ext hb) (by omega) (by omega) (by omega) (by omega))
  rw [show getI (seg L 16 8) = s.epoch by rw [hs]; rfl] at HG1
  have HG2 := Lib.hid (fun (W : World) (hb : Below w.heap.size w W) => an_got A 512 c L 24 4 W (hr.ext hb) (by omega) (by omega) (by omega) (by omega))
  rw [show getI (seg L 24 4) = s.blocks by rw [hs]; rfl] at HG2
  have HG3 := Lib.hid (fun (W : World) (hb : Below w.heap.size w W) => an_got A 512 c L 28 4 W (hr.ext hb) (by omega) (by omega) (by omega) (by omega))
  rw [show getI (seg L 28 4) = s.log by rw [hs]; rfl] at HG3
  have HG4 := Lib.hid (fun (W : World) (hb : Below w.heap.size w W) => an_got A 512 c L 32 8 W (hr.ext hb) (by omega) (by omega) (by omega) (by omega))
  rw [show getI (seg L 32 8) = s.stamp by rw [hs]; rfl] at HG4
  have HG5 := Lib.hid (fun (W : World) (hb : Below w.heap.size w W) => an_got A 512 c L 40 4 W (hr.ext hb) (by omega) (by omega) (by omega) (by omega))
  rw [show getI (seg L 40 4) = s.at_ by rw [hs]; rfl] at HG5
  have HG6 := Lib.hid (fun (W : World) (hb : Below w.heap.size w W) => an_got A 512 c L 44 4 W (hr.ext hb) (by omega) (by omega) (by omega) (by omega))
  rw [show getI (seg L 44 4) = s.root by rw [hs]; rfl] at HG6
  have HG7 := Lib.hid (fun (W : World) (hb : Below w.heap.size w W) => an_got A 512 c L 48 8 W (hr.ext hb) (by omega) (by omega) (by omega) (by omega))
  rw [show getI (seg L 48 8) = s.count by rw [hs]; rfl] at HG7
  have HG8 := Lib.hid (fun (W : World) (hb : Below w.heap.size w W) => an_got A 512 c L 56 8 W (hr.ext hb) (by omega) (by omega) (by omega) (by omega))
  rw [show getI (seg L 56 8) = s.version by rw [hs]; rfl] at HG8
  have HSTR := Lib.hid hr.str
  obtain ⟨y, hy⟩ : ∃ y, y = bstr L := ⟨_, rfl⟩
  have hyl : y.toList = L := by rw [hy, bstr_list]
  have HYL := Lib.hid hyl
  have HST := Lib.hid (show ∀ W : World, Below w.heap.size w W → _ from fun W hb => (hr.ext hb).str)
  rw [← hy] at HST
  have HDG := Lib.hid (show decG L = if Vld s s.blocks ∧ encL s = L then (s, 0) else (zSp, 2) by unfold decG; rw [if_neg (by omega), hs])
  clear hs hy hyl HSTR hr hlen
  have HZ := Lib.hid ((Below.refl _ w).alloc (Nat.le_refl _) (.cells #[.int .i64 0, .int .i64 0, .int .i64 0, .int .i64 0, .int .i64 0, .int .i64 0, .int .i64 0, .int .i64 0, .int .i64 0] 25))
  by_cases hv : Vld s s.blocks
  · have HE := Lib.hid (an_Encode s hok hv)
    obtain ⟨sg, se, sb, sl, ss, sa, sr, sc, sv⟩ := s
    unfold spC at HE
    dsimp only at HE HG0 HG1 HG2 HG3 HG4 HG5 HG6 HG7 HG8
    go_enter Try.func15, Try.ntmps15
    go_wp2_with fail
    refine (HG0.out _ HZ.out).mono ?_
    rintro e w' ⟨rfl, rfl⟩
    go_wp2_with fail
    refine (HG1.out _ HZ.out).mono ?_
    rintro e w' ⟨rfl, rfl⟩
    go_wp2_with fail
    refine (HG2.out _ HZ.out).mono ?_
    rintro e w' ⟨rfl, rfl⟩
    go_wp2_with fail
    refine (HG3.out _ HZ.out).mono ?_
    rintro e w' ⟨rfl, rfl⟩
    go_wp2_with fail
    refine (HG4.out _ HZ.out).mono ?_
    rintro e w' ⟨rfl, rfl⟩
    go_wp2_with fail
    refine (HG5.out _ HZ.out).mono ?_
    rintro e w' ⟨rfl, rfl⟩
    go_wp2_with fail
    refine (HG6.out _ HZ.out).mono ?_
    rintro e w' ⟨rfl, rfl⟩
    go_wp2_with fail
    refine (HG7.out _ HZ.out).mono ?_
    rintro e w' ⟨rfl, rfl⟩
    go_wp2_with fail
    refine (HG8.out _ HZ.out).mono ?_
    rintro e w' ⟨rfl, rfl⟩
    go_wp2_with fail
    have HBX := Lib.hid (((Below.refl _ w).alloc (Nat.le_refl _) (.cells #[.int .i64 0, .int .i64 0, .int .i64 0, .int .i64 0, .int .i64 0, .int .i64 0, .int .i64 0, .int .i64 0, .int .i64 0] 25)).alloc (by rw [World.size_alloc]; omega) (.cells #[.int .i64 sg, .int .i64 se, .int .i64 sb, .int .i64 sl, .int .i64 ss, .int .i64 sa, .int .i64 sr, .int .i64 sc, .int .i64 sv] 25))
    obtain ⟨W, hW⟩ : ∃ W, W = (w.alloc (.cells #[.int .i64 0, .int .i64 0, .int .i64 0, .int .i64 0, .int .i64 0, .int .i64 0, .int .i64 0, .int .i64 0, .int .i64 0] 25)).alloc (.cells #[.int .i64 sg, .int .i64 se, .int .i64 sb, .int .i64 sl, .int .i64 ss, .int .i64 sa, .int .i64 sr, .int .i64 sc, .int .i64 sv] 25) := ⟨_, rfl⟩
    have hWq : W.heap[w.heap.size]? = some (.cells (spC zSp) 25 (0, 0)) := by rw [hW]; exact heap_alloc2_old _ _ _
    have hWs : W.heap[w.heap.size + 1]? = some (.cells (spC ⟨sg, se, sb, sl, ss, sa, sr, sc, sv⟩) 25 (0, 0)) := by rw [hW]; exact heap_alloc2_new _ _ _
    rw [← hW] at HBX ⊢
    have HWQ := Lib.hid hWq
    have HWS := Lib.hid hWs
    clear hW hWq hWs
    refine (HE.out W).mono ?_
    rintro e w5 ⟨g, rfl, hO, hB⟩
    have hq5 : w5.heap[w.heap.size]? = some (.cells (spC zSp) 25 (0, 0)) := (hB.block _ (lt_of_block HWQ.out)).trans HWQ.out
    have hs5 : w5.heap[w.heap.size + 1]? = some (.cells (spC ⟨sg, se, sb, sl, ss, sa, sr, sc, sv⟩) 25 (0, 0)) := (hB.block _ (lt_of_block HWS.out)).trans HWS.out
    have HB5 := Lib.hid (HBX.out.trans (hB.mono HBX.out.size))
    have h2 := HST.out w5 HB5.out
    have h1 := (hO.rdC (by omega)).str
    obtain ⟨x, hx⟩ : ∃ x, x = bstr (encL ⟨sg, se, sb, sl, ss, sa, sr, sc, sv⟩) := ⟨_, rfl⟩
    rw [← hx] at h1
    have hcq := cell9 hq5
    have hfq := free9 hq5
    have hcs := cell9 hs5
    unfold zSp at hcq
    dsimp only at hcq hcs
    have HQ5 := Lib.hid hq5
    by_cases heq : encL ⟨sg, se, sb, sl, ss, sa, sr, sc, sv⟩ = L
    · have HD := Lib.hid (show decG L = (⟨sg, se, sb, sl, ss, sa, sr, sc, sv⟩, 0) by rw [HDG.out, if_pos ⟨hv, heq⟩])
      have e1 : (x.toList == y.toList) = true := by rw [hx, HYL.out, bstr_list]; exact beq_iff_eq.2 heq
      have e2 : (x.toList != y.toList) = false := by rw [bne, e1]; rfl
      clear hO hB hq5 hs5 hx heq hv hok
      go_wp2
      (try simp only [Exit.inBlock, Exit.then])
      refine bodyPost_ret (results_cr2 rfl _ _ w.heap.size 25 (spC ⟨sg, se, sb, sl, ss, sa, sr, sc, sv⟩) (0, 0) _ rfl (row9 (s := ⟨sg, se, sb, sl, ss, sa, sr, sc, sv⟩) HQ5.out) Try.underlying25 rfl sz_sup) rfl ⟨by rw [HD.out]; rfl, below9 (s := ⟨sg, se, sb, sl, ss, sa, sr, sc, sv⟩) HB5.out (Nat.le_refl _)⟩
    · have HD := Lib.hid (show decG L = (zSp, 2) by rw [HDG.out, if_neg (fun h => heq h.2)])
      have e1 : (x.toList == y.toList) = false := by rw [hx, HYL.out, bstr_list]; exact beq_eq_false_iff_ne.2 heq
      have e2 : (x.toList != y.toList) = true := by rw [bne, e1]; rfl
      clear hO hB hq5 hs5 hx heq hv hok
      go_wp2
      (try simp only [Exit.inBlock, Exit.then])
      refine bodyPost_ret (results_cr2 rfl _ _ w.heap.size 25 (spC zSp) (0, 0) _ rfl (row9 (s := zSp) HQ5.out) Try.underlying25 rfl sz_sup) rfl ⟨by rw [HD.out]; rfl, below9 (s := zSp) HB5.out (Nat.le_refl _)⟩
  · have HE := Lib.hid (an_Encode_bad s hok hv)
    obtain ⟨sg, se, sb, sl, ss, sa, sr, sc, sv⟩ := s
    unfold spC at HE
    dsimp only at HE HG0 HG1 HG2 HG3 HG4 HG5 HG6 HG7 HG8
    go_enter Try.func15, Try.ntmps15
    go_wp2_with fail
    refine (HG0.out _ HZ.out).mono ?_
    rintro e w' ⟨rfl, rfl⟩
    go_wp2_with fail
    refine (HG1.out _ HZ.out).mono ?_
    rintro e w' ⟨rfl, rfl⟩
    go_wp2_with fail
    refine (HG2.out _ HZ.out).mono ?_
    rintro e w' ⟨rfl, rfl⟩
    go_wp2_with fail
    refine (HG3.out _ HZ.out).mono ?_
    rintro e w' ⟨rfl, rfl⟩
    go_wp2_with fail
    refine (HG4.out _ HZ.out).mono ?_
    rintro e w' ⟨rfl, rfl⟩
    go_wp2_with fail
    refine (HG5.out _ HZ.out).mono ?_
    rintro e w' ⟨rfl, rfl⟩
    go_wp2_with fail
    refine (HG6.out _ HZ.out).mono ?_
    rintro e w' ⟨rfl, rfl⟩
    go_wp2_with fail
    refine (HG7.out _ HZ.out).mono ?_
    rintro e w' ⟨rfl, rfl⟩
    go_wp2_with fail
    refine (HG8.out _ HZ.out).mono ?_
    rintro e w' ⟨rfl, rfl⟩
    go_wp2_with fail
    have HBX := Lib.hid (((Below.refl _ w).alloc (Nat.le_refl _) (.cells #[.int .i64 0, .int .i64 0, .int .i64 0, .int .i64 0, .int .i64 0, .int .i64 0, .int .i64 0, .int .i64 0, .int .i64 0] 25)).alloc (by rw [World.size_alloc]; omega) (.cells #[.int .i64 sg, .int .i64 se, .int .i64 sb, .int .i64 sl, .int .i64 ss, .int .i64 sa, .int .i64 sr, .int .i64 sc, .int .i64 sv] 25))
    obtain ⟨W, hW⟩ : ∃ W, W = (w.alloc (.cells #[.int .i64 0, .int .i64 0, .int .i64 0, .int .i64 0, .int .i64 0, .int .i64 0, .int .i64 0, .int .i64 0, .int .i64 0] 25)).alloc (.cells #[.int .i64 sg, .int .i64 se, .int .i64 sb, .int .i64 sl, .int .i64 ss, .int .i64 sa, .int .i64 sr, .int .i64 sc, .int .i64 sv] 25) := ⟨_, rfl⟩
    have hWq : W.heap[w.heap.size]? = some (.cells (spC zSp) 25 (0, 0)) := by rw [hW]; exact heap_alloc2_old _ _ _
    have hWs : W.heap[w.heap.size + 1]? = some (.cells (spC ⟨sg, se, sb, sl, ss, sa, sr, sc, sv⟩) 25 (0, 0)) := by rw [hW]; exact heap_alloc2_new _ _ _
    rw [← hW] at HBX ⊢
    have HWQ := Lib.hid hWq
    have HWS := Lib.hid hWs
    clear hW hWq hWs
    refine (HE.out W).mono ?_
    rintro e w5 ⟨rfl, hB⟩
    have hq5 : w5.heap[w.heap.size]? = some (.cells (spC zSp) 25 (0, 0)) := (hB.block _ (lt_of_block HWQ.out)).trans HWQ.out
    have HB5 := Lib.hid (HBX.out.trans (hB.mono HBX.out.size))
    have hcq := cell9 hq5
    have hfq := free9 hq5
    unfold zSp at hcq
    dsimp only at hcq
    have HQ5 := Lib.hid hq5
    have HD := Lib.hid (show decG L = (zSp, 2) by rw [HDG.out, if_neg (fun h => hv h.1)])
    clear hB hq5 hv hok
    go_wp2
    (try simp only [Exit.inBlock, Exit.then])
    refine bodyPost_ret (results_cr2 rfl _ _ w.heap.size 25 (spC zSp) (0, 0) _ rfl (row9 (s := zSp) HQ5.out) Try.underlying25 rfl sz_sup) rfl ⟨by rw [HD.out]; rfl, below9 (s := zSp) HB5.out (Nat.le_refl _)⟩
set_option maxHeartbeats 4000000 in
theorem rn_Decode (A : Option Addr) (n c : Nat) (L : List UInt8) (w : World) (hr : Rd w A n c L) : Calls Try.prog 16 #[.slice A n c] w fun e w' => e = .returned (.tuple #[.agg (spC (decG L).1), .int .i64 (decG L).2]) ∧ Below w.heap.size w w' := by
  have hlen := hr.len
  have hmx := hr.max
  by_cases h5 : n = 512
  rotate_left
  · have HD := Lib.hid (show decG L = (zSp, 61) by unfold decG; rw [if_pos (by omega)])
    rw [HD.out]
    have q1 : ((n : Int) != 512) = true := by simp; omega
    clear hr hlen
    go_enter Try.func16, Try.ntmps16
    go_wp2
    (try simp only [Exit.inBlock, Exit.then])
    exact bodyPost_ret (results_cr2 rfl _ _ w.heap.size 25 (spC zSp) (0, 0) _ rfl (heap_alloc_new w _) Try.underlying25 rfl sz_sup) rfl ⟨rfl, (Below.refl _ w).alloc (Nat.le_refl _) _⟩
  subst h5
  obtain ⟨s, hs⟩ : ∃ s, s = decS L := ⟨_, rfl⟩
  have hok : s.ok := by rw [hs]; exact decS_ok L
  have HR := Lib.hid hr
  have HG0 := Lib.hid (fun (W : World) (hb : Below w.heap.size w W) => rn_got A 512 c L 8 8 W (hr.ext hb) (by omega) (by omega) (by omega) (by omega))
  rw [show getI (seg L 8 8) = s.gen by rw [hs]; rfl] at HG0
  have HG1 := Lib.hid (fun (W : World) (hb : Below w.heap.size w W) => rn_got A 512 c L 16 8 W (hr.ext hb) (by omega) (by omega) (by omega) (by omega))
  rw [show getI (seg L 16 8) = s.epoch by rw [hs]; rfl] at HG1
  have HG2 := Lib.hid (fun (W : World) (hb : Below w.heap.size w W) => rn_got A 512 c L 24 4 W (hr.ext hb) (by omega) (by omega) (by omega) (by omega))
  rw [show getI (seg L 24 4) = s.blocks by rw [hs]; rfl] at HG2
  have HG3 := Lib.hid (fun (W : World) (hb : Below w.heap.size w W) => rn_got A 512 c L 28 4 W (hr.ext hb) (by omega) (by omega) (by omega) (by omega))
  rw [show getI (seg L 28 4) = s.log by rw [hs]; rfl] at HG3
  have HG4 := Lib.hid (fun (W : World) (hb : Below w.heap.size w W) => rn_got A 512 c L 44 4 W (hr.ext hb) (by omega) (by omega) (by omega) (by omega))
  rw [show getI (seg L 44 4) = s.root by rw [hs]; rfl] at HG4
  have HG5 := Lib.hid (fun (W : World) (hb : Below w.heap.size w W) => rn_got A 512 c L 48 8 W (hr.ext hb) (by omega) (by omega) (by omega) (by omega))
  rw [show getI (seg L 48 8) = s.count by rw [hs]; rfl] at HG5
  have HG6 := Lib.hid (fun (W : World) (hb : Below w.heap.size w W) => rn_got A 512 c L 56 8 W (hr.ext hb) (by omega) (by omega) (by omega) (by omega))
  rw [show getI (seg L 56 8) = s.version by rw [hs]; rfl] at HG6
  have HG7 := Lib.hid (fun (W : World) (hb : Below w.heap.size w W) => rn_got A 512 c L 32 8 W (hr.ext hb) (by omega) (by omega) (by omega) (by omega))
  rw [show getI (seg L 32 8) = s.stamp by rw [hs]; rfl] at HG7
  have HG8 := Lib.hid (fun (W : World) (hb : Below w.heap.size w W) => rn_got A 512 c L 40 4 W (hr.ext hb) (by omega) (by omega) (by omega) (by omega))
  rw [show getI (seg L 40 4) = s.at_ by rw [hs]; rfl] at HG8
  have HSTR := Lib.hid hr.str
  obtain ⟨y, hy⟩ : ∃ y, y = bstr L := ⟨_, rfl⟩
  have hyl : y.toList = L := by rw [hy, bstr_list]
  have HYL := Lib.hid hyl
  have HST := Lib.hid (show ∀ W : World, Below w.heap.size w W → _ from fun W hb => (hr.ext hb).str)
  rw [← hy] at HST
  have HDG := Lib.hid (show decG L = if Vld s s.blocks ∧ encL s = L then (s, 0) else (zSp, 2) by unfold decG; rw [if_neg (by omega), hs])
  clear hs hy hyl HSTR hr hlen
  have HZ := Lib.hid ((Below.refl _ w).alloc (Nat.le_refl _) (.cells #[.int .i64 0, .int .i64 0, .int .i64 0, .int .i64 0, .int .i64 0, .int .i64 0, .int .i64 0, .int .i64 0, .int .i64 0] 25))
  by_cases hv : Vld s s.blocks
  · have HE := Lib.hid (rn_Encode s hok hv)
    obtain ⟨sg, se, sb, sl, ss, sa, sr, sc, sv⟩ := s
    unfold spC at HE
    dsimp only at HE HG0 HG1 HG2 HG3 HG4 HG5 HG6 HG7 HG8
    have HZ2 := Lib.hid (HZ.out.alloc (by rw [World.size_alloc]; omega) (.cells #[.int .i64 sg, .int .i64 se, .int .i64 sb, .int .i64 sl, .int .i64 0, .int .i64 0, .int .i64 sr, .int .i64 sc, .int .i64 sv] 25))
    go_enter Try.func16, Try.ntmps16
    go_wp2_with fail
    refine (HG0.out _ HZ.out).mono ?_
    rintro e w' ⟨rfl, rfl⟩
    go_wp2_with fail
    refine (HG1.out _ HZ.out).mono ?_
    rintro e w' ⟨rfl, rfl⟩
    go_wp2_with fail
    refine (HG2.out _ HZ.out).mono ?_
    rintro e w' ⟨rfl, rfl⟩
    go_wp2_with fail
    refine (HG3.out _ HZ.out).mono ?_
    rintro e w' ⟨rfl, rfl⟩
    go_wp2_with fail
    refine (HG4.out _ HZ.out).mono ?_
    rintro e w' ⟨rfl, rfl⟩
    go_wp2_with fail
    refine (HG5.out _ HZ.out).mono ?_
    rintro e w' ⟨rfl, rfl⟩
    go_wp2_with fail
    refine (HG6.out _ HZ.out).mono ?_
    rintro e w' ⟨rfl, rfl⟩
    go_wp2_with fail
    refine (HG7.out _ HZ2.out).mono ?_
    rintro e w' ⟨rfl, rfl⟩
    go_wp2_with fail
    refine (HG8.out _ HZ2.out).mono ?_
    rintro e w' ⟨rfl, rfl⟩
    go_wp2_with fail
    have HBX := Lib.hid (((Below.refl _ w).alloc (Nat.le_refl _) (.cells #[.int .i64 0, .int .i64 0, .int .i64 0, .int .i64 0, .int .i64 0, .int .i64 0, .int .i64 0, .int .i64 0, .int .i64 0] 25)).alloc (by rw [World.size_alloc]; omega) (.cells #[.int .i64 sg, .int .i64 se, .int .i64 sb, .int .i64 sl, .int .i64 ss, .int .i64 sa, .int .i64 sr, .int .i64 sc, .int .i64 sv] 25))
    obtain ⟨W, hW⟩ : ∃ W, W = (w.alloc (.cells #[.int .i64 0, .int .i64 0, .int .i64 0, .int .i64 0, .int .i64 0, .int .i64 0, .int .i64 0, .int .i64 0, .int .i64 0] 25)).alloc (.cells #[.int .i64 sg, .int .i64 se, .int .i64 sb, .int .i64 sl, .int .i64 ss, .int .i64 sa, .int .i64 sr, .int .i64 sc, .int .i64 sv] 25) := ⟨_, rfl⟩
    have hWq : W.heap[w.heap.size]? = some (.cells (spC zSp) 25 (0, 0)) := by rw [hW]; exact heap_alloc2_old _ _ _
    have hWs : W.heap[w.heap.size + 1]? = some (.cells (spC ⟨sg, se, sb, sl, ss, sa, sr, sc, sv⟩) 25 (0, 0)) := by rw [hW]; exact heap_alloc2_new _ _ _
    rw [← hW] at HBX ⊢
    have HWQ := Lib.hid hWq
    have HWS := Lib.hid hWs
    clear hW hWq hWs
    refine (HE.out W).mono ?_
    rintro e w5 ⟨g, rfl, hO, hB⟩
    have hq5 : w5.heap[w.heap.size]? = some (.cells (spC zSp) 25 (0, 0)) := (hB.block _ (lt_of_block HWQ.out)).trans HWQ.out
    have hs5 : w5.heap[w.heap.size + 1]? = some (.cells (spC ⟨sg, se, sb, sl, ss, sa, sr, sc, sv⟩) 25 (0, 0)) := (hB.block _ (lt_of_block HWS.out)).trans HWS.out
    have HB5 := Lib.hid (HBX.out.trans (hB.mono HBX.out.size))
    have h2 := HST.out w5 HB5.out
    have h1 := (hO.rdC (by omega)).str
    obtain ⟨x, hx⟩ : ∃ x, x = bstr (encL ⟨sg, se, sb, sl, ss, sa, sr, sc, sv⟩) := ⟨_, rfl⟩
    rw [← hx] at h1
    have hcq := cell9 hq5
    have hfq := free9 hq5
    have hcs := cell9 hs5
    unfold zSp at hcq
    dsimp only at hcq hcs
    have HQ5 := Lib.hid hq5
    by_cases heq : encL ⟨sg, se, sb, sl, ss, sa, sr, sc, sv⟩ = L
    · have HD := Lib.hid (show decG L = (⟨sg, se, sb, sl, ss, sa, sr, sc, sv⟩, 0) by rw [HDG.out, if_pos ⟨hv, heq⟩])
      have e1 : (x.toList == y.toList) = true := by rw [hx, HYL.out, bstr_list]; exact beq_iff_eq.2 heq
      have e2 : (x.toList != y.toList) = false := by rw [bne, e1]; rfl
      clear hO hB hq5 hs5 hx heq hv hok
      go_wp2
      (try simp only [Exit.inBlock, Exit.then])
      refine bodyPost_ret (results_cr2 rfl _ _ w.heap.size 25 (spC ⟨sg, se, sb, sl, ss, sa, sr, sc, sv⟩) (0, 0) _ rfl (row9 (s := ⟨sg, se, sb, sl, ss, sa, sr, sc, sv⟩) HQ5.out) Try.underlying25 rfl sz_sup) rfl ⟨by rw [HD.out]; rfl, below9 (s := ⟨sg, se, sb, sl, ss, sa, sr, sc, sv⟩) HB5.out (Nat.le_refl _)⟩
    · have HD := Lib.hid (show decG L = (zSp, 2) by rw [HDG.out, if_neg (fun h => heq h.2)])
      have e1 : (x.toList == y.toList) = false := by rw [hx, HYL.out, bstr_list]; exact beq_eq_false_iff_ne.2 heq
      have e2 : (x.toList != y.toList) = true := by rw [bne, e1]; rfl
      clear hO hB hq5 hs5 hx heq hv hok
      go_wp2
      (try simp only [Exit.inBlock, Exit.then])
      refine bodyPost_ret (results_cr2 rfl _ _ w.heap.size 25 (spC zSp) (0, 0) _ rfl (row9 (s := zSp) HQ5.out) Try.underlying25 rfl sz_sup) rfl ⟨by rw [HD.out]; rfl, below9 (s := zSp) HB5.out (Nat.le_refl _)⟩
  · have HE := Lib.hid (rn_Encode_bad s hok hv)
    obtain ⟨sg, se, sb, sl, ss, sa, sr, sc, sv⟩ := s
    unfold spC at HE
    dsimp only at HE HG0 HG1 HG2 HG3 HG4 HG5 HG6 HG7 HG8
    have HZ2 := Lib.hid (HZ.out.alloc (by rw [World.size_alloc]; omega) (.cells #[.int .i64 sg, .int .i64 se, .int .i64 sb, .int .i64 sl, .int .i64 0, .int .i64 0, .int .i64 sr, .int .i64 sc, .int .i64 sv] 25))
    go_enter Try.func16, Try.ntmps16
    go_wp2_with fail
    refine (HG0.out _ HZ.out).mono ?_
    rintro e w' ⟨rfl, rfl⟩
    go_wp2_with fail
    refine (HG1.out _ HZ.out).mono ?_
    rintro e w' ⟨rfl, rfl⟩
    go_wp2_with fail
    refine (HG2.out _ HZ.out).mono ?_
    rintro e w' ⟨rfl, rfl⟩
    go_wp2_with fail
    refine (HG3.out _ HZ.out).mono ?_
    rintro e w' ⟨rfl, rfl⟩
    go_wp2_with fail
    refine (HG4.out _ HZ.out).mono ?_
    rintro e w' ⟨rfl, rfl⟩
    go_wp2_with fail
    refine (HG5.out _ HZ.out).mono ?_
    rintro e w' ⟨rfl, rfl⟩
    go_wp2_with fail
    refine (HG6.out _ HZ.out).mono ?_
    rintro e w' ⟨rfl, rfl⟩
    go_wp2_with fail
    refine (HG7.out _ HZ2.out).mono ?_
    rintro e w' ⟨rfl, rfl⟩
    go_wp2_with fail
    refine (HG8.out _ HZ2.out).mono ?_
    rintro e w' ⟨rfl, rfl⟩
    go_wp2_with fail
    have HBX := Lib.hid (((Below.refl _ w).alloc (Nat.le_refl _) (.cells #[.int .i64 0, .int .i64 0, .int .i64 0, .int .i64 0, .int .i64 0, .int .i64 0, .int .i64 0, .int .i64 0, .int .i64 0] 25)).alloc (by rw [World.size_alloc]; omega) (.cells #[.int .i64 sg, .int .i64 se, .int .i64 sb, .int .i64 sl, .int .i64 ss, .int .i64 sa, .int .i64 sr, .int .i64 sc, .int .i64 sv] 25))
    obtain ⟨W, hW⟩ : ∃ W, W = (w.alloc (.cells #[.int .i64 0, .int .i64 0, .int .i64 0, .int .i64 0, .int .i64 0, .int .i64 0, .int .i64 0, .int .i64 0, .int .i64 0] 25)).alloc (.cells #[.int .i64 sg, .int .i64 se, .int .i64 sb, .int .i64 sl, .int .i64 ss, .int .i64 sa, .int .i64 sr, .int .i64 sc, .int .i64 sv] 25) := ⟨_, rfl⟩
    have hWq : W.heap[w.heap.size]? = some (.cells (spC zSp) 25 (0, 0)) := by rw [hW]; exact heap_alloc2_old _ _ _
    have hWs : W.heap[w.heap.size + 1]? = some (.cells (spC ⟨sg, se, sb, sl, ss, sa, sr, sc, sv⟩) 25 (0, 0)) := by rw [hW]; exact heap_alloc2_new _ _ _
    rw [← hW] at HBX ⊢
    have HWQ := Lib.hid hWq
    have HWS := Lib.hid hWs
    clear hW hWq hWs
    refine (HE.out W).mono ?_
    rintro e w5 ⟨rfl, hB⟩
    have hq5 : w5.heap[w.heap.size]? = some (.cells (spC zSp) 25 (0, 0)) := (hB.block _ (lt_of_block HWQ.out)).trans HWQ.out
    have HB5 := Lib.hid (HBX.out.trans (hB.mono HBX.out.size))
    have hcq := cell9 hq5
    have hfq := free9 hq5
    unfold zSp at hcq
    dsimp only at hcq
    have HQ5 := Lib.hid hq5
    have HD := Lib.hid (show decG L = (zSp, 2) by rw [HDG.out, if_neg (fun h => hv h.1)])
    clear hB hq5 hv hok
    go_wp2
    (try simp only [Exit.inBlock, Exit.then])
    refine bodyPost_ret (results_cr2 rfl _ _ w.heap.size 25 (spC zSp) (0, 0) _ rfl (row9 (s := zSp) HQ5.out) Try.underlying25 rfl sz_sup) rfl ⟨by rw [HD.out]; rfl, below9 (s := zSp) HB5.out (Nat.le_refl _)⟩
end Go.Proofs.Ytggoaelbglhehaa
/- The laws' own helpers over the device: lives. -/
set_option linter.unusedVariables false
set_option linter.unusedSimpArgs false
set_option maxRecDepth 100000
namespace Go.Proofs.Ytggoaelbglhehaa
open Go.RowKit
def newD (n : Nat) : DS := ⟨n, List.replicate (n * 512) 0, [], 0, false, false, 0, 0, 0⟩
theorem IsV.ofNew {w : World} {b g n : Nat} (h : IsDev w b g n (List.replicate (n * 512) 0) (.slice none 0 0) 0 false false 0 0 0) : IsV w b g (.slice none 0 0) (newD n) :=
  ⟨h, ⟨PdOk.nil _, World.ownsRow_nil _ _ _ _⟩, fun k hk => by cases hk⟩
def fiveL : List UInt8 := List.replicate 512 5
theorem fiveL_len : fiveL.length = 512 := List.length_replicate
def zM : List UInt8 := List.replicate (64 * 512) 0
theorem zM_len : zM.length = 64 * 512 := List.length_replicate
def liveM : List UInt8 := splice zM (63 * 512) fiveL
def newD64 : DS := ⟨64, zM, [], 0, false, false, 0, 0, 0⟩
def wrD64 : DS := ⟨64, zM, [⟨63, fiveL⟩], 0, false, false, 0, 1, 0⟩
def liveD : DS := ⟨64, liveM, [], 0, false, false, 0, 1, 1⟩
theorem newD_64 : newD 64 = newD64 := rfl
theorem live_wr : wrD newD64 63 fiveL = (0, wrD64) := by
  unfold wrD
  rw [if_neg (by show ¬ ¬ ((0 : Int) ≤ 63 ∧ (63 : Int) < ((64 : Nat) : Int)); decide), if_neg (fun h => h fiveL_len)]
  rfl
theorem live_fl : flD wrD64 = (0, liveD) := by
  have h : fiveL.take 512 = fiveL := List.take_of_length_le (by rw [fiveL_len]; exact Nat.le_refl _)
  have h2 : layA (fun _ => 512) 0 [⟨63, fiveL⟩] zM = liveM := by
    show splice zM (63 * 512) (fiveL.take 512) = _
    rw [h]; rfl
  unfold flD
  rw [show actD wrD64 = (true, wrD64) from rfl, if_pos rfl]
  show (0, (⟨64, layA (fun _ => 512) 0 [⟨63, fiveL⟩] zM, [], 0, false, false, 0, 1, 1⟩ : DS)) = _
  rw [h2]; rfl
theorem live_raw : blkM liveM 63 = fiveL := by
  unfold blkM liveM splice
  rw [List.drop_left' (by rw [List.length_take, zM_len]; decide), List.take_left' fiveL_len]
end Go.Proofs.Ytggoaelbglhehaa
/- The laws' own helpers over the device: lives, its walk. -/
set_option linter.unusedVariables false
set_option linter.unusedSimpArgs false
set_option maxRecDepth 100000
namespace Go.Proofs.Ytggoaelbglhehaa
open Go.RowKit
end Go.Proofs.Ytggoaelbglhehaa
/- Words on memory: a slice of ints that the call itself made, and append onto it. -/
set_option linter.unusedVariables false
set_option linter.unusedSimpArgs false
namespace Go.Proofs.Ytggoaelbglhehaa
open Go.RowKit
theorem info_int : (Try.prog.info? 3).map (fun i => (i.zero, i.size, i.bytes)) = some (some (.int .i64 0), 1, 8) := by kernel_rfl
/-- v is a slice of ints in a block from base on, unfrozen, that holds l (or nil and l empty). -/
def OwnI (w : World) (base : Nat) (v : Value) (n : Nat) (l : List Int) : Prop := w.ownsRow base 3 1 v n (iv_ l)
theorem OwnI.len {w : World} {base n : Nat} {v : Value} {l : List Int} (h : OwnI w base v n l) : l.length = n := by
  have := h.1; rwa [iv_length, Nat.mul_one] at this
theorem OwnI.nil (w : World) (base : Nat) : OwnI w base (.slice none 0 0) 0 [] := World.ownsRow_nil w base _ _
theorem OwnI.mono {w : World} {base base' n : Nat} {v : Value} {l : List Int} (h : OwnI w base v n l) (hb : base' ≤ base) : OwnI w base' v n l := by
  refine ⟨h.1, ?_⟩
  rcases h.2 with h | ⟨g, cap, cur, h1, h2, h3⟩
  · exact .inl h
  · exact .inr ⟨g, cap, cur, h1, Nat.le_trans hb h2, h3⟩
theorem OwnI.only {w w' : World} {base n : Nat} {v : Value} {l : List Int} {S : List Nat} (h : OwnI w base v n l) (hw : Only S w w') (hs : ∀ k ∈ S, k < base) : OwnI w' base v n l := by
  refine ⟨h.1, ?_⟩
  rcases h.2 with h | ⟨g, cap, cur, h1, h2, h3, h4⟩
  · exact .inl h
  · exact .inr ⟨g, cap, cur, h1, h2, (hw.blk g (lt_of_block h3) (fun hm => by have := hs g hm; omega)).trans h3, h4⟩
theorem OwnI.ext {w w' : World} {base n : Nat} {v : Value} {l : List Int} (h : OwnI w base v n l) (hb : Below w.heap.size w w') : OwnI w' base v n l := h.only (Only.of_below [] hb) (by simp)
theorem OwnI.alloc {w : World} {base n : Nat} {v : Value} {l : List Int} (h : OwnI w base v n l) (o : Obj) : OwnI (w.alloc o) base v n l := World.ownsRow.alloc h o
theorem OwnI.drewN {w : World} {base n : Nat} {v : Value} {l : List Int} (h : OwnI w base v n l) (k : Nat) : OwnI (w.drewN k) base v n l := h
theorem OwnI.slice {w : World} {base n : Nat} {v : Value} {l : List Int} (h : OwnI w base v n l) : ∃ A c, v = .slice A n c := by
  rcases h.2 with ⟨rfl, h0⟩ | ⟨g, cap, cur, rfl, _⟩
  · subst h0; exact ⟨none, 0, rfl⟩
  · exact ⟨_, cap, rfl⟩
theorem OwnI.rd {w : World} {base n : Nat} {v : Value} {l : List Int} (D : List Nat) (h : OwnI w base v n l) (hm : n ≤ 140737488355328) (hD : ∀ k ∈ D, k < base) : ∃ A c, v = .slice A n c ∧ RdI D w A n c l := by
  have hl := h.len
  rcases h.2 with ⟨rfl, h0⟩ | ⟨g, cap, cur, rfl, hb, hh, h1, h2, h3, h4⟩
  · subst h0
    exact ⟨none, 0, rfl, hl, Nat.le_refl _, by omega, fun hp => absurd hp (by omega)⟩
  · refine ⟨_, cap, rfl, hl, h1, hm, fun hp => ⟨g, 0, rfl, fun hm => by have := hD g hm; omega, fun j hj => ?_⟩⟩
    have := World.ownsRow.cells h (g := g) rfl j _ (iv_get l j (by omega))
    rwa [Addr.add_mid] at this
theorem OwnI.rdA {w : World} {base n cap : Nat} {A : Option Addr} {l : List Int} (D : List Nat) (h : OwnI w base (.slice A n cap) n l) (hm : n ≤ 140737488355328) (hD : ∀ k ∈ D, k < base) : RdI D w A n cap l := by
  obtain ⟨A9, c9, he, hr⟩ := h.rd D hm hD
  injection he with h1 h2 h3
  subst h1 h3
  exact hr
theorem OwnI.form {w : World} {base n : Nat} {v : Value} {l : List Int} (h : OwnI w base v n l) (hp : 0 < n) : ∃ g c, v = .slice (some ⟨g, 0, none⟩) n c ∧ base ≤ g ∧ g < w.heap.size := by
  rcases h.2 with ⟨_, h0⟩ | ⟨g, cap, cur, rfl, hb, hh, _⟩
  · omega
  · exact ⟨g, cap, rfl, hb, lt_of_block hh⟩
theorem RdI.lit (D : List Nat) (w : World) (l : List Int) (n : Nat) (hn : l.length = n) (hm : n ≤ 140737488355328) (hD : ∀ k ∈ D, k < w.heap.size) (fr : Nat × Nat := (0, 0)) : RdI D (w.alloc (.cells (iv_ l).toArray 3 fr)) (some ⟨w.heap.size, 0, none⟩) n n l :=
  ⟨hn, Nat.le_refl _, hm, fun _ => ⟨_, _, rfl, fun hm => by have := hD _ hm; omega, fun j hj => by
    rw [cell_of_row _ _ _ _ _ _ (heap_alloc_new w _)]
    simpa using iv_get l j (by omega)⟩⟩
section
variable {ops : Array Oper} {rest : List Oper} {o : Oper} {a : Act} {Q : Exit → Act → World → Prop}
end
end Go.Proofs.Ytggoaelbglhehaa
/- Words for walks by hand: one operation of a plain region whose run is told by an equation. -/
set_option linter.unusedVariables false
set_option linter.unusedSimpArgs false
namespace Go.Proofs.Ytggoaelbglhehaa
open Go.RowKit
section
variable {P : Program} {ops : Array Oper} {rest : List Oper} {o : Oper} {a : Act} {w w' : World} {Q : Exit → Act → World → Prop}
theorem exec_load (ty : TypeId) (x : Operand) (p v : Value) (ho : o.op = .load ty x) (h0 : a.eval x = p) (hrun : (Instr.loadAt ty p).run P w = .ok v w) : (execOp a.eval o).run P w = .ok (.value v) w := by
  unfold execOp
  simp only [ho, h0, Sem.run_bind, hrun, Result.andThen_ok, Sem.run_pure]
theorem exec_alloc (ty : TypeId) (v : Value) (ho : o.op = .alloc ty) (hrun : (Instr.alloc ty true (.tuple #[])).run P w = .ok v w') : (execOp a.eval o).run P w = .ok (.value v) w' := by
  unfold execOp
  simp only [ho, Sem.run_bind, hrun, Result.andThen_ok, Sem.run_pure]
theorem exec_store (ty : TypeId) (x y : Operand) (p v : Value) (ho : o.op = .store ty x y) (h0 : a.eval x = p) (h1 : a.eval y = v) (hrun : (Instr.storeAt ty p v).run P w = .ok () w') : (execOp a.eval o).run P w = .ok .skip w' := by
  unfold execOp
  simp only [ho, h0, h1, Sem.run_bind, hrun, Result.andThen_ok, Sem.run_pure]
/-- an operation that yields a value -/
theorem wpl_val (hg : o.guard = none) (v : Value) (w' : World) (hrun : (execOp a.eval o).run P w = .ok (.value v) w') (h : wpList P ops Q rest (a.put o.dst v) w') : wpList P ops Q (o :: rest) a w := by
  refine wpList_plain hg fun K hK => ?_
  unfold Oper.wp
  rw [hrun, Oper.upon_value]
  exact hK _ _ h
theorem wpl_load (hg : o.guard = none) (ty : TypeId) (x : Operand) (p v : Value) (ho : o.op = .load ty x) (h0 : a.eval x = p) (hrun : (Instr.loadAt ty p).run P w = .ok v w)
    (h : wpList P ops Q rest (a.put o.dst v) w) : wpList P ops Q (o :: rest) a w := wpl_val hg v w (exec_load ty x p v ho h0 hrun) h
theorem wpl_alloc (hg : o.guard = none) (ty : TypeId) (v : Value) (w' : World) (ho : o.op = .alloc ty) (hrun : (Instr.alloc ty true (.tuple #[])).run P w = .ok v w')
    (h : wpList P ops Q rest (a.put o.dst v) w') : wpList P ops Q (o :: rest) a w := wpl_val hg v w' (exec_alloc ty v ho hrun) h
theorem wpl_store (hg : o.guard = none) (ty : TypeId) (x y : Operand) (p v : Value) (w' : World) (ho : o.op = .store ty x y) (h0 : a.eval x = p) (h1 : a.eval y = v) (hrun : (Instr.storeAt ty p v).run P w = .ok () w')
    (h : wpList P ops Q rest (a.put o.dst undef) w') : wpList P ops Q (o :: rest) a w := by
  refine wpList_plain hg fun K hK => ?_
  unfold Oper.wp
  rw [exec_store ty x y p v ho h0 h1 hrun]
  exact hK _ _ h
end
end Go.Proofs.Ytggoaelbglhehaa
/- The device's Pending: the numbers of the writes of the cache. -/
set_option linter.unusedVariables false
set_option linter.unusedSimpArgs false
set_option maxRecDepth 100000
namespace Go.Proofs.Ytggoaelbglhehaa
open Go.RowKit
def zPd : Array Value := #[.int .i64 0] ++ Array.replicate 512 (.int .u8 0)
theorem zPd_size : zPd.size = 513 := by simp [zPd]
theorem al_pd (W : World) : (Instr.alloc 105 true (.tuple #[])).run Try.prog W = .ok (.pointer (some ⟨W.heap.size, 0, none⟩)) (W.alloc (.cells zPd 105)) := by
  have hz := zero_pd W
  rw [show (#[Value.int .i64 0] ++ Array.replicate 512 (Value.int .u8 0)) = zPd from rfl] at hz
  have hn : (newVar 105 (.agg zPd)).run Try.prog W = .ok ⟨W.heap.size, 0, none⟩ (W.alloc (.cells zPd 105)) := rfl
  simp only [Instr.alloc, Sem.run_bind, hz, hn, Result.andThen_ok, Sem.run_pure]
/-- the variable of a range over the cache: made, and the element laid there -/
theorem put_pd (W : World) (x : Pd) (hx : x.data.length = 512) : ∃ W2, (Instr.storeAt 105 (.pointer (some ⟨W.heap.size, 0, none⟩)) (.agg (pc x).toArray)).run Try.prog (W.alloc (.cells zPd 105)) = .ok () W2 ∧
    Below W.heap.size W W2 ∧ W2.cell? ⟨W.heap.size, 0, none⟩ = some (.int .i64 ((x.num : Nat) : Int)) ∧ W2.heap.size = W.heap.size + 1 := by
  have hl := pc_length hx
  have hth : (W.alloc (.cells zPd 105)).there W.heap.size 0 (pc x).toArray.size := by
    have h := there_of_row (b := W.heap.size) (w := W.alloc (.cells zPd 105)) (cs := zPd) (t := 105) (heap_alloc_new W _)
    rw [zPd_size] at h
    rw [show (pc x).toArray.size = 513 by rw [List.size_toArray, hl]]; exact h
  have hsz : (Try.prog.info? 105).map (·.size) = some (pc x).toArray.size := by
    rw [List.size_toArray, hl]
    obtain ⟨i0, hi, hzz⟩ := Option.map_eq_some_iff.1 info_pd
    simp only [Prod.mk.injEq] at hzz
    rw [hi]; simp [hzz.2.1]
  refine ⟨_, run_storeAt_mid _ W.heap.size 0 105 _ hth hsz (all_oneCell_toArray (fun u hu => pcs_one [x] u (by simpa [pcs] using hu))), ?_, ?_, ?_⟩
  · exact below_setCells (Nat.le_refl _) _ _ ((Below.refl _ W).alloc (Nat.le_refl _) _)
  · have := World.rangeAt_setCells_same (W.alloc (.cells zPd 105)) W.heap.size 0 (pc x) (by rw [← List.size_toArray]; exact hth) 0 (.int .i64 ((x.num : Nat) : Int)) rfl
    simpa using this
  · rw [size_setCells]; simp
def nums (C : List Pd) : List Int := C.map fun x => ((x.num : Nat) : Int)
theorem nums_len (C : List Pd) : (nums C).length = C.length := by simp [nums]
theorem OwnP.range {w : World} {base n q g c : Nat} {C : List Pd} (h : OwnP w base n (.slice (some ⟨g, 0, none⟩) q c) q C) (j : Nat) (hj : j < q) : w.rangeAt g (j * 513) (pc (C.getD j default)) := by
  have hl := h.len
  have hd := (h.1.get j (by omega)).2
  intro i u hu
  have hi : i < 513 := by
    rcases Nat.lt_or_ge i 513 with h | h
    · exact h
    · rw [List.getElem?_eq_none (by rw [pc_length hd]; exact h)] at hu; cases hu
  have := World.ownsRow.cells h.2 (g := g) rfl (j * 513 + i) u (by rw [pcs_get C j i h.1 (by omega) hi, hu])
  rwa [Addr.add_mid, Nat.zero_add] at this
end Go.Proofs.Ytggoaelbglhehaa
/- Words on memory: a frame of rows, each in a block of its own, beside the device's. -/
set_option linter.unusedVariables false
set_option linter.unusedSimpArgs false
namespace Go.Proofs.Ytggoaelbglhehaa
open Go.RowKit
/-- The blocks of R lie there, apart from one another and from those of S. -/
structure Kp (w : World) (S : List Nat) (R : List (Nat × Obj)) : Prop where
  all : ∀ p ∈ R, w.heap[p.1]? = some p.2
  out : ∀ p ∈ R, p.1 ∉ S
  nd : (R.map Prod.fst).Nodup
theorem Kp.nil (w : World) (S : List Nat) : Kp w S [] := ⟨by simp, by simp, by simp⟩
section
variable {w w' : World} {S S' : List Nat} {R : List (Nat × Obj)}
theorem Kp.get (h : Kp w S R) (i : Nat) {p : Nat × Obj} (hi : R[i]? = some p) : w.heap[p.1]? = some p.2 := h.all p (List.mem_of_getElem? hi)
theorem Kp.apart (h : Kp w S R) (i : Nat) {p : Nat × Obj} (hi : R[i]? = some p) : p.1 ∉ S := h.out p (List.mem_of_getElem? hi)
theorem Kp.lt (h : Kp w S R) (i : Nat) {p : Nat × Obj} (hi : R[i]? = some p) : p.1 < w.heap.size := lt_of_block (h.get i hi)
theorem Kp.fr (h : Kp w S R) (f : Fr S S' w w') : Kp w' S' R :=
  ⟨fun p hp => (f.only.blk p.1 (lt_of_block (h.all p hp)) (h.out p hp)).trans (h.all p hp), fun p hp => (f.apart (lt_of_block (h.all p hp)) (h.out p hp)).2, h.nd⟩
theorem Kp.below (h : Kp w S R) (hb : Below w.heap.size w w') : Kp w' S R := h.fr (Fr.below S hb)
theorem Kp.drewN (h : Kp w S R) (n : Nat) : Kp (w.drewN n) S R := h.fr ((Fr.refl S w).drew n)
/-- a new block beside them -/
theorem Kp.add (h : Kp w S R) (f : Fr S S' w w') {k : Nat} {o : Obj} (hk : w.heap.size ≤ k) (hS : k ∉ S') (ho : w'.heap[k]? = some o) : Kp w' S' ((k, o) :: R) := by
  have h2 := h.fr f
  refine ⟨fun p hp => ?_, fun p hp => ?_, ?_⟩
  · rcases List.mem_cons.1 hp with rfl | hp
    · exact ho
    · exact h2.all p hp
  · rcases List.mem_cons.1 hp with rfl | hp
    · exact hS
    · exact h2.out p hp
  · rw [List.map_cons, List.nodup_cons]
    refine ⟨fun hm => ?_, h2.nd⟩
    obtain ⟨p, hp, he⟩ := List.mem_map.1 hm
    have := lt_of_block (h.all p hp)
    rw [he] at this
    have : k < w.heap.size := this
    omega
theorem Kp.new (h : Kp w S R) (hb : Below w.heap.size w w') {k : Nat} {o : Obj} (hk : w.heap.size ≤ k) (hS : ∀ s ∈ S, s < w.heap.size) (ho : w'.heap[k]? = some o) : Kp w' S ((k, o) :: R) :=
  h.add (Fr.below S hb) hk (fun hm => by have := hS k hm; omega) ho
/-- one of them is changed -/
theorem Kp.upd (h : Kp w S R) (i : Nat) {k : Nat} {o o' : Obj} (hi : R[i]? = some (k, o)) (hw : Only [k] w w') (ho : w'.heap[k]? = some o') : Kp w' S (R.set i (k, o')) := by
  have hil : i < R.length := (List.getElem?_eq_some_iff.1 hi).1
  have hmap : (R.set i (k, o')).map Prod.fst = R.map Prod.fst := by
    apply List.ext_getElem?
    intro j
    rw [List.getElem?_map, List.getElem?_map, List.getElem?_set]
    by_cases hij : i = j
    · subst hij; rw [if_pos rfl, if_pos hil, hi]; rfl
    · rw [if_neg hij]
  refine ⟨fun p hp => ?_, fun p hp => ?_, by rw [hmap]; exact h.nd⟩
  · obtain ⟨j, hj⟩ := List.mem_iff_getElem?.1 hp
    rw [List.getElem?_set] at hj
    by_cases hij : i = j
    · subst hij; rw [if_pos rfl, if_pos hil] at hj
      injection hj with hj; subst hj; exact ho
    · rw [if_neg hij] at hj
      have h1 := h.get j hj
      refine (hw.blk p.1 (lt_of_block h1) ?_).trans h1
      simp only [List.mem_singleton]
      intro e
      have h2 : (R.map Prod.fst)[i]? = some k := by rw [List.getElem?_map, hi]; rfl
      have h3 : (R.map Prod.fst)[j]? = some k := by rw [List.getElem?_map, hj, ← e]; rfl
      exact hij ((List.getElem?_inj (by simpa using hil) h.nd).1 (h2.trans h3.symm))
  · obtain ⟨j, hj⟩ := List.mem_iff_getElem?.1 hp
    rw [List.getElem?_set] at hj
    by_cases hij : i = j
    · subst hij; rw [if_pos rfl, if_pos hil] at hj
      injection hj with hj; subst hj; exact h.apart i (p := (k, o)) hi
    · rw [if_neg hij] at hj
      exact h.apart j hj
/-- what lies beside is as it was, where one of them is changed -/
theorem Kp.frK (h : Kp w S R) (i : Nat) {k : Nat} {o : Obj} (hi : R[i]? = some (k, o)) (hw : Only [k] w w') (hS : ∀ s ∈ S, s < w.heap.size) : ∀ s ∈ S, w'.heap[s]? = w.heap[s]? := fun s hs => hw.blk s (hS s hs) (by
  simp only [List.mem_singleton]
  intro e
  exact h.apart i hi (e ▸ hs))
end
/-! ### rows of bytes, rows of ints -/
def RowT (t : TypeId) (o : Obj) (n c : Nat) (vs : List Value) : Prop := ∃ cur : Array Value, o = .cells cur t (0, 0) ∧ vs.length = n ∧ n ≤ c ∧ c ≤ maxLen ∧ cur.size = c ∧ cur.toList.take n = vs
def RowB (o : Obj) (n c : Nat) (l : List UInt8) : Prop := RowT 5 o n c (bv l)
def RowN (o : Obj) (n c : Nat) (l : List Int) : Prop := RowT 3 o n c (iv_ l)
section
variable {w : World} {k n c base : Nat} {o : Obj}
theorem RowT.owns {t : TypeId} {vs : List Value} (h : RowT t o n c vs) (hk : w.heap[k]? = some o) (hb : base ≤ k) : w.ownsRow base t 1 (.slice (some ⟨k, 0, none⟩) n c) n vs := by
  obtain ⟨cur, rfl, h1, h2, h3, h4, h5⟩ := h
  exact ⟨by rw [h1, Nat.mul_one], .inr ⟨k, c, cur, rfl, hb, hk, h2, h3, by rw [h4, Nat.mul_one], by rw [Nat.mul_one]; exact h5⟩⟩
theorem RowT.of {t : TypeId} {vs : List Value} {v : Value} (h : w.ownsRow base t 1 v n vs) (hn : 0 < n) : ∃ k c o, v = .slice (some ⟨k, 0, none⟩) n c ∧ base ≤ k ∧ w.heap[k]? = some o ∧ RowT t o n c vs := by
  rcases h.2 with ⟨_, h0⟩ | ⟨g, cap, cur, rfl, hb, hh, h1, h2, h3, h4⟩
  · omega
  · exact ⟨g, cap, _, rfl, hb, hh, cur, rfl, by have := h.1; omega, h1, h2, by omega, by rwa [Nat.mul_one] at h4⟩
theorem RowB.own {l : List UInt8} (h : RowB o n c l) (hk : w.heap[k]? = some o) : Own w 0 (.slice (some ⟨k, 0, none⟩) n c) n l := RowT.owns h hk (Nat.zero_le _)
theorem RowN.own {l : List Int} (h : RowN o n c l) (hk : w.heap[k]? = some o) : OwnI w 0 (.slice (some ⟨k, 0, none⟩) n c) n l := RowT.owns h hk (Nat.zero_le _)
theorem Own.row_of {l : List UInt8} {v : Value} (h : Own w base v n l) (hn : 0 < n) : ∃ k c o, v = .slice (some ⟨k, 0, none⟩) n c ∧ base ≤ k ∧ w.heap[k]? = some o ∧ RowB o n c l := RowT.of h hn
theorem OwnI.row_of {l : List Int} {v : Value} (h : OwnI w base v n l) (hn : 0 < n) : ∃ k c o, v = .slice (some ⟨k, 0, none⟩) n c ∧ base ≤ k ∧ w.heap[k]? = some o ∧ RowN o n c l := RowT.of h hn
theorem RowT.cell {t : TypeId} {vs : List Value} (h : RowT t o n c vs) (hk : w.heap[k]? = some o) (j : Nat) (hj : j < n) : w.cell? ⟨k, j, none⟩ = vs[j]? := by
  have h2 := h
  obtain ⟨cur, _, h1, _⟩ := h2
  have := World.ownsRow.cellAt (h.owns hk (Nat.zero_le k)) j (by omega)
  exact this
theorem RowB.cell {l : List UInt8} (h : RowB o n c l) (hk : w.heap[k]? = some o) (j : Nat) (hj : j < n) : w.cell? ⟨k, j, none⟩ = some (.int .u8 ((l.getD j 0).toNat : Int)) := (h.own hk).cell j hj
theorem RowT.free {t : TypeId} {vs : List Value} (h : RowT t o n c vs) (hk : w.heap[k]? = some o) (j : Nat) : w.frozen? ⟨k, j, none⟩ = false := World.ownsRow.frozenAt (h.owns hk (Nat.zero_le k)) j
theorem RowT.store {t : TypeId} {vs : List Value} (h : RowT t o n c vs) (hk : w.heap[k]? = some o) (j : Nat) (u : Value) : ∃ o', (w.setCell ⟨k, j, none⟩ u).heap[k]? = some o' ∧ RowT t o' n c (vs.set j u) := by
  obtain ⟨cur, rfl, h1, h2, h3, h4, h5⟩ := h
  refine ⟨_, heap_setCell_same w k j cur t u hk, _, rfl, by simpa using h1, h2, h3, by simpa using h4, ?_⟩
  rw [Array.toList_setIfInBounds, ← h5, List.take_set]
theorem RowB.store {l : List UInt8} (h : RowB o n c l) (hk : w.heap[k]? = some o) (j : Nat) (x : UInt8) : ∃ o', (w.setCell ⟨k, j, none⟩ (.int .u8 (x.toNat : Int))).heap[k]? = some o' ∧ RowB o' n c (l.set j x) := by
  have := RowT.store h hk j (.int .u8 (x.toNat : Int))
  unfold RowB
  rwa [show bv (l.set j x) = (bv l).set j (.int .u8 (x.toNat : Int)) by simp [bv, List.map_set]]
theorem RowN.store {l : List Int} (h : RowN o n c l) (hk : w.heap[k]? = some o) (j : Nat) (x : Int) : ∃ o', (w.setCell ⟨k, j, none⟩ (.int .i64 x)).heap[k]? = some o' ∧ RowN o' n c (l.set j x) := by
  have := RowT.store h hk j (.int .i64 x)
  unfold RowN
  rwa [show iv_ (l.set j x) = (iv_ l).set j (.int .i64 x) by simp [iv_, List.map_set]]
theorem RowB.rd {l : List UInt8} (h : RowB o n c l) (hk : w.heap[k]? = some o) (hm : n ≤ 140737490452480) : Rd w (some ⟨k, 0, none⟩) n c l := by
  obtain ⟨A, c9, he, hr⟩ := (h.own hk).rd hm
  injection he with h1 h2 h3
  subst h1 h3
  exact hr
theorem RowB.len {l : List UInt8} (h : RowB o n c l) : l.length = n := by
  obtain ⟨_, _, h1, _⟩ := h
  rwa [bv_length] at h1
theorem RowB.cap {l : List UInt8} (h : RowB o n c l) : n ≤ c := by
  obtain ⟨_, _, _, h1, _⟩ := h
  exact h1
end
/-! ### a device, and rows beside it -/
structure St (w0 w : World) (b g : Nat) (vc : Value) (D : DS) (R : List (Nat × Obj)) : Prop where
  dv : IsV w b g vc D
  kp : Kp w (dvS b g vc) R
  bl : Below w0.heap.size w0 w
  sl : ∀ s ∈ dvS b g vc, w0.heap.size ≤ s
  rl : ∀ p ∈ R, w0.heap.size ≤ p.1
section
variable {w0 w w' : World} {b g : Nat} {vc vc' : Value} {D D' : DS} {R : List (Nat × Obj)}
theorem St.of (h : IsV w b g vc D) (hs : ∀ s ∈ dvS b g vc, w0.heap.size ≤ s) (hb : Below w0.heap.size w0 w) : St w0 w b g vc D [] := ⟨h, Kp.nil _ _, hb, hs, by simp⟩
theorem St.get (h : St w0 w b g vc D R) (i : Nat) {p : Nat × Obj} (hi : R[i]? = some p) : w.heap[p.1]? = some p.2 := h.kp.get i hi
theorem St.below (h : St w0 w b g vc D R) (hb : Below w.heap.size w w') : St w0 w' b g vc D R := ⟨h.dv.ext hb, h.kp.below hb, h.bl.trans (hb.mono h.bl.size), h.sl, h.rl⟩
theorem St.drewN (h : St w0 w b g vc D R) (n : Nat) : St w0 (w.drewN n) b g vc D R := ⟨h.dv.drewN n, h.kp.drewN n, below_drewN h.bl n, h.sl, h.rl⟩
theorem St.alloc (h : St w0 w b g vc D R) (o : Obj) : St w0 (w.alloc o) b g vc D R := h.below ((Below.refl _ w).alloc (Nat.le_refl _) o)
theorem St.fr (h : St w0 w b g vc D R) (hv : IsV w' b g vc' D') (f : Fr (dvS b g vc) (dvS b g vc') w w') : St w0 w' b g vc' D' R := by
  have h2 := f.toBelow h.bl.size h.sl
  exact ⟨hv, h.kp.fr f, h.bl.trans h2.1, h2.2, h.rl⟩
theorem St.addFr (h : St w0 w b g vc D R) (hv : IsV w' b g vc' D') (f : Fr (dvS b g vc) (dvS b g vc') w w') {k : Nat} {o : Obj} (hk : w.heap.size ≤ k) (hS : k ∉ dvS b g vc') (ho : w'.heap[k]? = some o) : St w0 w' b g vc' D' ((k, o) :: R) := by
  have h2 := f.toBelow h.bl.size h.sl
  refine ⟨hv, h.kp.add f hk hS ho, h.bl.trans h2.1, h2.2, fun p hp => ?_⟩
  rcases List.mem_cons.1 hp with rfl | hp
  · exact Nat.le_trans h.bl.size hk
  · exact h.rl p hp
theorem St.new (h : St w0 w b g vc D R) (hb : Below w.heap.size w w') {k : Nat} {o : Obj} (hk : w.heap.size ≤ k) (ho : w'.heap[k]? = some o) : St w0 w' b g vc D ((k, o) :: R) :=
  h.addFr (h.dv.ext hb) (Fr.below _ hb) hk (fun hm => by have := h.dv.lt k hm; omega) ho
theorem St.upd (h : St w0 w b g vc D R) (i : Nat) {k : Nat} {o o' : Obj} (hi : R[i]? = some (k, o)) (hw : Only [k] w w') (ho : w'.heap[k]? = some o') : St w0 w' b g vc D (R.set i (k, o')) := by
  have hap : k ∉ dvS b g vc := h.kp.apart i hi
  have hge : w0.heap.size ≤ k := h.rl (k, o) (List.mem_of_getElem? hi)
  refine ⟨h.dv.keep hw (fun s hs => by simp only [List.mem_singleton]; intro e; exact hap (e ▸ hs)), h.kp.upd i hi hw ho, h.bl.trans (hw.below h.bl.size (by simpa using hge)), h.sl, fun p hp => ?_⟩
  obtain ⟨j, hj⟩ := List.mem_iff_getElem?.1 hp
  rw [List.getElem?_set] at hj
  by_cases hij : i = j
  · subst hij
    rw [if_pos rfl, if_pos (List.getElem?_eq_some_iff.1 hi).1] at hj
    injection hj with hj; subst hj; exact hge
  · rw [if_neg hij] at hj
    exact h.rl p (List.mem_of_getElem? hj)
theorem St.grown (h : St w0 w b g vc D R) (i : Nat) {k : Nat} {o o' : Obj} (hi : R[i]? = some (k, o)) (hg : w.grownBy w' (some k)) (ho : w'.heap[k]? = some o') : St w0 w' b g vc D (R.set i (k, o')) :=
  h.upd i hi ⟨hg.os, hg.tape, hg.output, hg.size, fun j hj hn => hg.block j hj (fun e => hn (by injection e with e; simp [e]))⟩ ho
theorem St.store (h : St w0 w b g vc D R) (i j : Nat) {k : Nat} {o o' : Obj} (u : Value) (hi : R[i]? = some (k, o)) (ho : (w.setCell ⟨k, j, none⟩ u).heap[k]? = some o') : St w0 (w.setCell ⟨k, j, none⟩ u) b g vc D (R.set i (k, o')) :=
  h.upd i hi ((Only.refl [k] w).setCell (by simp) u) ho
theorem St.back {x : Nat × Obj} (h : St w0 w b g vc D (x :: R)) : St w0 w b g vc D (R ++ [x]) := by
  have hp : (R ++ [x]).Perm (x :: R) := List.perm_append_comm
  exact ⟨h.dv, ⟨fun p hp' => h.kp.all p (hp.mem_iff.1 hp'), fun p hp' => h.kp.out p (hp.mem_iff.1 hp'), (hp.map Prod.fst).nodup_iff.2 h.kp.nd⟩, h.bl, h.sl, fun p hp' => h.rl p (hp.mem_iff.1 hp')⟩
/-- some of the rows -/
theorem St.sub {R' : List (Nat × Obj)} (h : St w0 w b g vc D R) (hs : R'.Sublist R) : St w0 w b g vc D R' :=
  ⟨h.dv, ⟨fun p hp => h.kp.all p (hs.subset hp), fun p hp => h.kp.out p (hs.subset hp), (hs.map Prod.fst).nodup h.kp.nd⟩, h.bl, h.sl, fun p hp => h.rl p (hs.subset hp)⟩
theorem St.mem (h : St w0 w b g vc D R) {k : Nat} {o : Obj} (hm : (k, o) ∈ R) : w.heap[k]? = some o := h.kp.all _ hm
theorem St.hx (h : St w0 w b g vc D R) (i : Nat) {k : Nat} {o : Obj} (hi : R[i]? = some (k, o)) {j m : Nat} : 0 < m → ∀ p, (some ⟨k, j, none⟩ : Option Addr) = some p → p.block ∉ dvS b g vc := fun _ p hp hm => by
  injection hp with hp
  subst hp
  exact h.kp.apart i hi hm
end
/-! ### the device's calls over such a state: what a row of bytes reads -/
theorem St.rd {w0 w : World} {b g : Nat} {vc : Value} {D : DS} {R : List (Nat × Obj)} (h : St w0 w b g vc D R) (i : Nat) {k n c : Nat} {o : Obj} {l : List UInt8} (hi : R[i]? = some (k, o)) (hr : RowB o n c l) (hm : n ≤ 140737490452480) : Rd w (some ⟨k, 0, none⟩) n c l := hr.rd (h.get i hi) hm
theorem St.cell {w0 w : World} {b g : Nat} {vc : Value} {D : DS} {R : List (Nat × Obj)} (h : St w0 w b g vc D R) (i : Nat) {k n c : Nat} {o : Obj} {l : List UInt8} (hi : R[i]? = some (k, o)) (hr : RowB o n c l) (j : Nat) (hj : j < n) : w.cell? ⟨k, j, none⟩ = some (.int .u8 ((l.getD j 0).toNat : Int)) := hr.cell (h.get i hi) j hj
theorem St.newB {w0 w w' : World} {b g : Nat} {vc : Value} {D : DS} {R : List (Nat × Obj)} {n : Nat} {u : Value} {l : List UInt8} (h : St w0 w b g vc D R) (hO : Own w' w.heap.size u n l) (hb : Below w.heap.size w w') (hn : 0 < n) : ∃ k c o, u = .slice (some ⟨k, 0, none⟩) n c ∧ RowB o n c l ∧ St w0 w' b g vc D ((k, o) :: R) := by
  obtain ⟨k, c, o, e, hk, ho, hr⟩ := hO.row_of hn
  exact ⟨k, c, o, e, hr, h.new hb hk ho⟩
theorem St.newN {w0 w w' : World} {b g : Nat} {vc : Value} {D : DS} {R : List (Nat × Obj)} {n : Nat} {u : Value} {l : List Int} (h : St w0 w b g vc D R) (hO : OwnI w' w.heap.size u n l) (hb : Below w.heap.size w w') (hn : 0 < n) : ∃ k c o, u = .slice (some ⟨k, 0, none⟩) n c ∧ RowN o n c l ∧ St w0 w' b g vc D ((k, o) :: R) := by
  obtain ⟨k, c, o, e, hk, ho, hr⟩ := hO.row_of hn
  exact ⟨k, c, o, e, hr, h.new hb hk ho⟩
end Go.Proofs.Ytggoaelbglhehaa
/- The device's calls over a state: the device and rows beside it. -/
set_option linter.unusedVariables false
set_option linter.unusedSimpArgs false
namespace Go.Proofs.Ytggoaelbglhehaa
open Go.RowKit
section
variable {w0 w : World} {b g : Nat} {vc : Value} {D : DS} {R : List (Nat × Obj)}
theorem row512 {o : Obj} {l : List UInt8} {u : Value} {W : World} {base : Nat} (h : Own W base u 512 l) (hu : ∃ j, u = .slice (some ⟨j, 0, none⟩) 512 512) : ∃ j o, u = .slice (some ⟨j, 0, none⟩) 512 512 ∧ base ≤ j ∧ W.heap[j]? = some o ∧ RowB o 512 512 l := by
  obtain ⟨k, c, o, e, hk, ho, hr⟩ := h.row_of (by omega)
  obtain ⟨j, rfl⟩ := hu
  injection e with e1 e2 e3
  injection e1 with e1
  injection e1 with e1
  subst e1 e3
  exact ⟨j, o, rfl, hk, ho, hr⟩
theorem st_Read (k : Nat) (h : St w0 w b g vc D R) (hk : k < D.n) (hd : D.down = false) (hrd : D.rd < 9223372036854775807) (hq : D.C.length ≤ 100000000000) :
    Calls Try.prog 49 #[.pointer (some ⟨b, 0, none⟩), .int .i64 k] w fun e w' => ∃ j o, e = .returned (.tuple #[.slice (some ⟨j, 0, none⟩) 512 512, .int .i64 0]) ∧ RowB o 512 512 (rdB D k) ∧ St w0 w' b g vc { D with rd := D.rd + 1 } ((j, o) :: R) := by
  refine (dv_Read w b g vc D k h.dv hk hd hrd hq).mono ?_
  rintro e w' ⟨u, rfl, hu, hO, hV, hF⟩
  obtain ⟨j, o, rfl, hj, ho, hr⟩ := row512 (o := .cells #[] 0 (0, 0)) hO hu
  exact ⟨j, o, rfl, hr, h.addFr hV hF hj (fun hm => by have := h.dv.lt j hm; omega) ho⟩
theorem st_Medium (h : St w0 w b g vc D R) :
    Calls Try.prog 34 #[.pointer (some ⟨b, 0, none⟩)] w fun e w' => ∃ j c o, e = .returned (.slice (some ⟨j, 0, none⟩) (D.n * 512) c) ∧ RowB o (D.n * 512) c D.M ∧ St w0 w' b g vc D ((j, o) :: R) := by
  refine (dv_Medium w b g vc D h.dv).mono ?_
  rintro e w' ⟨u, rfl, hO, hb⟩
  have hs := h.dv.dev.small
  obtain ⟨j, c, o, rfl, hr, hS⟩ := h.newB hO hb (by omega)
  exact ⟨j, c, o, rfl, hr, hS⟩
theorem st_Write (i : Nat) {k c n : Nat} {o : Obj} {l : List UInt8} (num : Int) (m : Nat) (h : St w0 w b g vc D R) (hi : R[i]? = some (k, o)) (hr : RowB o n c l) (hm : m ≤ n) (hn : n ≤ 140737490452480) (hl : D.left < 9223372036854775808) (hq : D.C.length ≤ 100000000000) (hwr : D.wr < 9223372036854775807) :
    Calls Try.prog 51 #[.pointer (some ⟨b, 0, none⟩), .int .i64 num, .slice (some ⟨k, 0, none⟩) m c] w fun e w' => e = .returned (.int .i64 (wrD D num (l.take m)).1) ∧ ∃ vc', St w0 w' b g vc' (wrD D num (l.take m)).2 R := by
  refine (dv_Write w b g vc D num (some ⟨k, 0, none⟩) m c (l.take m) h.dv ((h.rd i hi hr hn).take m hm) (h.hx i hi) hl hq hwr).mono ?_
  rintro e w' ⟨rfl, vc', hV, hF⟩
  exact ⟨rfl, vc', h.fr hV hF⟩
theorem st_Flush (h : St w0 w b g vc D R) (hl : D.left < 9223372036854775808) (hq : D.C.length ≤ 100000000000) (hfl : D.fl < 9223372036854775807) :
    Calls Try.prog 52 #[.pointer (some ⟨b, 0, none⟩)] w fun e w' => e = .returned (.int .i64 (flD D).1) ∧ ∃ vc', St w0 w' b g vc' (flD D).2 R := by
  refine (dv_Flush w b g vc D h.dv hl hq hfl).mono ?_
  rintro e w' ⟨rfl, vc', hV, hF⟩
  exact ⟨rfl, vc', h.fr hV hF⟩
theorem st_Edit (i : Nat) {k c n : Nat} {o : Obj} {l : List UInt8} (num at_ : Int) (m : Nat) (h : St w0 w b g vc D R) (hi : R[i]? = some (k, o)) (hr : RowB o n c l) (hm : m ≤ n) (hn : n ≤ 140737490452480) (hat : -9223372036854775808 ≤ at_ ∧ at_ < 9223372036854775808) :
    Calls Try.prog 20 #[.pointer (some ⟨b, 0, none⟩), .int .i64 num, .int .i64 at_, .slice (some ⟨k, 0, none⟩) m c] w fun e w' => e = .returned (.int .i64 (edD D num at_ (l.take m)).1) ∧ St w0 w' b g vc (edD D num at_ (l.take m)).2 R := by
  refine (dv_Edit w b g vc D num at_ (some ⟨k, 0, none⟩) m c (l.take m) h.dv ((h.rd i hi hr hn).take m hm) hat).mono ?_
  rintro e w' ⟨rfl, hV, hF⟩
  exact ⟨rfl, h.fr hV hF⟩
end
end Go.Proofs.Ytggoaelbglhehaa
