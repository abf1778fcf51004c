/- Encode of the program. -/
import Derived.Test.YtlandlgjhnnaiaaPg13
set_option linter.unusedVariables false
set_option linter.unusedSimpArgs false
set_option maxRecDepth 100000
namespace Go.Proofs.Ytlandlgjhnnaiaa
open Go.RowKit SumMath
theorem pg_Encode_bad (n : Nd) (vE vC vK vD : Value) (w : World) (hN : NdR w n vE vC vK vD) (hf : fitsN n = false) :
    Calls Try.prog 16 #[.agg (ndC n vE vC vK vD)] w fun e w' => e = .returned (.tuple #[.slice none 0 0, .int .i64 1]) ∧ Below w.heap.size w w' := by
  have HF := Lib.hid (fun (W : World) (hb : Below w.heap.size w W) => pg_Fits n vE vC vK vD W (hN.ext hb))
  rw [hf] at HF
  unfold ndC at HF ⊢
  have HB0 := Lib.hid (show ∀ o, Below w.heap.size w (w.alloc o) from fun o => (Below.refl _ _).alloc (Nat.le_refl _) _)
  clear hN hf
  go_enter Try.func16, Try.ntmps16
  go_wp2_with fail
  refine (HF.out _ (HB0.out _)).mono ?_
  rintro e w1 ⟨rfl, hB1⟩
  have HB1 := Lib.hid ((HB0.out _).trans (hB1.mono (by simp)))
  clear hB1
  go_wp2
  go_ret2
  exact ⟨rfl, HB1.out⟩
theorem bkC_rep (n : Nat) : (bkC (List.replicate n 0) 0).toArray = Array.replicate n (.int .u8 0) ++ #[.int .i64 0] := by
  apply Array.ext'
  unfold bkC bv
  rw [List.map_replicate]
  simp
theorem bkC_zero : (bkC (List.replicate 512 0) 0).toArray = Array.replicate 512 (.int .u8 0) ++ #[.int .i64 0] := bkC_rep 512
theorem built_bk : Try.prog.built 60 [] = some (Array.replicate 512 (.int .u8 0) ++ #[.int .i64 0]) := by kernel_rfl
theorem build_bk (W : World) : (Instr.build 60 #[]).run Try.prog W = .ok (.agg (bkC (List.replicate 512 0) 0).toArray) W := run_build W _ _ _ (by rw [bkC_zero]; exact built_bk)
theorem PB.new (W : World) : PB (W.alloc (.cells (bkC (List.replicate 512 0) 0).toArray 60)) W.heap.size [] := ⟨heap_alloc_new W _, by simp [padB]⟩
theorem padB_four (P : List UInt8) (h : P.length + 4 ≤ 512) : padB P = padB (P ++ [0, 0, 0, 0]) := by
  unfold padB
  rw [List.length_append, List.append_assoc]
  congr 1
  show List.replicate (512 - P.length) (0 : UInt8) = List.replicate 4 0 ++ List.replicate (512 - (P.length + 4)) 0
  rw [List.replicate_append_replicate]
  congr 1; omega
theorem PB.skip {w : World} {g : Nat} {P : List UInt8} (h : PB w g P) (hl : P.length = 4) : PB (w.setCell ⟨g, 512, none⟩ (.int .i64 8)) g (P ++ [0, 0, 0, 0]) := by
  have h1 := BkAt.setAt h 8
  unfold PB
  rw [← padB_four P (by omega), List.length_append, hl]
  exact h1
theorem sl_all (g : Nat) (W : World) : (Instr.sliceAt 58 (.pointer (some ⟨g, 0, none⟩)) none none none).run Try.prog W = .ok (.slice (some ⟨g, 0, none⟩) 512 512) W := by
  have hal : Try.prog.arrayLen 58 = 512 := by kernel_rfl
  have hel : Try.prog.elem 58 = 5 := by kernel_rfl
  have h9 := run_sliceAt_array_all (P := Try.prog) W 58 ⟨g, 0, none⟩ (by kernel_rfl)
  obtain ⟨i0, hi, hzz⟩ := Option.map_eq_some_iff.1 info_u8
  simp only [Prod.mk.injEq] at hzz
  rw [h9, hal, hel]
  simp [sizeOf, typeInfo, hi, hzz.2.1, slicedAt, Result.andThen, Addr.add_mid]
theorem entsZ_two : ∀ (es : List En) (cs : List Int), cs.length = es.length → 2 * es.length ≤ entsZ es cs
  | [], _, _ => by simp
  | e :: es, [], h => by simp at h
  | e :: es, c :: cs, h => by
    have := entsZ_two es cs (by simpa using h)
    simp only [entsZ, List.length_cons]; omega
theorem keysZ_five : ∀ (ks : List ByteArray), 5 * ks.length ≤ keysZ ks
  | [] => by simp
  | k :: ks => by have := keysZ_five ks; simp only [keysZ, List.length_cons]; omega
/-- what a node that fits is -/
theorem fits_kind {n : Nd} (h : fitsN n = true) : (n.kind = 1 ∧ isLeafN n = true ∧ 8 + entsZ n.ents n.chs ≤ 512) ∨ (n.kind = 2 ∧ isInnerN n = true ∧ 12 + keysZ n.keys ≤ 512) ∨ (n.kind = 3 ∧ isChainN n = true ∧ 12 + n.data.size ≤ 512) := by
  simp only [fitsN, Bool.and_eq_true, decide_eq_true_eq] at h
  obtain ⟨h1, h2⟩ := h
  unfold sizeN at h1 h2
  split at h1
  · rename_i hc; rw [if_pos hc] at h2; exact .inl ⟨hc.1, hc.2, by omega⟩
  · rename_i hc0; rw [if_neg hc0] at h2
    split at h1
    · rename_i hc; rw [if_pos hc] at h2; exact .inr (.inl ⟨hc.1, hc.2, by omega⟩)
    · rename_i hc1; rw [if_neg hc1] at h2
      split at h1
      · rename_i hc; rw [if_pos hc] at h2; exact .inr (.inr ⟨hc.1, hc.2, by omega⟩)
      · omega
theorem leaf_parts {n : Nd} (h : isLeafN n = true) : n.ents.length ≠ 0 ∧ n.chs.length = n.ents.length ∧ n.keys.length = 0 ∧ n.kids.length = 0 ∧ n.next = 0 ∧ n.data.size = 0 ∧ leafGo noS n.ents n.chs = true := by
  simp only [isLeafN, Bool.and_eq_true, decide_eq_true_eq] at h
  obtain ⟨⟨⟨⟨⟨⟨a, b⟩, c⟩, d⟩, e⟩, f⟩, g⟩ := h
  exact ⟨a, b, c, d, e, f, g⟩
theorem inner_parts {n : Nd} (h : isInnerN n = true) : n.keys.length ≠ 0 ∧ n.kids.length = n.keys.length + 1 ∧ n.ents.length = 0 ∧ n.chs.length = 0 ∧ n.next = 0 ∧ n.data.size = 0 ∧ riseGo noS n.keys = true ∧ unlikeGo [] n.kids = true := by
  simp only [isInnerN, Bool.and_eq_true, decide_eq_true_eq] at h
  obtain ⟨⟨⟨⟨⟨⟨⟨a, b⟩, c⟩, d⟩, e⟩, f⟩, g⟩, i⟩ := h
  exact ⟨a, b, c, d, e, f, g, i⟩
theorem chain_parts {n : Nd} (h : isChainN n = true) : n.ents.length = 0 ∧ n.chs.length = 0 ∧ n.keys.length = 0 ∧ n.kids.length = 0 ∧ 1 ≤ n.data.size ∧ n.data.size ≤ 500 := by
  simp only [isChainN, Bool.and_eq_true, decide_eq_true_eq] at h
  obtain ⟨⟨⟨a, b⟩, c⟩, d⟩ := h
  exact ⟨by omega, by omega, by omega, by omega, b, c⟩
theorem fits_cnt {n : Nd} (h : fitsN n = true) : n.ents.length + n.keys.length + n.data.size ≤ 512 := by
  rcases fits_kind h with ⟨_, h1, h2⟩ | ⟨_, h1, h2⟩ | ⟨_, h1, h2⟩
  · obtain ⟨_, h3, h4, _, _, h5, _⟩ := leaf_parts h1
    have := entsZ_two n.ents n.chs h3; omega
  · obtain ⟨_, _, h3, _, _, h5, _⟩ := inner_parts h1
    have := keysZ_five n.keys; omega
  · obtain ⟨h3, _, h4, _, _, h5⟩ := chain_parts h1
    omega
theorem innB_take (ks : List ByteArray) (cs : List Int) (hl : cs.length = ks.length) : ∀ k, k < ks.length → innB (ks.take (k + 1)) (cs.take (k + 1)) = innB (ks.take k) (cs.take k) ++ (b8 (ks.getD k default).size :: (byS (ks.getD k default) ++ leB 4 (cs.getD k 0))) := by
  induction ks generalizing cs with
  | nil => intro k h; simp at h
  | cons e es ih =>
    intro k h
    cases cs with
    | nil => simp at hl
    | cons c cs =>
      cases k with
      | zero => simp [innB]
      | succ k =>
        have := ih cs (by simpa using hl) k (by simpa using h)
        simp only [List.take_succ_cons, innB, List.getD_cons_succ] at this ⊢
        rw [this, List.append_assoc]
theorem keysZ_mono (ks : List ByteArray) : ∀ k, k ≤ ks.length → keysZ (ks.take k) ≤ keysZ ks := by
  induction ks with
  | nil => intro k _; simp [keysZ]
  | cons e es ih =>
    intro k h
    cases k with
    | zero => simp [keysZ]
    | succ k =>
      have := ih k (by simpa using h)
      simp only [List.take_succ_cons, keysZ] at this ⊢
      omega
set_option maxHeartbeats 4000000 in
theorem pg_Encode (n : Nd) (vE vC vK vD : Value) (w : World) (hN : NdR w n vE vC vK vD) (hf : fitsN n = true) :
    Calls Try.prog 16 #[.agg (ndC n vE vC vK vD)] w fun e w' => ∃ g, e = .returned (.tuple #[.slice (some ⟨g, 0, none⟩) 512 512, .int .i64 0]) ∧ w.heap.size ≤ g ∧ BkAt w' g (encN n) 8 ∧ Below w.heap.size w w' := by
  have HF := Lib.hid (fun (W : World) (hb : Below w.heap.size w W) => pg_Fits n vE vC vK vD W (hN.ext hb))
  rw [hf] at HF
  have HEN := Lib.hid (fun g P (W : World) (hb : Below w.heap.size w W) (hg0 : w.heap.size ≤ g) (hP : PB W g P) h1 h2 h3 => pg_entries n vE vC vK vD g P w W hN hb hg0 hP h1 h2 h3)
  have HFK := Lib.hid (fits_kind hf)
  have hcnt := fits_cnt hf
  have HRL := Lib.hid (rawN_len n hf)
  have HEX := Lib.hid (show encN n = splice (rawN n) 4 (leB 4 ((sealL (rawN n)).toNat : Nat)) from rfl)
  have HRX := Lib.hid (show rawN n = padB (headN n ++ [0, 0, 0, 0] ++ bodyN n) from rfl)
  have HHD := Lib.hid (show headN n = [181, b8 n.kind, b8 ((n.ents.length : Int) + (n.keys.length : Int) + (n.data.size : Int)), b8 (((n.ents.length : Int) + (n.keys.length : Int) + (n.data.size : Int)) / 256)] by
    unfold headN cntN; push_cast; rfl)
  have HBO := Lib.hid (show bodyN n = if n.kind = 1 then entsB n.ents n.chs else if n.kind = 2 then leB 4 (n.kids.getD 0 0) ++ innB n.keys (n.kids.drop 1) else if n.kind = 3 then leB 4 n.next ++ byS n.data else [] from rfl)
  obtain ⟨E, hE⟩ : ∃ E, E = encN n := ⟨_, rfl⟩
  obtain ⟨R, hR⟩ : ∃ R, R = rawN n := ⟨_, rfl⟩
  obtain ⟨HD, hHD⟩ : ∃ HD, HD = headN n := ⟨_, rfl⟩
  obtain ⟨BO, hBO⟩ : ∃ BO, BO = bodyN n := ⟨_, rfl⟩
  rw [← hE, ← hR] at HEX
  rw [← hR, ← hHD, ← hBO] at HRX
  rw [← hR] at HRL
  rw [← hHD] at HHD
  rw [← hBO] at HBO
  rw [← hE]
  clear hE hR hHD hBO hf
  have HLF := Lib.hid (fun h => @leaf_parts n h)
  have HIN := Lib.hid (fun h => @inner_parts n h)
  have HCH := Lib.hid (fun h => @chain_parts n h)
  obtain ⟨⟨A1, c1, rfl, h1⟩, ⟨A2, c2, rfl, h2⟩, ⟨A3, c3, rfl, h3⟩, ⟨A4, c4, rfl, h4⟩⟩ := hN
  obtain ⟨kind, ents, chs, keys, kids, next, data⟩ := n
  unfold ndC at HF HEN ⊢
  dsimp only at h1 h2 h3 h4 hcnt HF HEN HFK HHD HBO HLF HIN HCH ⊢
  have HR3 := Lib.hid h3
  have HR4 := Lib.hid h4
  clear h1 h2 h3 h4
  have hcn : (0 : Int) ≤ (ents.length : Int) ∧ (0 : Int) ≤ (keys.length : Int) ∧ (0 : Int) ≤ (data.size : Int) ∧ (ents.length : Int) + (keys.length : Int) + (data.size : Int) ≤ 512 := by omega
  have hbd := build_bk
  have hzc : Try.zeroCells60 = (bkC (List.replicate 512 0) 0).toArray := by rw [bkC_zero]; kernel_rfl
  have HPN := Lib.hid PB.new
  obtain ⟨X, hX⟩ : ∃ X, X = (bkC (List.replicate 512 0) 0).toArray := ⟨_, rfl⟩
  rw [← hX] at hbd hzc HPN
  clear hX
  obtain ⟨q, hq⟩ : ∃ q, q = w.heap.size := ⟨_, rfl⟩
  obtain ⟨W, hW⟩ : ∃ W, W = w.alloc (.cells #[.int .i64 kind, .slice A1 ents.length c1, .slice A2 chs.length c2, .slice A3 keys.length c3, .slice A4 kids.length c4, .int .i64 next, .string data] 26) := ⟨_, rfl⟩
  have HB0 := Lib.hid (show Below w.heap.size w W by rw [hW]; exact (Below.refl _ _).alloc (Nat.le_refl _) _)
  have HRW := Lib.hid (show W.heap[q]? = some (.cells #[.int .i64 kind, .slice A1 ents.length c1, .slice A2 chs.length c2, .slice A3 keys.length c3, .slice A4 kids.length c4, .int .i64 next, .string data] 26 (0, 0)) by rw [hW, hq]; exact heap_alloc_new w _)
  have HCL := Lib.hid (show ∀ W' : World, W'.heap[q]? = W.heap[q]? → W'.cell? ⟨q, 0, none⟩ = some (.int .i64 kind) ∧ W'.cell? ⟨q, 1, none⟩ = some (.slice A1 ents.length c1) ∧ W'.cell? ⟨q, 2, none⟩ = some (.slice A2 chs.length c2) ∧ W'.cell? ⟨q, 3, none⟩ = some (.slice A3 keys.length c3) ∧ W'.cell? ⟨q, 4, none⟩ = some (.slice A4 kids.length c4) ∧ W'.cell? ⟨q, 5, none⟩ = some (.int .i64 next) ∧ W'.cell? ⟨q, 6, none⟩ = some (.string data) ∧ q < W'.heap.size from fun W' hb => by
    have hr := hb.trans HRW.out
    exact ⟨cell_of_row _ q 0 _ _ _ hr, cell_of_row _ q 1 _ _ _ hr, cell_of_row _ q 2 _ _ _ hr, cell_of_row _ q 3 _ _ _ hr, cell_of_row _ q 4 _ _ _ hr, cell_of_row _ q 5 _ _ _ hr, cell_of_row _ q 6 _ _ _ hr, lt_of_block hr⟩)
  have HQ := Lib.hid (show q < W.heap.size from lt_of_block HRW.out)
  go_enter Try.func16, Try.ntmps16
  go_wp2_with fail
  rw [← hW, ← hq]
  refine (HF.out _ HB0.out).mono ?_
  rintro e w1 ⟨rfl, hB1⟩
  have HB1 := Lib.hid (HB0.out.trans (hB1.mono HB0.out.size))
  have HQ1 := Lib.hid (show w1.heap[q]? = W.heap[q]? from hB1.block q HQ.out)
  clear hW hq hB1
  obtain ⟨d0, d1, d2, d3, d4, d5, d6, d7⟩ := HCL.out w1 HQ1.out
  go_upto_region 3 with fail
  refine wp_region_lit ?_
  refine wpl_val rfl (.agg X) w1 ?_ ?_
  · go_simp
  refine wpl_val rfl (.pointer (some ⟨w1.heap.size, 0, none⟩)) (w1.alloc (.cells X 60)) ?_ ?_
  · rfl
  obtain ⟨g, hg⟩ : ∃ g, g = w1.heap.size := ⟨_, rfl⟩
  obtain ⟨W2, hW2⟩ : ∃ W2, W2 = w1.alloc (.cells X 60) := ⟨_, rfl⟩
  have HG := Lib.hid (show w.heap.size ≤ g by have := HB1.out.size; omega)
  have HGQ := Lib.hid (show q ≠ g by omega)
  have HI2 := Lib.hid (show PB W2 g [] by rw [hW2, hg]; exact HPN.out w1)
  have HB2 := Lib.hid (show Below w.heap.size w W2 by rw [hW2]; exact HB1.out.alloc HB1.out.size _)
  have HQ2 := Lib.hid (show W2.heap[q]? = W.heap[q]? by rw [hW2, ← HQ1.out]; exact heap_alloc_old w1 _ d7)
  -- behind a call that changes g alone
  have HKP := Lib.hid (show ∀ V V' : World, Only [g] V V' → V.heap[q]? = W.heap[q]? → Below w.heap.size w V → V'.heap[q]? = W.heap[q]? ∧ Below w.heap.size w V' from fun V V' ho h1 h2 => by
    have h3 : q < V.heap.size := lt_of_block (h1.trans HRW.out)
    exact ⟨(ho.blk q h3 (by simp; exact HGQ.out)).trans h1, h2.trans (ho.below h2.size (by simp; exact HG.out))⟩)
  rw [← hW2, ← hg]
  clear hW2 hg hbd hzc d0 d1 d2 d3 d4 d5 d6 d7
  obtain ⟨d0, d1, d2, d3, d4, d5, d6, d7⟩ := HCL.out W2 HQ2.out
  go_wp2_with fail
  refine (pb_one 181 HI2.out (by decide)).mono ?_
  rintro e w3 ⟨rfl, hI, ho⟩
  have HI3 := Lib.hid (show PB w3 g [181] from hI)
  have HK3 := Lib.hid (HKP.out _ _ ho HQ2.out HB2.out)
  clear hI ho d0 d1 d2 d3 d4 d5 d6 d7
  obtain ⟨d0, d1, d2, d3, d4, d5, d6, d7⟩ := HCL.out w3 HK3.out.1
  go_wp2_with fail
  refine (pb_one kind HI3.out (by decide)).mono ?_
  rintro e w4 ⟨rfl, hI, ho⟩
  have HI4 := Lib.hid (show PB w4 g [181, b8 kind] from hI)
  have HK4 := Lib.hid (HKP.out _ _ ho HK3.out.1 HK3.out.2)
  clear hI ho d0 d1 d2 d3 d4 d5 d6 d7
  obtain ⟨d0, d1, d2, d3, d4, d5, d6, d7⟩ := HCL.out w4 HK4.out.1
  go_wp2_with fail
  refine (pb_one _ HI4.out (by simp)).mono ?_
  rintro e w5 ⟨rfl, hI, ho⟩
  have HI5 := Lib.hid (show PB w5 g [181, b8 kind, b8 ((ents.length : Int) + (keys.length : Int) + (data.size : Int))] from hI)
  have HK5 := Lib.hid (HKP.out _ _ ho HK4.out.1 HK4.out.2)
  clear hI ho d0 d1 d2 d3 d4 d5 d6 d7
  obtain ⟨d0, d1, d2, d3, d4, d5, d6, d7⟩ := HCL.out w5 HK5.out.1
  go_wp2_with fail
  refine (pb_one _ HI5.out (by simp)).mono ?_
  rintro e w6 ⟨rfl, hI, ho⟩
  have HI6 := Lib.hid (show PB w6 g HD by rw [HHD.out]; exact hI)
  have HK6 := Lib.hid (HKP.out _ _ ho HK5.out.1 HK5.out.2)
  have HHL := Lib.hid (show HD.length = 4 by rw [HHD.out]; rfl)
  have hat := BkAt.cat HI6.out
  have hfz := BkAt.frz HI6.out 512
  have HI7 := Lib.hid (PB.skip HI6.out HHL.out)
  clear hI ho d0 d1 d2 d3 d4 d5 d6 d7
  obtain ⟨d0, d1, d2, d3, d4, d5, d6, d7⟩ := HCL.out w6 HK6.out.1
  obtain ⟨W7, hW7⟩ : ∃ W7, W7 = w6.setCell ⟨g, 512, none⟩ (.int .i64 8) := ⟨_, rfl⟩
  have HK7 := Lib.hid (HKP.out w6 W7 (by rw [hW7]; exact (Only.refl _ _).setCell (by simp) _) HK6.out.1 HK6.out.2)
  rw [← hW7] at HI7
  have HPL := Lib.hid (show (HD ++ [0, 0, 0, 0]).length = 8 by rw [List.length_append, HHL.out]; rfl)
  obtain ⟨P8, hP8⟩ : ∃ P8, P8 = HD ++ [0, 0, 0, 0] := ⟨_, rfl⟩
  rw [← hP8] at HI7 HPL HRX
  clear hP8
  go_upto_region 10 with fail
  rw [← hW7]
  clear hat hfz hW7 hcn
  clear d0 d1 d2 d3 d4 d5 d6 d7
  obtain ⟨d0, d1, d2, d3, d4, d5, d6, d7⟩ := HCL.out W7 HK7.out.1
  rcases HFK.out with ⟨k1, h1, h2⟩ | ⟨k1, h1, h2⟩ | ⟨k1, h1, h2⟩
  · subst k1
    obtain ⟨p1, p2, p3, p4, p5, p6, p7⟩ := HLF.out h1
    have HC8 := Lib.hid (HEN.out g P8 W7 HK7.out.2 HG.out HI7.out p2 p7 (by rw [HPL.out]; exact h2))
    have HBX := Lib.hid (show BO = entsB ents chs by rw [HBO.out, if_pos rfl])
    clear p1 p2 p3 p4 p5 p6 p7 h1 h2
    go_wp2_with fail
    refine HC8.out.mono ?_
    rintro e w8 ⟨rfl, hI, ho⟩
    have HI8 := Lib.hid (show PB w8 g (P8 ++ BO) by rw [HBX.out]; exact hI)
    have HK8 := Lib.hid (HKP.out _ _ ho HK7.out.1 HK7.out.2)
    clear hI ho d0 d1 d2 d3 d4 d5 d6 d7
    have HM := Lib.hid (show BkAt w8 g R (P8 ++ BO).length by rw [HRX.out]; exact HI8.out)
    have hsl := sl_all g
    have hat := BkAt.cat HM.out
    have hfz := BkAt.frz HM.out 512
    have HM4 := Lib.hid (show BkAt (w8.setCell ⟨g, 512, none⟩ (.int .i64 4)) g R 4 from HM.out.setAt 4)
    obtain ⟨W4, hW4⟩ : ∃ W4, W4 = w8.setCell ⟨g, 512, none⟩ (.int .i64 4) := ⟨_, rfl⟩
    rw [← hW4] at HM4
    have HK4b := Lib.hid (HKP.out w8 W4 (by rw [hW4]; exact (Only.refl _ _).setCell (by simp) _) HK8.out.1 HK8.out.2)
    have HSE := Lib.hid (pg_seal (some ⟨g, 0, none⟩) 512 R W4 HM4.out.rd)
    have hsb := (sealL R).isLt
    obtain ⟨sl, hsl9⟩ : ∃ sl, sl = (sealL R).toNat := ⟨_, rfl⟩
    rw [← hsl9] at HSE HEX hsb
    clear hsl9
    go_wp2_with fail
    rw [← hW4]
    clear hW4 hat hfz
    refine HSE.out.mono ?_
    rintro e w9 ⟨rfl, hB9⟩
    have HM9 := Lib.hid (HM4.out.ext hB9)
    have HB9 := Lib.hid (HK4b.out.2.trans (hB9.mono HK4b.out.2.size))
    clear hB9
    go_wp2_with fail
    refine (pg_four g 4 R (sl : Int) _ HM9.out (by decide)).mono ?_
    rintro e w10 ⟨rfl, hI, ho⟩
    have HI10 := Lib.hid (show BkAt w10 g E 8 by rw [HEX.out]; exact hI)
    have HB10 := Lib.hid (HB9.out.trans (ho.below HB9.out.size (by simp; exact HG.out)))
    clear hI ho
    go_wp2
    go_ret2
    exact ⟨g, rfl, HG.out, HI10.out, HB10.out⟩
  · subst k1
    obtain ⟨p1, p2, p3, p4, p5, p6, p7, p8⟩ := HIN.out h1
    have HBX := Lib.hid (show BO = leB 4 (kids.getD 0 0) ++ innB keys (kids.drop 1) by rw [HBO.out, if_neg (by simp), if_pos rfl])
    have HDL := Lib.hid (show (kids.drop 1).length = keys.length by rw [List.length_drop]; omega)
    have HIT := Lib.hid (innB_take keys (kids.drop 1) HDL.out)
    have HKM := Lib.hid (keysZ_mono keys)
    have HKT := Lib.hid (keysZ_take keys)
    have HZ2 := Lib.hid h2
    have HIL := Lib.hid (fun k (hk : k ≤ keys.length) => show (innB (keys.take k) ((kids.drop 1).take k)).length = keysZ (keys.take k) from innB_len _ _ (by rw [List.length_take, List.length_take, HDL.out]))
    have HKD := Lib.hid p2
    have HRD := Lib.hid (fun (V : World) (hb : Below w.heap.size w V) => HR4.out.ext hb)
    have HRK := Lib.hid (fun (V : World) (hb : Below w.heap.size w V) => HR3.out.ext hb)
    obtain ⟨b4, o4, rfl, -, hc4⟩ := (HRD.out _ HK7.out.2).at_ (by omega)
    have hc40 : W7.cell? ⟨b4, o4, none⟩ = some (.int .i64 (kids.getD 0 0)) := hc4 0 (by omega)
    have m4 := (HRD.out _ HK7.out.2).max
    have m3 := (HRK.out _ HK7.out.2).max
    obtain ⟨kid0, hkid0⟩ : ∃ kid0, kid0 = kids.getD 0 0 := ⟨_, rfl⟩
    rw [← hkid0] at hc40 HBX
    have HC8 := Lib.hid (pb_four kid0 HI7.out (by rw [HPL.out]; decide))
    have hkl : (0 : Int) < (kids.length : Int) ∧ (kids.length : Int) = (keys.length : Int) + 1 := by omega
    clear p1 p2 p3 p4 p5 p6 p7 p8 h1 h2 hc4 hkid0
    go_wp2_with fail
    refine HC8.out.mono ?_
    rintro e w9 ⟨rfl, hI, ho⟩
    have HI9 := Lib.hid hI
    have HK9 := Lib.hid (HKP.out _ _ ho HK7.out.1 HK7.out.2)
    clear hI ho d0 d1 d2 d3 d4 d5 d6 d7 hc40 hkl
    obtain ⟨d0, d1, d2, d3, d4, d5, d6, d7⟩ := HCL.out w9 HK9.out.1
    go_wp2_with fail
    clear d0 d1 d2 d3 d4 d5 d6 d7
    go_loopw [6, 7, 59] (fun _ _ x wx => ∃ k : Nat, k ≤ keys.length ∧ x = .int .i64 k ∧ PB wx g (P8 ++ leB 4 kid0 ++ innB (keys.take k) ((kids.drop 1).take k)) ∧ wx.heap[q]? = W.heap[q]? ∧ Below w.heap.size w wx) (fun _ _ x _ => keys.length - (intOf x).toNat)
    case atStart => exact ⟨0, by omega, rfl, by simp only [List.take_zero, innB, List.append_nil]; exact HI9.out, HK9.out.1, HK9.out.2⟩
    case round =>
      obtain ⟨k, hk, rfl, hI, hK⟩ := hrel
      have HI := Lib.hid hI
      have HK := Lib.hid hK
      clear hI hK
      obtain ⟨d0, d1, d2, d3, d4, d5, d6, d7⟩ := HCL.out wr HK.out.1
      by_cases hkn : k < keys.length
      · obtain ⟨b3, o3, rfl, hc3⟩ := (HRK.out _ HK.out.2).at_ (by omega)
        have hck := hc3 k hkn
        have HBN := Lib.hid (HIT.out k hkn)
        have HZK := Lib.hid (show (P8 ++ leB 4 kid0 ++ innB (keys.take k) ((kids.drop 1).take k)).length + (5 + (keys.getD k default).size) ≤ 512 by
          have a1 := HIL.out k hk
          have a2 := HKT.out k hkn
          have a3 := HKM.out (k + 1) (by omega)
          have a4 := HZ2.out
          rw [List.length_append, List.length_append, a1, leB_len, HPL.out]; omega)
        have HCC := Lib.hid (fun (V : World) (hb : Below w.heap.size w V) => show V.cell? ⟨b4, o4 + (k + 1), none⟩ = some (.int .i64 ((kids.drop 1).getD k 0)) from by
          obtain ⟨b9, o9, e9, -, hc9⟩ := (HRD.out V hb).at_ (by have := HKD.out; omega)
          injection e9 with e9
          injection e9 with e1 e2
          subst e1 e2
          rw [hc9 (k + 1) (by have := HKD.out; omega)]
          congr 2
          simp [List.getD_eq_getElem?_getD, Nat.add_comm])
        obtain ⟨key, he⟩ : ∃ e, e = keys.getD k default := ⟨_, rfl⟩
        rw [← he] at hck HZK HBN
        obtain ⟨c, hc⟩ : ∃ c, c = (kids.drop 1).getD k 0 := ⟨_, rfl⟩
        rw [← hc] at HCC HBN
        obtain ⟨Q, hQ⟩ : ∃ Q, Q = P8 ++ leB 4 kid0 ++ innB (keys.take k) ((kids.drop 1).take k) := ⟨_, rfl⟩
        rw [← hQ] at HI HZK
        have HQN := Lib.hid (show Q ++ (b8 key.size :: (byS key ++ leB 4 c)) = P8 ++ leB 4 kid0 ++ innB (keys.take (k + 1)) ((kids.drop 1).take (k + 1)) by rw [hQ, HBN.out, List.append_assoc (P8 ++ leB 4 kid0)])
        have hk0 : (0 : Int) ≤ (k : Int) ∧ (k : Int) < (keys.length : Int) ∧ (kids.length : Int) = (keys.length : Int) + 1 ∧ (keys.length : Int) ≤ 13000000000000 := by have := HKD.out; omega
        have HC1 := Lib.hid (pb_one (key.size : Int) HI.out (by have := HZK.out; omega))
        clear he hc hQ hc3
        go_wp2_with fail
        refine HC1.out.mono ?_
        rintro e w11 ⟨rfl, hI, ho⟩
        have HI1 := Lib.hid hI
        have HK1 := Lib.hid (HKP.out _ _ ho HK.out.1 HK.out.2)
        have HC2 := Lib.hid (pb_text key hI (by have := HZK.out; simp; omega))
        clear hI ho HC1 hck d0 d1 d2 d3 d4 d5 d6 d7
        obtain ⟨d0, d1, d2, d3, d4, d5, d6, d7⟩ := HCL.out w11 HK1.out.1
        go_wp2_with fail
        refine HC2.out.mono ?_
        rintro e w12 ⟨rfl, hI, ho⟩
        have HI2 := Lib.hid hI
        have HK2 := Lib.hid (HKP.out _ _ ho HK1.out.1 HK1.out.2)
        have HC3 := Lib.hid (pb_four c hI (by have := HZK.out; simp [byS_len]; omega))
        clear hI ho HC2 d0 d1 d2 d3 d4 d5 d6 d7
        obtain ⟨d0, d1, d2, d3, d4, d5, d6, d7⟩ := HCL.out w12 HK2.out.1
        have hcc := HCC.out w12 HK2.out.2
        have hw1 : IntKind.i64.wrap ((k : Int) + 1) = ((k + 1 : Nat) : Int) := by have := wrap_i64_nat (k + 1) (by omega); push_cast at this ⊢; exact this
        have hk1 : (0 : Int) ≤ ((k + 1 : Nat) : Int) ∧ ((k + 1 : Nat) : Int) < (kids.length : Int) := by omega
        go_wp2_with fail
        refine HC3.out.mono ?_
        rintro e w13 ⟨rfl, hI, ho⟩
        have HI3 := Lib.hid hI
        have HK3b := Lib.hid (HKP.out _ _ ho HK2.out.1 HK2.out.2)
        clear hI ho HC3 hcc hk1 hw1 d0 d1 d2 d3 d4 d5 d6 d7
        go_wp2
        go_roundw
        case rel => exact ⟨k + 1, by omega, by go_num, by rw [← HQN.out]; have h9 := HI3.out; simp only [List.append_assoc, List.cons_append, List.nil_append] at h9 ⊢; exact h9, HK3b.out.1, HK3b.out.2⟩
        case measure => simp [intOf]; omega
      · obtain rfl : k = keys.length := by omega
        have HI8 := Lib.hid (show PB wr g (P8 ++ BO) by
          have h9 := HI.out
          rw [List.take_of_length_le (Nat.le_refl _), List.take_of_length_le (by rw [HDL.out]; exact Nat.le_refl _), List.append_assoc, ← HBX.out] at h9
          exact h9)
        have HK8 := HK
        have HM := Lib.hid (show BkAt wr g R (P8 ++ BO).length by rw [HRX.out]; exact HI8.out)
        have hsl := sl_all g
        have hat := BkAt.cat HM.out
        have hfz := BkAt.frz HM.out 512
        have HM4 := Lib.hid (show BkAt (wr.setCell ⟨g, 512, none⟩ (.int .i64 4)) g R 4 from HM.out.setAt 4)
        obtain ⟨W4, hW4⟩ : ∃ W4, W4 = wr.setCell ⟨g, 512, none⟩ (.int .i64 4) := ⟨_, rfl⟩
        rw [← hW4] at HM4
        have HK4b := Lib.hid (HKP.out wr W4 (by rw [hW4]; exact (Only.refl _ _).setCell (by simp) _) HK8.out.1 HK8.out.2)
        have HSE := Lib.hid (pg_seal (some ⟨g, 0, none⟩) 512 R W4 HM4.out.rd)
        have hsb := (sealL R).isLt
        obtain ⟨sl, hsl9⟩ : ∃ sl, sl = (sealL R).toNat := ⟨_, rfl⟩
        rw [← hsl9] at HSE HEX hsb
        clear hsl9
        go_wp2_with fail
        rw [← hW4]
        clear hW4 hat hfz
        refine HSE.out.mono ?_
        rintro e w9 ⟨rfl, hB9⟩
        have HM9 := Lib.hid (HM4.out.ext hB9)
        have HB9 := Lib.hid (HK4b.out.2.trans (hB9.mono HK4b.out.2.size))
        clear hB9
        go_wp2_with fail
        refine (pg_four g 4 R (sl : Int) _ HM9.out (by decide)).mono ?_
        rintro e w10 ⟨rfl, hI, ho⟩
        have HI10 := Lib.hid (show BkAt w10 g E 8 by rw [HEX.out]; exact hI)
        have HB10 := Lib.hid (HB9.out.trans (ho.below HB9.out.size (by simp; exact HG.out)))
        clear hI ho
        go_wp2
        go_ret2
        exact ⟨g, rfl, HG.out, HI10.out, HB10.out⟩
  · subst k1
    obtain ⟨p1, p2, p3, p4, p5, p6⟩ := HCH.out h1
    have HBX := Lib.hid (show BO = leB 4 next ++ byS data by rw [HBO.out, if_neg (by simp), if_neg (by simp), if_pos rfl])
    have HC8 := Lib.hid (pb_four next HI7.out (by rw [HPL.out]; decide))
    have HDS := Lib.hid p6
    clear p1 p2 p3 p4 p5 p6 h1 h2
    go_wp2_with fail
    refine HC8.out.mono ?_
    rintro e w9 ⟨rfl, hI, ho⟩
    have HI9 := Lib.hid hI
    have HK9 := Lib.hid (HKP.out _ _ ho HK7.out.1 HK7.out.2)
    clear hI ho d0 d1 d2 d3 d4 d5 d6 d7
    obtain ⟨d0, d1, d2, d3, d4, d5, d6, d7⟩ := HCL.out w9 HK9.out.1
    have HC9 := Lib.hid (pb_text data HI9.out (by rw [List.length_append, HPL.out, leB_len]; have := HDS.out; omega))
    go_wp2_with fail
    refine HC9.out.mono ?_
    rintro e w8 ⟨rfl, hI, ho⟩
    have HI8 := Lib.hid (show PB w8 g (P8 ++ BO) by rw [HBX.out, ← List.append_assoc]; exact hI)
    have HK8 := Lib.hid (HKP.out _ _ ho HK9.out.1 HK9.out.2)
    clear hI ho d0 d1 d2 d3 d4 d5 d6 d7
    have HM := Lib.hid (show BkAt w8 g R (P8 ++ BO).length by rw [HRX.out]; exact HI8.out)
    have hsl := sl_all g
    have hat := BkAt.cat HM.out
    have hfz := BkAt.frz HM.out 512
    have HM4 := Lib.hid (show BkAt (w8.setCell ⟨g, 512, none⟩ (.int .i64 4)) g R 4 from HM.out.setAt 4)
    obtain ⟨W4, hW4⟩ : ∃ W4, W4 = w8.setCell ⟨g, 512, none⟩ (.int .i64 4) := ⟨_, rfl⟩
    rw [← hW4] at HM4
    have HK4b := Lib.hid (HKP.out w8 W4 (by rw [hW4]; exact (Only.refl _ _).setCell (by simp) _) HK8.out.1 HK8.out.2)
    have HSE := Lib.hid (pg_seal (some ⟨g, 0, none⟩) 512 R W4 HM4.out.rd)
    have hsb := (sealL R).isLt
    obtain ⟨sl, hsl9⟩ : ∃ sl, sl = (sealL R).toNat := ⟨_, rfl⟩
    rw [← hsl9] at HSE HEX hsb
    clear hsl9
    go_wp2_with fail
    rw [← hW4]
    clear hW4 hat hfz
    refine HSE.out.mono ?_
    rintro e w9 ⟨rfl, hB9⟩
    have HM9 := Lib.hid (HM4.out.ext hB9)
    have HB9 := Lib.hid (HK4b.out.2.trans (hB9.mono HK4b.out.2.size))
    clear hB9
    go_wp2_with fail
    refine (pg_four g 4 R (sl : Int) _ HM9.out (by decide)).mono ?_
    rintro e w10 ⟨rfl, hI, ho⟩
    have HI10 := Lib.hid (show BkAt w10 g E 8 by rw [HEX.out]; exact hI)
    have HB10 := Lib.hid (HB9.out.trans (ho.below HB9.out.size (by simp; exact HG.out)))
    clear hI ho
    go_wp2
    go_ret2
    exact ⟨g, rfl, HG.out, HI10.out, HB10.out⟩
end Go.Proofs.Ytlandlgjhnnaiaa
