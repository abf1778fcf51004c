/- Walks of the reference's reader: Text, NewReader. -/
import Derived.Test.YtclafljkeaekfaaPy2
import Derived.Test.YtclafljkeaekfaaPx1
import Derived.Deep.RegionLaw
import Derived.Deep.RegionWith
import Derived.Deep.DeepCutAuto
set_option linter.unusedVariables false
set_option linter.unusedSimpArgs false
set_option maxRecDepth 100000
namespace Go.Proofs.Ytclafljkeaekfaa
open Go.RowKit
theorem rU_atE (L : List UInt8) (at_ : Nat) (e : Int) (h : (rU L at_ e).2.2 ≠ 0) : (rU L at_ e).2.1 = at_ := by
  unfold rU at h ⊢
  split at h
  · rename_i he
    rw [if_pos he]
    split at h
    · simp at h
    · rename_i hu; rw [if_neg hu]
  · rename_i he
    rw [if_neg he]
section
variable (b : Nat) (A : Option Addr) (n c : Nat) (L : List UInt8) (at_ : Nat) (e : Int) (w : World)
set_option maxHeartbeats 2000000 in
theorem py_Text (most : Int) (hmo : -9223372036854775808 ≤ most ∧ most < 9223372036854775808) (h : IsY w b A n c L at_ e) :
    Calls Try.prog 70 #[.pointer (some ⟨b, 0, none⟩), .int .i64 most] w fun e1 w' => e1 = .returned (.string (bstr (rT L at_ e most).1)) ∧ IsY w' b A n c L (rT L at_ e most).2.1 (rT L at_ e most).2.2 ∧ Only [b] w w' := by
  have H := Lib.hid h
  have c1 := h.c1
  have hle := h.le
  have hmx := h.rd.max
  have hcap := h.rd.cap
  have HL := Lib.hid h.rd.len
  clear h
  go_enter Try.func70, Try.ntmps70
  go_wp2_with fail
  refine (py_Uint b A n c L at_ e w H.out).mono ?_
  rintro e1 w1 ⟨rfl, hI, hO⟩
  have hlt := rU_lt L at_ e
  have hst := rU_atE L at_ e
  obtain ⟨v, hv⟩ : ∃ v, v = (rU L at_ e).1 := ⟨_, rfl⟩
  obtain ⟨a1, ha⟩ : ∃ a1, a1 = (rU L at_ e).2.1 := ⟨_, rfl⟩
  obtain ⟨e1, hee⟩ : ∃ e1, e1 = (rU L at_ e).2.2 := ⟨_, rfl⟩
  rw [← hv] at hlt ⊢
  rw [← ha, ← hee] at hI
  rw [← ha, ← hee] at hst
  have hC : rT L at_ e most = if e1 ≠ 0 then ([], a1, e1) else if most < (v : Int) then ([], at_, 23) else if L.length - a1 < v then ([], at_, 20) else ((L.drop a1).take v, a1 + v, 0) := by rw [rT, ← hv, ← ha, ← hee]
  rw [HL.out] at hC
  have HC := Lib.hid hC
  have HI := Lib.hid hI
  have HO := Lib.hid hO
  have k1 := hI.c1
  have k2 := hI.c2
  have k0 := hI.c0
  have g1 := hI.fz 1
  have g2 := hI.fz 2
  have hle1 := hI.le
  have hvv : (v : Int) < 18446744073709551616 := by omega
  clear hI hO hv ha hee hlt hC
  by_cases he : e1 = 0
  · subst he
    clear hst
    by_cases h1 : most < 0
    · have HB := Lib.hid (show rT L at_ e most = ([], at_, 23) by rw [HC.out, if_neg (by simp), if_pos (by omega)])
      go_wp2_with fail
      go_quiet ((fail))
      go_wp2
      go_ret
      rw [HB.out]
      exact ⟨rfl, ((HI.out.setErr 23).drew _).setAt at_ hle, ((HO.out.setCell (by simp) _).drewN _).setCell (by simp) _⟩
    · obtain ⟨m, rfl⟩ := Int.eq_ofNat_of_zero_le (show 0 ≤ most by omega)
      have hwm : IntKind.u64.wrap (m : Int) = (m : Int) := IntWalk.u64_in _ (by omega)
      have HMO := Lib.hid hmo
      clear hmo h1
      by_cases h2 : (m : Int) < (v : Int)
      · have HB := Lib.hid (show rT L at_ e m = ([], at_, 23) by rw [HC.out, if_neg (by simp), if_pos h2])
        go_wp2_with fail
        go_quiet ((fail))
        go_wp2
        go_ret
        rw [HB.out]
        exact ⟨rfl, ((HI.out.setErr 23).drew _).setAt at_ hle, ((HO.out.setCell (by simp) _).drewN _).setCell (by simp) _⟩
      · obtain ⟨lf, hlf⟩ : ∃ lf, lf = n - a1 := ⟨_, rfl⟩
        have hwl : IntKind.u64.wrap (lf : Int) = (lf : Int) := IntWalk.u64_in _ (by omega)
        have hlf2 : (n : Int) - (a1 : Int) = (lf : Int) := by omega
        have hwn : True := trivial
        have HLF := Lib.hid hlf
        have HLE1 := Lib.hid hle1
        by_cases h3 : (lf : Int) < (v : Int)
        · have hd3 : decide ((lf : Int) < (v : Int)) = true := decide_eq_true h3
          have HB := Lib.hid (show rT L at_ e m = ([], at_, 20) by rw [HC.out, if_neg (by simp), if_neg h2, if_pos (by omega)])
          clear hlf hle1 hvv
          go_wp2_with fail
          go_quiet ((fail))
          have hle1 := HLE1.out
          go_wp2
          go_ret
          rw [HB.out]
          exact ⟨rfl, ((HI.out.drew _).setErr 20).setAt at_ hle, ((HO.out.drewN _).setCell (by simp) _).setCell (by simp) _⟩
        · have hd3 : decide ((lf : Int) < (v : Int)) = false := decide_eq_false h3
          have HB := Lib.hid (show rT L at_ e m = ((L.drop a1).take v, a1 + v, 0) by rw [HC.out, if_neg (by simp), if_neg h2, if_neg (by omega)])
          obtain ⟨s, hs⟩ : ∃ s, s = a1 + v := ⟨_, rfl⟩
          have hvn : s ≤ n := by omega
          obtain ⟨A', ecut, hcut⟩ := cut_mid A n c a1 s (by omega) hvn hcap
          have hsv : (a1 : Int) + v = (s : Int) := by omega
          have hss : (s : Int) - v = (a1 : Int) := by omega
          have HSV := Lib.hid hs
          have hvb : (v : Int) ≤ 140737490452480 := by omega
          have HCUT := Lib.hid hcut
          clear hlf hcut hle1 hvv hs
          go_wp2_with fail
          go_quiet ((fail))
          have hle1 := HLE1.out
          clear hwn hlf2 hd3
          go_upto_region 11 with fail
          have HI3 := Lib.hid ((HI.out.drew nq).setAt s hvn)
          have hstr : ∀ k, (convert 28 9 (.slice A' (s - a1) (c - a1))).run Try.prog (((w1.drewN nq).setCell ⟨b, 1, none⟩ (.int .i64 (s : Int))).drewN k) = .ok (.string (bstr ((L.drop a1).take (s - a1)))) (((w1.drewN nq).setCell ⟨b, 1, none⟩ (.int .i64 (s : Int))).drewN k) :=
            fun k => ((HCUT.out _ _ HI3.out.rd).drew k).str
          have hw1 : IntKind.i64.wrap ((s : Int) - v) = (a1 : Int) := by rw [hss]; exact IntWalk.i64_in _ (by omega)
          go_quiet ((fail))
          clear hw1 hss hsv
          go_wp2
          go_ret
          rw [HB.out]
          refine ⟨?_, ?_, ((HO.out.drewN _).setCell (by simp) _).drewN _⟩
          · rw [show s - a1 = v by have := HSV.out; omega]; rfl
          · rw [← HSV.out]; exact HI3.out.drew _
  · have hst := hst he
    subst hst
    have HB := Lib.hid (show rT L a1 e most = ([], a1, e1) by rw [HC.out, if_pos he])
    have he2 : (e1 != 0) = true := by simpa using he
    have he3 : (e1 == 0) = false := by simpa using he
    clear he
    go_wp2_with fail
    go_quiet ((fail))
    go_wp2
    go_ret
    rw [HB.out]
    exact ⟨rfl, (HI.out.drew _).setAt a1 hle, (HO.out.drewN _).setCell (by simp) _⟩
/-- the reader that is being filled, at its i-th byte -/
structure YFill (w : World) (b i : Nat) (L : List UInt8) (v : Value) (wx : World) : Prop where
  st : wx.heap[b]? = some (.cells #[v, .int .i64 0, .int .i64 0] 93 (0, 0))
  own : Own wx (b + 1) v i (L.take i)
  below : Below w.heap.size w wx
  eq : b = w.heap.size
theorem YFill.cell {w wx : World} {b i : Nat} {L : List UInt8} {v : Value} (h : YFill w b i L v wx) (j : Nat) : wx.cell? ⟨b, j, none⟩ = #[v, .int .i64 0, .int .i64 0][j]? := by rw [cell_of_row _ _ _ _ _ _ h.st]
theorem YFill.c0 {w wx : World} {b i : Nat} {L : List UInt8} {v : Value} (h : YFill w b i L v wx) : wx.cell? ⟨b, 0, none⟩ = some v := h.cell 0
theorem YFill.fz {w wx : World} {b i : Nat} {L : List UInt8} {v : Value} (h : YFill w b i L v wx) : wx.frozen? ⟨b, 0, none⟩ = false := frozen_of_row wx _ _ _ _ h.st
theorem YFill.row {w wx w1 : World} {b i : Nat} {L : List UInt8} {v : Value} (o : Obj) (h : YFill w b i L v wx) (g1 : (wx.drew.alloc o).grownBy w1 v.ownBlock) : w1.heap[b]? = some (.cells #[v, .int .i64 0, .int .i64 0] 93 (0, 0)) := by
  have hb := lt_of_block h.st
  refine (g1.block b (by simp; omega) (fun hm => ?_)).trans ((Below.heap_alloc _ _ _ (by simpa using hb)).trans h.st)
  have := (h.own.blk b hm.symm).1
  omega
theorem YFill.step {w wx w1 : World} {b i : Nat} {L L' : List UInt8} {v v1 : Value} (o : Obj) (h : YFill w b i L v wx) (h1 : Own w1 (b + 1) v1 (i + 1) L') (hL : L' = L.take (i + 1)) (g1 : (wx.drew.alloc o).grownBy w1 v.ownBlock) : YFill w b (i + 1) L v1 (w1.setCell ⟨b, 0, none⟩ v1) := by
  have hr := h.row o g1
  subst hL
  refine ⟨?_, ?_, ?_, h.eq⟩
  · rw [heap_setCell_same _ b 0 _ _ _ hr]; simp
  · exact h1.keep (S := [b]) ((Only.refl [b] w1).setCell (by simp) _) (fun k hk => by have := (h1.blk k hk).1; simp; omega)
  · refine Below.setCell ?_ (by rw [h.eq]; exact Nat.le_refl _) _
    exact ((below_drewN h.below 1).alloc (by have := h.below.size; simpa using this) o).grown g1 (by have := h.below.size; simp; omega) (fun k hk => by have := (h.own.blk k hk).1; have := h.eq; omega)
set_option maxHeartbeats 1000000 in
theorem py_NewReader (hr : Rd w A n c L) :
    Calls Try.prog 28 #[.slice A n c] w fun e1 w' => ∃ b A' c', e1 = .returned (.pointer (some ⟨b, 0, none⟩)) ∧ IsY w' b A' n c' L 0 0 ∧ w.heap.size ≤ b ∧ Below w.heap.size w w' ∧ (∀ p, A' = some p → w.heap.size ≤ p.block) := by
  have HR := Lib.hid hr
  have hmx := hr.max
  have HL := Lib.hid hr.len
  clear hr
  go_enter Try.func28, Try.ntmps28
  go_wp2_with fail
  obtain ⟨b, hb⟩ : ∃ b, b = w.heap.size := ⟨_, rfl⟩
  have HBE := Lib.hid hb
  have hrow := heap_alloc_new w (.cells #[.slice none 0 0, .int .i64 0, .int .i64 0] 93)
  rw [← hb] at hrow ⊢
  have HF0 := Lib.hid (show YFill w b 0 L (.slice none 0 0) (w.alloc (.cells #[.slice none 0 0, .int .i64 0, .int .i64 0] 93)) from ⟨hrow, Own.nil _ _, (Below.refl _ w).alloc (Nat.le_refl _) _, hb⟩)
  clear hb hrow
  go_loopw [4] (fun x wx => ∃ (i : Nat) (v : Value), i ≤ n ∧ x = .int .i64 i ∧ YFill w b i L v wx) (fun x _ => n - (intOf x).toNat)
  case atStart => exact ⟨0, _, by omega, rfl, HF0.out⟩
  case round =>
    obtain ⟨i, v, hi, rfl, hF⟩ := hrel
    have HF := Lib.hid hF
    have c0 := hF.c0
    have f0 := hF.fz
    have hbw := lt_of_block hF.st
    have hwz := hF.below.size
    obtain ⟨Av, cv, rfl⟩ := hF.own.slice
    clear hF
    by_cases hin : i < n
    · obtain ⟨bb, oo, rfl, hc⟩ := HR.out.at_ (by omega)
      have hci := cell_ext HF.out.below (hc i hin)
      obtain ⟨x, hx⟩ : ∃ x, x = L.getD i 0 := ⟨_, rfl⟩
      rw [← hx] at hci
      have HT := Lib.hid (show L.take i ++ [x] = L.take (i + 1) by rw [hx]; exact (take_snoc L i 0 (by rw [HL.out]; exact hin)).symm)
      have hw3 : (0 : Int) ≤ (i : Int) := by omega
      clear hc hx
      go_wp2_with fail
      go_region_law (first | (refine step_appB (W := wr.drew.alloc (.cells #[.int .u8 (x.toNat : Int)] 5)) (ys := [x]) (b + 1) (by exact HF.out.own.drew.alloc _) (by exact Rd.lit wr.drew [x] 1 rfl (by omega)) (by simp; omega) (by omega) _ _ rfl rfl rfl rfl ?_; intro v1 w1 hO1 hG1 hA1; obtain ⟨A1, k1, rfl⟩ := hO1.slice; have HX := Lib.hid (HF.out.step _ hO1 HT.out hG1); have hrw := HF.out.row _ hG1; have k0 : w1.cell? ⟨b, 0, none⟩ = _ := (cell_of_row _ _ 0 _ _ _ hrw); have k9 := frozen_of_row w1 b 0 _ _ hrw; clear hO1 hG1 hA1 hrw))
      all_goals (
        clear k0 k9
        go_wp2
        go_roundw
        case rel => exact ⟨i + 1, _, by omega, by go_num, HX.out⟩
        case measure => simp [intOf]; omega)
    · obtain rfl : n = i := by omega
      have HT := Lib.hid (show L.take n = L from List.take_of_length_le (by rw [HL.out]; exact Nat.le_refl _))
      have hO := HF.out.own
      rw [HT.out] at hO
      have hR := hO.rd hmx
      go_wp2
      go_ret
      obtain ⟨A', c', he, hR⟩ := hR
      injection he with e1 e2 e3
      subst e1 e3
      refine ⟨b, Av, cv, rfl, ⟨HF.out.st, hR, fun p hp => ?_, by omega⟩, by rw [HBE.out]; exact Nat.le_refl _, HF.out.below, fun p hp => ?_⟩
      · have := hO.sep p hp; omega
      · have := hO.sep p hp; have := HBE.out; omega
end
end Go.Proofs.Ytclafljkeaekfaa
