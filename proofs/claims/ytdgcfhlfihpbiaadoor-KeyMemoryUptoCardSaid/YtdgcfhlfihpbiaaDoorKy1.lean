/- Walks: the laws' helpers of key. -/
import Derived.Test.YtdgcfhlfihpbiaaDoorOwnT
import Derived.Test.YtdgcfhlfihpbiaaDoorKyMath
import Derived.Deep.QuietTactic
import Derived.BigQuiet
set_option linter.unusedVariables false
set_option linter.unusedSimpArgs false
set_option maxRecDepth 100000
namespace Go.Proofs.YtdgcfhlfihpbiaaDoor
open Go.RowKit
theorem takeT_snoc (l : List ByteArray) (k : Nat) (h : k < l.length) : l.take (k + 1) = l.take k ++ [l.getD k default] := by
  rw [List.take_succ_eq_append_getElem h, List.getD_eq_getElem?_getD, List.getElem?_eq_getElem h]; rfl
theorem memT (l : List ByteArray) (k : Nat) (h : k < l.length) : l.getD k default ∈ l := by
  rw [List.getD_eq_getElem?_getD, List.getElem?_eq_getElem h]
  exact List.getElem_mem _
theorem strs_inj {s s' : ByteArray} (h : s.toList = s'.toList) : s = s' := by
  rw [ByteArray.toList_eq, ByteArray.toList_eq] at h
  cases s; cases s'; congr 1; exact Array.toList_inj.1 h
theorem l5_own (A : Option Addr) (n c : Nat) (l : List ByteArray) (w : World) (hr : RdT w A n c l) (hn : n ≤ 12000000000000) :
    Calls Tryd.prog 20 #[.slice A n c] w fun e w' => ∃ u, e = .returned u ∧ OwnT w' w.heap.size u n l ∧ Below w.heap.size w w' := by
  have HR := Lib.hid hr
  have HL := Lib.hid hr.len
  clear hr
  go_enter Tryd.func20, Tryd.ntmps20
  go_wp2_with fail
  go_loopw [3, 4] (fun v x wr => ∃ k : Nat, k ≤ n ∧ x = .int .i64 k ∧ OwnT wr w.heap.size v k (l.take k) ∧ Below w.heap.size w wr) (fun _ x _ => n - (intOf x).toNat)
  case atStart => exact ⟨0, by omega, rfl, OwnT.nil _ _, Below.refl _ _⟩
  case round =>
    obtain ⟨k, hk, rfl, hO, hB⟩ := hrel
    have HO := Lib.hid hO
    have HB := Lib.hid hB
    have hz := hB.size
    clear hO hB
    by_cases hkn : k < n
    · obtain ⟨bb, oo, rfl, hc⟩ := HR.out.at_ (by omega)
      have hck := cell_ext (w' := wr) (w := w) (hb := (HB.out)) (hc k hkn)
      clear hc
      obtain ⟨x, hx⟩ : ∃ x, x = l.getD k default := ⟨_, rfl⟩
      rw [← hx] at hck
      have HT := Lib.hid (show l.take (k + 1) = l.take k ++ [x] by rw [hx]; exact takeT_snoc l k (by rw [HL.out]; exact hkn))
      clear hx
      go_wp2_with (at_builtin; refine wp_appT1 w.heap.size x HO.out hz (by omega) _ _ rfl rfl rfl rfl ?_; intro v1 w1 hO1 hG1 hA1; have HO1 := Lib.hid hO1; have HG1 := Lib.hid hG1; clear hO1 hG1 hA1)
      go_roundw
      case rel => exact ⟨k + 1, by omega, by go_num, by rw [HT.out]; exact HO1.out, (HB.out.alloc HB.out.size _).grown HG1.out (by simp; omega) (fun q hq => (HO.out.blk q hq).1)⟩
      case measure => simp [intOf]; omega
    · obtain rfl : n = k := by omega
      have HT := Lib.hid (show l.take n = l from List.take_of_length_le (by rw [HL.out]; omega))
      go_wp2
      go_ret
      exact ⟨_, rfl, by rw [← HT.out]; exact HO.out, HB.out⟩
theorem l5_same (A A' : Option Addr) (n c n' c' : Nat) (l l' : List ByteArray) (w : World) (hr : RdT w A n c l) (hr' : RdT w A' n' c' l') :
    Calls Tryd.prog 16 #[.slice A n c, .slice A' n' c'] w fun e w' => e = .returned (.bool (decide (l = l'))) ∧ Only [] w w' := by
  have HR := Lib.hid hr
  have HR' := Lib.hid hr'
  have hm := hr.max
  have hm' := hr'.max
  have HL := Lib.hid hr.len
  have HL' := Lib.hid hr'.len
  clear hr hr'
  by_cases hnn : n = n'
  · subst hnn
    obtain ⟨t, ht⟩ : ∃ t, t = decide (l = l') := ⟨_, rfl⟩
    rw [← ht]
    have HT := Lib.hid ht
    clear ht
    go_enter Tryd.func16, Tryd.ntmps16
    go_wp2_with fail
    go_loopw [5] (fun x wr => ∃ k : Nat, k ≤ n ∧ x = .int .i64 k ∧ l.take k = l'.take k ∧ Only [] w wr) (fun x _ => n - (intOf x).toNat)
    case atStart => exact ⟨0, by omega, rfl, by simp, Only.refl _ _⟩
    case round =>
      obtain ⟨k, hk, rfl, hE, hO⟩ := hrel
      have HE := Lib.hid hE
      have HO := Lib.hid hO
      clear hE hO
      by_cases hkn : k < n
      · obtain ⟨bb, oo, rfl, hc⟩ := (HR.out.keep HO.out (by simp)).at_ (by omega)
        obtain ⟨b2, o2, rfl, hc2⟩ := (HR'.out.keep HO.out (by simp)).at_ (by omega)
        have hck := hc k hkn
        have hck2 := hc2 k hkn
        clear hc hc2
        obtain ⟨x, hx⟩ : ∃ x, x = l.getD k default := ⟨_, rfl⟩
        obtain ⟨y, hy⟩ : ∃ y, y = l'.getD k default := ⟨_, rfl⟩
        rw [← hx] at hck
        rw [← hy] at hck2
        have hk0 : (0 : Int) ≤ (k : Int) ∧ (k : Int) < (n : Int) := by omega
        by_cases hxy : x = y
        · have HS := Lib.hid (show l.take (k + 1) = l'.take (k + 1) by
            rw [takeT_snoc l k (by rw [HL.out]; exact hkn), takeT_snoc l' k (by rw [HL'.out]; exact hkn), HE.out, ← hx, ← hy, hxy])
          subst hxy
          clear hx hy
          go_wp2_with fail
          go_quiet ((fail))
          go_wp2
          go_roundw
          case rel => exact ⟨k + 1, by omega, by go_num, HS.out, HO.out.drewN _⟩
          case measure => simp [intOf]; omega
        · have HN := Lib.hid (show t = false by
            rw [HT.out]
            refine decide_eq_false fun h => hxy ?_
            rw [hx, hy, h])
          have hxy2 : ¬ x.toList = y.toList := fun h => hxy (strs_inj h)
          have hxy3 : (x.toList == y.toList) = false := beq_eq_false_iff_ne.2 hxy2
          clear hx hy hxy
          go_wp2_with fail
          go_quiet ((fail))
          go_wp2
          go_ret
          rw [HN.out]
          exact ⟨by simp, HO.out.drewN _⟩
      · obtain rfl : k = n := by omega
        have HN := Lib.hid (show t = true by
          have h := HE.out
          rw [List.take_of_length_le (by rw [HL.out]; exact Nat.le_refl _), List.take_of_length_le (by rw [HL'.out]; exact Nat.le_refl _)] at h
          rw [HT.out, h]; simp)
        go_wp2
        go_ret
        rw [HN.out]
        exact ⟨by simp, HO.out⟩
  · have hn1 : ((n : Int) != (n' : Int)) = true := by simp; omega
    have HN := Lib.hid (show decide (l = l') = false from decide_eq_false fun h => hnn (by rw [← HL.out, ← HL'.out, h]))
    clear hnn
    go_enter Tryd.func16, Tryd.ntmps16
    go_wp2
    go_ret
    rw [HN.out]
    exact ⟨by simp, Only.refl _ _⟩
theorem cut_toT (A : Option Addr) (n c hi : Nat) (h2 : hi ≤ n) (h3 : n ≤ c) (W : World) : (Instr.slice 23 (.slice A n c) none (some (.int .i64 (hi : Int))) none).run Tryd.prog W = .ok (.slice A hi c) W := by
  obtain ⟨i0, hi0, hzz⟩ := Option.map_eq_some_iff.1 info_str
  simp only [Prod.mk.injEq] at hzz
  obtain ⟨hz0, hz1, hz2⟩ := hzz
  have hel : Tryd.prog.elem 23 = 9 := by simp [Program.elem, Tryd.underlying23]
  have hu : Tryd.prog.underlying 23 = some (.slice (Tryd.prog.elem 23)) := by rw [hel]; exact Tryd.underlying23
  rw [run_slice_h W 23 A n c hu .i64 (hi : Int) (Int.natCast_nonneg _) (by omega), hel]
  have ha : A.map (fun x => x.add 0) = A := by cases A <;> simp [Addr.add]
  simp [sizeOf, typeInfo, hi0, hz1, sliced, Result.andThen, ha]
def markS : ByteArray := ⟨#[109, 97, 114, 107]⟩
theorem l5_roomy (A : Option Addr) (n c : Nat) (l : List ByteArray) (w : World) (hr : RdT w A n c l) (hn : n ≤ 12000000000000) :
    Calls Tryd.prog 17 #[.slice A n c] w fun e w' => ∃ u, e = .returned u ∧ OwnT w' w.heap.size u (n + 2) (l ++ [markS, markS]) ∧ Below w.heap.size w w' := by
  have HR := Lib.hid hr
  clear hr
  go_enter Tryd.func17, Tryd.ntmps17
  go_wp2_with fail
  refine (l5_own A n c l w HR.out hn).mono ?_
  rintro e w1 ⟨u, rfl, hO, hB⟩
  have HO := Lib.hid hO
  have HB := Lib.hid hB
  have hz := hB.size
  clear hO hB
  go_wp2_with (at_builtin; refine wp_appT w.heap.size (HO.out.alloc _) (RdT.lit w1 [markS, markS] 2 rfl (by omega)) (by simp; omega) (by omega) _ _ rfl rfl rfl rfl ?_; intro v2 w2 hO2 hG2 hA2; have HO2 := Lib.hid hO2; have HG2 := Lib.hid hG2; clear hO2 hG2 hA2)
  go_ret
  exact ⟨_, rfl, HO2.out, (HB.out.alloc hz _).grown HG2.out (by simp; omega) (fun q hq => (HO.out.blk q hq).1)⟩
theorem l5_intact (A A' : Option Addr) (n c n' c' : Nat) (l l' : List ByteArray) (w : World) (hr : RdT w A n c l) (hr' : RdT w A' n' c' l') (hn : n' ≤ 12000000000000) :
    Calls Tryd.prog 21 #[.slice A n c, .slice A' n' c'] w fun e w' => e = .returned (.bool (decide (l = l' ++ [markS, markS]))) ∧ Below w.heap.size w w' := by
  have HR := Lib.hid hr
  have HR' := Lib.hid hr'
  clear hr hr'
  go_enter Tryd.func21, Tryd.ntmps21
  go_wp2_with fail
  refine (l5_roomy A' n' c' l' w HR'.out hn).mono ?_
  rintro e w1 ⟨u, rfl, hO, hB⟩
  obtain ⟨A1, c1, rfl, hR1⟩ := hO.rd (by omega)
  have HR1 := Lib.hid hR1
  have HB := Lib.hid hB
  have HRx := Lib.hid (HR.out.ext hB)
  clear hO hB hR1
  go_wp2_with fail
  refine (l5_same A A1 n c (n' + 2) c1 l (l' ++ [markS, markS]) w1 HRx.out HR1.out).mono ?_
  rintro e w2 ⟨rfl, hO2⟩
  have HB2 := Lib.hid (HB.out.trans (hO2.below HB.out.size (by simp)))
  clear hO2
  go_wp2
  go_ret
  exact ⟨rfl, HB2.out⟩
end Go.Proofs.YtdgcfhlfihpbiaaDoor
