/- Walks: ownTexts, sameTexts, Texts, the reference's Texts. -/
import Derived.Test.YtclafljkeaekfaaOwnT
import Derived.Test.YtclafljkeaekfaaPx2
import Derived.Test.YtclafljkeaekfaaPk7
import Derived.Deep.QuietTactic
import Derived.BigQuiet
set_option linter.unusedVariables false
set_option linter.unusedSimpArgs false
set_option maxRecDepth 100000
namespace Go.Proofs.Ytclafljkeaekfaa
open Go.RowKit
theorem takeT_snoc (l : List ByteArray) (k : Nat) (h : k < l.length) : l.take (k + 1) = l.take k ++ [l.getD k default] := by
  rw [List.take_succ_eq_append_getElem h, List.getD_eq_getElem?_getD, List.getElem?_eq_getElem h]; rfl
theorem memT (l : List ByteArray) (k : Nat) (h : k < l.length) : l.getD k default ∈ l := by
  rw [List.getD_eq_getElem?_getD, List.getElem?_eq_getElem h]
  exact List.getElem_mem _
theorem strs_inj {s s' : ByteArray} (h : s.toList = s'.toList) : s = s' := by
  rw [ByteArray.toList_eq, ByteArray.toList_eq] at h
  cases s; cases s'; congr 1; exact Array.toList_inj.1 h
theorem l2_ownTexts (A : Option Addr) (n c : Nat) (l : List ByteArray) (w : World) (hr : RdT w A n c l) (hn : n ≤ 12000000000000) :
    Calls Try.prog 37 #[.slice A n c] w fun e w' => ∃ u, e = .returned u ∧ OwnT w' w.heap.size u n l ∧ Below w.heap.size w w' := by
  have HR := Lib.hid hr
  have HL := Lib.hid hr.len
  clear hr
  go_enter Try.func37, Try.ntmps37
  go_wp2_with fail
  go_loopw [3, 4] (fun v x wr => ∃ k : Nat, k ≤ n ∧ x = .int .i64 k ∧ OwnT wr w.heap.size v k (l.take k) ∧ Below w.heap.size w wr) (fun _ x _ => n - (intOf x).toNat)
  case atStart => exact ⟨0, by omega, rfl, OwnT.nil _ _, Below.refl _ _⟩
  case round =>
    obtain ⟨k, hk, rfl, hO, hB⟩ := hrel
    have HO := Lib.hid hO
    have HB := Lib.hid hB
    have hz := hB.size
    clear hO hB
    by_cases hkn : k < n
    · obtain ⟨bb, oo, rfl, hc⟩ := HR.out.at_ (by omega)
      have hck := cell_ext (w' := wr) (w := w) (hb := (HB.out)) (hc k hkn)
      clear hc
      obtain ⟨x, hx⟩ : ∃ x, x = l.getD k default := ⟨_, rfl⟩
      rw [← hx] at hck
      have HT := Lib.hid (show l.take (k + 1) = l.take k ++ [x] by rw [hx]; exact takeT_snoc l k (by rw [HL.out]; exact hkn))
      clear hx
      go_wp2_with (at_builtin; refine wp_appT1 w.heap.size x HO.out hz (by omega) _ _ rfl rfl rfl rfl ?_; intro v1 w1 hO1 hG1 hA1; have HO1 := Lib.hid hO1; have HG1 := Lib.hid hG1; clear hO1 hG1 hA1)
      go_roundw
      case rel => exact ⟨k + 1, by omega, by go_num, by rw [HT.out]; exact HO1.out, (HB.out.alloc HB.out.size _).grown HG1.out (by simp; omega) (fun q hq => (HO.out.blk q hq).1)⟩
      case measure => simp [intOf]; omega
    · obtain rfl : n = k := by omega
      have HT := Lib.hid (show l.take n = l from List.take_of_length_le (by rw [HL.out]; omega))
      go_wp2
      go_ret
      exact ⟨_, rfl, by rw [← HT.out]; exact HO.out, HB.out⟩
theorem l2_sameTexts (A A' : Option Addr) (n c n' c' : Nat) (l l' : List ByteArray) (w : World) (hr : RdT w A n c l) (hr' : RdT w A' n' c' l') :
    Calls Try.prog 40 #[.slice A n c, .slice A' n' c'] w fun e w' => e = .returned (.bool (decide (l = l'))) ∧ Only [] w w' := by
  have HR := Lib.hid hr
  have HR' := Lib.hid hr'
  have hm := hr.max
  have hm' := hr'.max
  have HL := Lib.hid hr.len
  have HL' := Lib.hid hr'.len
  clear hr hr'
  by_cases hnn : n = n'
  · subst hnn
    obtain ⟨t, ht⟩ : ∃ t, t = decide (l = l') := ⟨_, rfl⟩
    rw [← ht]
    have HT := Lib.hid ht
    clear ht
    go_enter Try.func40, Try.ntmps40
    go_wp2_with fail
    go_loopw [5] (fun x wr => ∃ k : Nat, k ≤ n ∧ x = .int .i64 k ∧ l.take k = l'.take k ∧ Only [] w wr) (fun x _ => n - (intOf x).toNat)
    case atStart => exact ⟨0, by omega, rfl, by simp, Only.refl _ _⟩
    case round =>
      obtain ⟨k, hk, rfl, hE, hO⟩ := hrel
      have HE := Lib.hid hE
      have HO := Lib.hid hO
      clear hE hO
      by_cases hkn : k < n
      · obtain ⟨bb, oo, rfl, hc⟩ := (HR.out.keep HO.out (by simp)).at_ (by omega)
        obtain ⟨b2, o2, rfl, hc2⟩ := (HR'.out.keep HO.out (by simp)).at_ (by omega)
        have hck := hc k hkn
        have hck2 := hc2 k hkn
        clear hc hc2
        obtain ⟨x, hx⟩ : ∃ x, x = l.getD k default := ⟨_, rfl⟩
        obtain ⟨y, hy⟩ : ∃ y, y = l'.getD k default := ⟨_, rfl⟩
        rw [← hx] at hck
        rw [← hy] at hck2
        have hk0 : (0 : Int) ≤ (k : Int) ∧ (k : Int) < (n : Int) := by omega
        by_cases hxy : x = y
        · have HS := Lib.hid (show l.take (k + 1) = l'.take (k + 1) by
            rw [takeT_snoc l k (by rw [HL.out]; exact hkn), takeT_snoc l' k (by rw [HL'.out]; exact hkn), HE.out, ← hx, ← hy, hxy])
          subst hxy
          clear hx hy
          go_wp2_with fail
          go_quiet ((fail))
          go_wp2
          go_roundw
          case rel => exact ⟨k + 1, by omega, by go_num, HS.out, HO.out.drewN _⟩
          case measure => simp [intOf]; omega
        · have HN := Lib.hid (show t = false by
            rw [HT.out]
            refine decide_eq_false fun h => hxy ?_
            rw [hx, hy, h])
          have hxy2 : ¬ x.toList = y.toList := fun h => hxy (strs_inj h)
          have hxy3 : (x.toList == y.toList) = false := beq_eq_false_iff_ne.2 hxy2
          clear hx hy hxy
          go_wp2_with fail
          go_quiet ((fail))
          go_wp2
          go_ret
          rw [HN.out]
          exact ⟨by simp, HO.out.drewN _⟩
      · obtain rfl : k = n := by omega
        have HN := Lib.hid (show t = true by
          have h := HE.out
          rw [List.take_of_length_le (by rw [HL.out]; exact Nat.le_refl _), List.take_of_length_le (by rw [HL'.out]; exact Nat.le_refl _)] at h
          rw [HT.out, h]; simp)
        go_wp2
        go_ret
        rw [HN.out]
        exact ⟨by simp, HO.out⟩
  · have hn1 : ((n : Int) != (n' : Int)) = true := by simp; omega
    have HN := Lib.hid (show decide (l = l') = false from decide_eq_false fun h => hnn (by rw [← HL.out, ← HL'.out, h]))
    clear hnn
    go_enter Try.func40, Try.ntmps40
    go_wp2
    go_ret
    rw [HN.out]
    exact ⟨by simp, Only.refl _ _⟩
/-- what is written of the count and the first k texts -/
def txL (M : Nat) (l : List ByteArray) : Nat → List UInt8 × Int
  | 0 => (layL M [] (cntE 0 l.length) (nf (cntN l.length)), layE M [] (cntE 0 l.length) (nf (cntN l.length)))
  | k + 1 => (layL M (txL M l k).1 (txL M l k).2 (nf (l.getD k default).size ++ (l.getD k default).data.toList), layE M (txL M l k).1 (txL M l k).2 (nf (l.getD k default).size ++ (l.getD k default).data.toList))
theorem txL_big {M : Nat} {l : List ByteArray} (h : 4096 < l.length) : ∀ k, (txL M l k).2 = 1
  | 0 => by
    have : cntE 0 (l.length : Int) = 1 := by unfold cntE; rw [if_pos ⟨rfl, .inr (by omega)⟩]
    rw [txL, this]
    exact (lay_stuck (lim := M) (L := []) (F := nf (cntN l.length)) (e := 1) (by decide)).2
  | k + 1 => by
    have h9 : (txL M l k).2 ≠ 0 := by rw [txL_big h k]; decide
    rw [txL]
    dsimp only
    rw [(lay_stuck h9).2, txL_big h k]
def TxPost (w : World) (L : List UInt8) (e : Int) (e1 : Ending) (w' : World) : Prop :=
  (e = 0 → ∃ u, e1 = .returned (.tuple #[u, .int .i64 0]) ∧ Own w' w.heap.size u L.length L) ∧ (e ≠ 0 → e1 = .returned (.tuple #[.slice none 0 0, .int .i64 e])) ∧ Below w.heap.size w w'
/-- the writer in the loop -/
def TI_pk (w : World) (b : Nat) (l : List ByteArray) (k : Nat) (wx : World) : Prop := ∃ v, IsW wx b (b + 1) 1048576 (txL 1048576 l k).1 v (txL 1048576 l k).2 ∧ Below w.heap.size w wx
theorem pk_Texts (A : Option Addr) (n c : Nat) (l : List ByteArray) (w : World) (hr : RdT w A n c l) (hs : ∀ x ∈ l, x.size ≤ 140737488351232) :
    Calls Try.prog 38 #[.slice A n c] w (TxPost w (txL 1048576 l n).1 (txL 1048576 l n).2) := by
  have HR := Lib.hid hr
  have hmx := hr.max
  have HL := Lib.hid hr.len
  have HS := Lib.hid hs
  clear hr hs
  go_enter Try.func38, Try.ntmps38
  go_wp2_with fail
  refine (pk_NewWriter 1048576 w).mono ?_
  rintro e w1 ⟨rfl, hW, hB⟩
  rw [show clampW 1048576 = 1048576 by decide] at hW
  obtain ⟨b, hb⟩ : ∃ b, b = w.heap.size := ⟨_, rfl⟩
  rw [← hb] at hW ⊢
  have HW := Lib.hid hW
  have HB := Lib.hid hB
  have HBB := Lib.hid hb
  clear hW hB hb
  go_wp2_with fail
  refine (pk_WCount b _ _ _ _ _ _ (n : Int) (by omega) HW.out).mono ?_
  rintro e w2 ⟨rfl, hP⟩
  have HP := Lib.hid (show TI_pk w b l 0 w2 by
    obtain ⟨v', hI, hO, _⟩ := hP
    refine ⟨v', ?_, HB.out.trans (hO.below HB.out.size (by simp [Value.ownBlock]; rw [HBB.out]; omega))⟩
    rw [txL, HL.out]; exact hI)
  clear hP
  go_wp2_with fail
  go_loopw [6, 14] (fun _ x wx => ∃ k : Nat, k ≤ n ∧ x = .int .i64 k ∧ TI_pk w b l k wx) (fun _ x _ => n - (intOf x).toNat)
  case atStart => exact ⟨0, by omega, rfl, HP.out⟩
  case round =>
    obtain ⟨k, hk, rfl, v, hI, hBx⟩ := hrel
    have HI := Lib.hid hI
    have HBx := Lib.hid hBx
    clear hI hBx
    by_cases hkn : k < n
    · obtain ⟨bb, oo, rfl, hc⟩ := HR.out.at_ (by omega)
      have hck := cell_ext HBx.out (hc k hkn)
      clear hc
      have hsz := HS.out _ (memT l k (by rw [HL.out]; exact hkn))
      obtain ⟨x, hx⟩ : ∃ x, x = l.getD k default := ⟨_, rfl⟩
      rw [← hx] at hck hsz
      have HX := Lib.hid hx
      clear hx
      go_wp2_with fail
      refine (pk_WText b _ _ _ _ _ _ x (by omega) HI.out).mono ?_
      rintro e2 w3 ⟨rfl, hP⟩
      have HP3 := Lib.hid (show TI_pk w b l (k + 1) w3 by
        have hz := HI.out.lt
        have hown := HI.out.own
        obtain ⟨v', hI3, hO3, _⟩ := hP
        refine ⟨v', ?_, HBx.out.trans (hO3.below HBx.out.size (fun q hq => ?_))⟩
        · rw [txL, ← HX.out]; exact hI3
        · have hbb := HBB.out
          rcases List.mem_cons.1 hq with rfl | hq
          · omega
          · have := (hown.blk q (by simpa using hq)).1; omega)
      clear hP
      go_wp2
      go_roundw
      case rel => exact ⟨k + 1, by omega, by go_num, HP3.out⟩
      case measure => simp [intOf]; omega
    · obtain rfl : n = k := by omega
      by_cases he : (txL 1048576 l n).2 = 0
      · have hI := HI.out
        rw [he] at hI
        have HI0 := Lib.hid hI
        have HE := Lib.hid he
        clear hI he
        go_wp2_with fail
        refine (pk_WOut_ok b _ _ _ _ _ HI0.out).mono ?_
        rintro e w4 ⟨u, rfl, hO, hB⟩
        have HO := Lib.hid hO
        have HB4 := Lib.hid (HBx.out.trans (hB.mono HBx.out.size))
        have hsz := HBx.out.size
        clear hO hB
        go_wp2
        go_ret2
        exact ⟨fun _ => ⟨u, rfl, HO.out.mono hsz⟩, fun h => absurd HE.out h, HB4.out⟩
      · have HE := Lib.hid he
        obtain ⟨e', hee⟩ : ∃ e', e' = (txL 1048576 l n).2 := ⟨_, rfl⟩
        rw [← hee] at HE HI
        have HEE := Lib.hid hee
        clear he hee
        go_wp2_with fail
        refine (pk_WOut_bad b _ _ _ _ e' _ HE.out HI.out).mono ?_
        rintro e w4 ⟨rfl, hO⟩
        have HB4 := Lib.hid (HBx.out.trans (hO.below HBx.out.size (by simp)))
        clear hO
        go_wp2
        go_ret2
        rw [← HEE.out]
        exact ⟨fun h => absurd h HE.out, fun _ => rfl, HB4.out⟩
/-- the writer in the loop -/
def TI_px (w : World) (b : Nat) (l : List ByteArray) (k : Nat) (wx : World) : Prop := ∃ v, IsX wx b (b + 1) 1048576 (txL 1048576 l k).1 v (txL 1048576 l k).2 ∧ Below w.heap.size w wx
theorem px_Texts (A : Option Addr) (n c : Nat) (l : List ByteArray) (w : World) (hr : RdT w A n c l) (hs : ∀ x ∈ l, x.size ≤ 140737488351232) (hn : n ≤ 4096) :
    Calls Try.prog 39 #[.slice A n c] w (TxPost w (txL 1048576 l n).1 (txL 1048576 l n).2) := by
  have HR := Lib.hid hr
  have hmx := hr.max
  have HL := Lib.hid hr.len
  have HS := Lib.hid hs
  clear hr hs
  go_enter Try.func39, Try.ntmps39
  go_wp2_with fail
  refine (px_NewWriter 1048576 w).mono ?_
  rintro e w1 ⟨rfl, hW, hB⟩
  rw [show clampW 1048576 = 1048576 by decide] at hW
  obtain ⟨b, hb⟩ : ∃ b, b = w.heap.size := ⟨_, rfl⟩
  rw [← hb] at hW ⊢
  have HW := Lib.hid hW
  have HB := Lib.hid hB
  have HBB := Lib.hid hb
  clear hW hB hb
  go_wp2_with fail
  refine (px_WCount b _ _ _ _ _ _ (n : Int) (by omega) HW.out).mono ?_
  rintro e w2 ⟨rfl, hP⟩
  have HP := Lib.hid (show TI_px w b l 0 w2 by
    obtain ⟨v', hI, hO, _⟩ := hP
    refine ⟨v', ?_, HB.out.trans (hO.below HB.out.size (by simp [Value.ownBlock]; rw [HBB.out]; omega))⟩
    rw [txL, HL.out]; exact hI)
  clear hP
  go_wp2_with fail
  go_loopw [5] (fun x wx => ∃ k : Nat, k ≤ n ∧ x = .int .i64 k ∧ TI_px w b l k wx) (fun x _ => n - (intOf x).toNat)
  case atStart => exact ⟨0, by omega, rfl, HP.out⟩
  case round =>
    obtain ⟨k, hk, rfl, v, hI, hBx⟩ := hrel
    have HI := Lib.hid hI
    have HBx := Lib.hid hBx
    clear hI hBx
    by_cases hkn : k < n
    · obtain ⟨bb, oo, rfl, hc⟩ := HR.out.at_ (by omega)
      have hck := cell_ext HBx.out (hc k hkn)
      clear hc
      have hsz := HS.out _ (memT l k (by rw [HL.out]; exact hkn))
      obtain ⟨x, hx⟩ : ∃ x, x = l.getD k default := ⟨_, rfl⟩
      rw [← hx] at hck hsz
      have HX := Lib.hid hx
      clear hx
      go_wp2_with fail
      refine (px_WText b _ _ _ _ _ _ x (by omega) HI.out).mono ?_
      rintro e2 w3 ⟨rfl, hP⟩
      have HP3 := Lib.hid (show TI_px w b l (k + 1) w3 by
        have hz := HI.out.lt
        have hown := HI.out.own
        obtain ⟨v', hI3, hO3, _⟩ := hP
        refine ⟨v', ?_, HBx.out.trans (hO3.below HBx.out.size (fun q hq => ?_))⟩
        · rw [txL, ← HX.out]; exact hI3
        · have hbb := HBB.out
          rcases List.mem_cons.1 hq with rfl | hq
          · omega
          · have := (hown.blk q (by simpa using hq)).1; omega)
      clear hP
      go_wp2
      go_roundw
      case rel => exact ⟨k + 1, by omega, by go_num, HP3.out⟩
      case measure => simp [intOf]; omega
    · obtain rfl : n = k := by omega
      by_cases he : (txL 1048576 l n).2 = 0
      · have hI := HI.out
        rw [he] at hI
        have HI0 := Lib.hid hI
        have HE := Lib.hid he
        clear hI he
        go_wp2_with fail
        refine (px_WOut_ok b _ _ _ _ _ HI0.out).mono ?_
        rintro e w4 ⟨u, rfl, hO, hB⟩
        have HO := Lib.hid hO
        have HB4 := Lib.hid (HBx.out.trans (hB.mono HBx.out.size))
        have hsz := HBx.out.size
        clear hO hB
        go_wp2
        go_ret2
        exact ⟨fun _ => ⟨u, rfl, HO.out.mono hsz⟩, fun h => absurd HE.out h, HB4.out⟩
      · have HE := Lib.hid he
        obtain ⟨e', hee⟩ : ∃ e', e' = (txL 1048576 l n).2 := ⟨_, rfl⟩
        rw [← hee] at HE HI
        have HEE := Lib.hid hee
        clear he hee
        go_wp2_with fail
        refine (px_WOut_bad b _ _ _ _ e' _ HE.out HI.out).mono ?_
        rintro e w4 ⟨rfl, hO⟩
        have HB4 := Lib.hid (HBx.out.trans (hO.below HBx.out.size (by simp)))
        clear hO
        go_wp2
        go_ret2
        rw [← HEE.out]
        exact ⟨fun h => absurd h HE.out, fun _ => rfl, HB4.out⟩
theorem px_TextsA (A : Option Addr) (n c : Nat) (l : List ByteArray) (w : World) (hr : RdT w A n c l) (hs : ∀ x ∈ l, x.size ≤ 140737488351232) :
    Calls Try.prog 39 #[.slice A n c] w (TxPost w (txL 1048576 l n).1 (txL 1048576 l n).2) := by
  by_cases hn : n ≤ 4096
  · exact px_Texts A n c l w hr hs hn
  · have hb := txL_big (M := 1048576) (l := l) (by rw [hr.len]; omega) n
    have hm := hr.max
    have hn2 : (4096 : Int) < (n : Int) := by omega
    have HB := Lib.hid hb
    clear hb hr hs hn
    go_enter Try.func39, Try.ntmps39
    go_wp2
    go_ret2
    rw [HB.out]
    exact ⟨fun h => by simp at h, fun _ => rfl, Below.refl _ _⟩
end Go.Proofs.Ytclafljkeaekfaa
