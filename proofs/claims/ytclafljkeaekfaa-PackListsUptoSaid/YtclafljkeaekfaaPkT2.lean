/- Walks: Untexts, the reference's Untexts. -/
import Derived.Test.YtclafljkeaekfaaPkT1
import Derived.Test.YtclafljkeaekfaaPy3
import Derived.Test.YtclafljkeaekfaaPk12
import Derived.Test.YtclafljkeaekfaaPkL2
set_option linter.unusedVariables false
set_option linter.unusedSimpArgs false
set_option maxRecDepth 100000
namespace Go.Proofs.Ytclafljkeaekfaa
open Go.RowKit
def ux (D : List UInt8) : Nat → List ByteArray × Nat × Int
  | 0 => ([], (rC D 0 0 4096).2)
  | k + 1 => ((ux D k).1 ++ [bstr (rT D (ux D k).2.1 (ux D k).2.2 1048576).1], (rT D (ux D k).2.1 (ux D k).2.2 1048576).2)
def uxN (D : List UInt8) : Nat := (rC D 0 0 4096).1
def uxE (D : List UInt8) : Int := rE D.length (ux D (uxN D)).2.1 (ux D (uxN D)).2.2
def uxA (D : List UInt8) : List ByteArray × Int := if 1048576 < D.length then ([], 23) else if uxE D ≠ 0 then ([], uxE D) else ((ux D (uxN D)).1, 0)
theorem rT_stuck {L : List UInt8} {a : Nat} {e most : Int} (he : e ≠ 0) : rT L a e most = ([], a, e) := by
  unfold rT
  rw [rU_stuck he]
  exact if_pos he
theorem ux_len (D : List UInt8) : ∀ k, (ux D k).1.length = k
  | 0 => rfl
  | k + 1 => by rw [ux, List.length_append, ux_len D k]; rfl
theorem ux_stuck (D : List UInt8) (k : Nat) (he : (ux D k).2.2 ≠ 0) : ∀ m, (ux D (k + m)).2.2 = (ux D k).2.2
  | 0 => rfl
  | m + 1 => by
    have ih := ux_stuck D k he m
    show (rT D (ux D (k + m)).2.1 (ux D (k + m)).2.2 1048576).2.2 = _
    rw [rT_stuck (by rw [ih]; exact he)]; exact ih
theorem rE_stuck {n a : Nat} {e : Int} (he : e ≠ 0) : rE n a e = e := if_neg (fun h => he h.1)
theorem uxE_early (D : List UInt8) (k : Nat) (hk : k ≤ uxN D) (he : (ux D k).2.2 ≠ 0) : uxE D = (ux D k).2.2 := by
  obtain ⟨m, hm⟩ : ∃ m, uxN D = k + m := ⟨uxN D - k, by omega⟩
  unfold uxE
  rw [hm, ux_stuck D k he m, rE_stuck he]
theorem uxN_le (D : List UInt8) : uxN D ≤ 4096 := by
  unfold uxN rC
  split
  · simp
  · split
    · simp
    · rename_i h; simp only; omega
def UxPost (w : World) (D : List UInt8) (e1 : Ending) (w' : World) : Prop :=
  ∃ u, e1 = .returned (.tuple #[u, .int .i64 (uxA D).2]) ∧ OwnT w' w.heap.size u (uxA D).1.length (uxA D).1 ∧ Below w.heap.size w w'
theorem UxPost.bad {w w' : World} {D : List UInt8} {e : Int} (hD : D.length ≤ 1048576) (he : e ≠ 0) (h : uxE D = e) (hB : Below w.heap.size w w') : UxPost w D (.returned (.tuple #[.slice none 0 0, .int .i64 e])) w' := by
  have h1 : uxA D = ([], e) := by unfold uxA; rw [if_neg (by omega), if_pos (by rw [h]; exact he), h]
  unfold UxPost
  rw [h1]
  exact ⟨_, rfl, OwnT.nil _ _, hB⟩
theorem Rd.keepZ {w w' : World} {A : Option Addr} {n c : Nat} {L : List UInt8} {S : List Nat} (h : Rd w A n c L) (hw : Only S w w') (hs : 0 < n → ∀ p, A = some p → p.block ∉ S) : Rd w' A n c L := by
  rcases Nat.eq_zero_or_pos n with h0 | h0
  · exact ⟨h.len, h.cap, h.max, fun hp => by omega⟩
  · exact h.keep hw (hs h0)
theorem Rd.blkZ {w : World} {n c : Nat} {A : Option Addr} {L : List UInt8} (h : Rd w A n c L) (hn : 0 < n) : ∀ p, A = some p → p.block < w.heap.size := fun p hp => by
  obtain ⟨bb, oo, he, hc⟩ := h.at_ hn
  have := World.block_lt_of_cell? w _ (hc 0 hn)
  rw [he] at hp; injection hp with hp; subst hp; exact this
theorem IsR.keepZ {w w' : World} {b n c at_ : Nat} {A : Option Addr} {L : List UInt8} {e : Int} {S : List Nat} (h : IsR w b A n c L at_ e) (hw : Only S w w') (hb : b ∉ S) (hs : 0 < n → ∀ p, A = some p → p.block ∉ S) : IsR w' b A n c L at_ e :=
  ⟨(hw.blk b (lt_of_block h.st) hb).trans h.st, h.rd.keepZ hw hs, h.ne, h.le⟩
theorem IsR.ltZ {w : World} {b n c at_ : Nat} {A : Option Addr} {L : List UInt8} {e : Int} (h : IsR w b A n c L at_ e) : b < w.heap.size := lt_of_block h.st
theorem IsY.keepZ {w w' : World} {b n c at_ : Nat} {A : Option Addr} {L : List UInt8} {e : Int} {S : List Nat} (h : IsY w b A n c L at_ e) (hw : Only S w w') (hb : b ∉ S) (hs : 0 < n → ∀ p, A = some p → p.block ∉ S) : IsY w' b A n c L at_ e :=
  ⟨(hw.blk b (lt_of_block h.st) hb).trans h.st, h.rd.keepZ hw hs, h.ne, h.le⟩
theorem IsY.ltZ {w : World} {b n c at_ : Nat} {A : Option Addr} {L : List UInt8} {e : Int} (h : IsY w b A n c L at_ e) : b < w.heap.size := lt_of_block h.st
/-- the reader and the list in the loop -/
structure UI_pk (w w2 : World) (b : Nat) (A : Option Addr) (n c : Nat) (D : List UInt8) (k : Nat) (v : Value) (wx : World) : Prop where
  r : IsR wx b A n c D (ux D k).2.1 (ux D k).2.2
  own : OwnT wx w2.heap.size v k (ux D k).1
  below : Below w.heap.size w wx
  size : w2.heap.size ≤ wx.heap.size
set_option maxHeartbeats 1000000 in
theorem pk_Untexts (A : Option Addr) (n c : Nat) (D : List UInt8) (w : World) (hr : Rd w A n c D) :
    Calls Try.prog 41 #[.slice A n c] w (UxPost w D) := by
  have HR := Lib.hid hr
  have hmx := hr.max
  have hlen := hr.len
  have HL := Lib.hid hlen
  clear hr hlen
  by_cases hbig : (1048576 : Int) < (n : Int)
  · have HA := Lib.hid (show uxA D = ([], 23) by unfold uxA; rw [if_pos (by rw [HL.out]; omega)])
    go_enter Try.func41, Try.ntmps41
    go_wp2
    go_ret2
    unfold UxPost
    rw [HA.out]
    exact ⟨_, rfl, OwnT.nil _ _, Below.refl _ _⟩
  have hDl : D.length ≤ 1048576 := by rw [HL.out]; omega
  have HDL := Lib.hid hDl
  clear hDl
  go_enter Try.func41, Try.ntmps41
  go_wp2_with fail
  refine (pk_NewReader A n c D w HR.out).mono ?_
  rintro e w1 ⟨b, A1, c1, rfl, hI, hb, hB, hA1⟩
  have HI1 := Lib.hid hI
  have HB1 := Lib.hid hB
  have HBW := Lib.hid hb
  clear hI hB hb hA1
  go_wp2_with fail
  refine (pk_RCount b A1 n c1 D 0 0 w1 4096 (by omega) HI1.out).mono ?_
  rintro e w2 ⟨rfl, hI2, hO2⟩
  have HU := Lib.hid (show UI_pk w w2 b A1 n c1 D 0 (.slice none 0 0) w2 from ⟨hI2, OwnT.nil _ _, HB1.out.trans (hO2.below HB1.out.size (by simpa using HBW.out)), Nat.le_refl _⟩)
  have hbl := hI2.lt
  have HA2 := Lib.hid (fun h0 => hI2.rd.blkZ h0)
  obtain ⟨N, hN⟩ : ∃ N, N = uxN D := ⟨_, rfl⟩
  have hN2 : (rC D 0 0 4096).1 = N := hN.symm
  have hN3 : N ≤ 4096 := by rw [hN]; exact uxN_le D
  rw [hN2]
  have HN := Lib.hid hN
  clear hI2 hO2 hN hN2
  go_wp2_with fail
  go_loopw [5, 14] (fun v x wx => ∃ k : Nat, k ≤ N ∧ x = .int .i64 k ∧ UI_pk w w2 b A1 n c1 D k v wx) (fun _ x _ => N - (intOf x).toNat)
  case atStart => exact ⟨0, by omega, rfl, HU.out⟩
  case round =>
    obtain ⟨k, hk, rfl, hU⟩ := hrel
    have HU := Lib.hid hU
    clear hU
    by_cases hkn : k < N
    · have hz2 := HU.out.size
      go_wp2_with fail
      refine (pk_RText b A1 n c1 D _ _ _ 1048576 (by omega) HU.out.r).mono ?_
      rintro e3 w3 ⟨rfl, hI3, hO3⟩
      obtain ⟨s, hs⟩ : ∃ s, s = bstr (rT D (ux D k).2.1 (ux D k).2.2 1048576).1 := ⟨_, rfl⟩
      rw [← hs]
      have HX := Lib.hid (show (ux D (k + 1)).1 = (ux D k).1 ++ [s] by rw [hs]; rfl)
      have HI3 := Lib.hid (show IsR w3 b A1 n c1 D (ux D (k + 1)).2.1 (ux D (k + 1)).2.2 from hI3)
      have hw3 : w2.heap.size ≤ w3.heap.size := Nat.le_trans hz2 hO3.size
      have HO3 := Lib.hid (HU.out.own.keep hO3 (fun q hq => by have := (HU.out.own.blk q hq).1; simp; omega))
      have HB3 := Lib.hid (HU.out.below.trans (hO3.below HU.out.below.size (by simpa using (Nat.le_trans (Nat.le_refl _) HBW.out))))
      clear hI3 hO3 hs
      go_wp2_with (at_builtin; refine wp_appT1 w2.heap.size s HO3.out hw3 (by omega) _ _ rfl rfl rfl rfl ?_; intro v1 w4 hO1 hG1 hA1; have HO4 := Lib.hid hO1; have HG4 := Lib.hid hG1; clear hO1 hG1 hA1)
      have HU4 := Lib.hid (show UI_pk w w2 b A1 n c1 D (k + 1) v1 w4 by
        have hgr := ((Only.refl _ w3).alloc (.cells #[.string s] 9)).grown HG4.out (S := _) (fun q hq => .inl (Option.mem_toList.2 hq))
        refine ⟨HI3.out.keepZ hgr (fun hm => ?_) (fun h0 p hp hm => ?_), by rw [HX.out]; exact HO4.out, ?_, Nat.le_trans hw3 hgr.size⟩
        · have := (HO3.out.blk b (Option.mem_toList.1 hm)).1; omega
        · have := (HO3.out.blk _ (Option.mem_toList.1 hm)).1; have := HA2.out h0 p hp; omega
        · exact HB3.out.trans (hgr.below HB3.out.size (fun q hq => by have := (HO3.out.blk q (Option.mem_toList.1 hq)).1; have := HB1.out.size; have := HBW.out; omega)))
      by_cases he : (ux D (k + 1)).2.2 = 0
      · have hE := HU4.out.r
        rw [he] at hE
        have HE := Lib.hid hE
        clear hE he
        go_wp2_with fail
        refine (pk_RErr b A1 n c1 D _ 0 _ HE.out).mono ?_
        rintro e5 w5 ⟨rfl, rfl⟩
        go_wp2
        go_roundw
        case rel => exact ⟨k + 1, by omega, by go_num, HU4.out⟩
        case measure => simp [intOf]; omega
      · have HEE := Lib.hid (uxE_early D (k + 1) (by rw [← HN.out]; omega) he)
        obtain ⟨e4, he4⟩ : ∃ e4, e4 = (ux D (k + 1)).2.2 := ⟨_, rfl⟩
        have hE := HU4.out.r
        rw [← he4] at hE HEE
        have HE := Lib.hid hE
        have he5 : (e4 != 0) = true := by rw [he4]; simpa using he
        have HE4 := Lib.hid (show e4 ≠ 0 by rw [he4]; exact he)
        clear hE he he4
        go_wp2_with fail
        refine (pk_RErr b A1 n c1 D _ e4 _ HE.out).mono ?_
        rintro e5 w5 ⟨rfl, rfl⟩
        go_wp2_with fail
        refine (pk_RErr b A1 n c1 D _ e4 _ HE.out).mono ?_
        rintro e5 w5 ⟨rfl, rfl⟩
        go_wp2
        go_ret2
        exact UxPost.bad HDL.out HE4.out HEE.out HU4.out.below
    · obtain rfl : k = N := by omega
      have hUE : uxE D = rE n (ux D k).2.1 (ux D k).2.2 := by unfold uxE; rw [← HN.out, HL.out]
      have HUE := Lib.hid hUE
      clear hUE
      go_wp2_with fail
      refine (pk_REnd b A1 n c1 D _ _ _ HU.out.r).mono ?_
      rintro e3 w3 ⟨rfl, hI3, hO3⟩
      rw [← HUE.out]
      have HO3 := Lib.hid (HU.out.own.keep hO3 (fun q hq => by have := (HU.out.own.blk q hq).1; simp; omega))
      have HB3 := Lib.hid (HU.out.below.trans (hO3.below HU.out.below.size (by simpa using HBW.out)))
      clear hI3 hO3
      by_cases he : uxE D = 0
      · have HA := Lib.hid (show uxA D = ((ux D k).1, 0) by unfold uxA; rw [if_neg (by have := HDL.out; omega), if_neg (by simp [he]), ← HN.out])
        rw [he]
        clear he
        go_wp2
        go_ret2
        unfold UxPost
        rw [HA.out]
        refine ⟨_, rfl, ?_, HB3.out⟩
        have h9 := HO3.out.mono (base' := w.heap.size) (Nat.le_trans HBW.out (Nat.le_of_lt hbl))
        have h8 := ux_len D k
        dsimp only
        rw [h8]; exact h9
      · obtain ⟨e4, he4⟩ : ∃ e4, e4 = uxE D := ⟨_, rfl⟩
        rw [← he4]
        have he5 : (e4 != 0) = true := by rw [he4]; simpa using he
        have HE4 := Lib.hid (show e4 ≠ 0 by rw [he4]; exact he)
        have HEE := Lib.hid he4.symm
        clear he he4
        go_wp2
        go_ret2
        exact UxPost.bad HDL.out HE4.out HEE.out HB3.out
/-- the reader and the list in the loop -/
structure UI_px (w w2 : World) (b : Nat) (A : Option Addr) (n c : Nat) (D : List UInt8) (k : Nat) (v : Value) (wx : World) : Prop where
  r : IsY wx b A n c D (ux D k).2.1 (ux D k).2.2
  own : OwnT wx w2.heap.size v k (ux D k).1
  below : Below w.heap.size w wx
  size : w2.heap.size ≤ wx.heap.size
set_option maxHeartbeats 1000000 in
theorem px_Untexts (A : Option Addr) (n c : Nat) (D : List UInt8) (w : World) (hr : Rd w A n c D) :
    Calls Try.prog 42 #[.slice A n c] w (UxPost w D) := by
  have HR := Lib.hid hr
  have hmx := hr.max
  have hlen := hr.len
  have HL := Lib.hid hlen
  clear hr hlen
  by_cases hbig : (1048576 : Int) < (n : Int)
  · have HA := Lib.hid (show uxA D = ([], 23) by unfold uxA; rw [if_pos (by rw [HL.out]; omega)])
    go_enter Try.func42, Try.ntmps42
    go_wp2
    go_ret2
    unfold UxPost
    rw [HA.out]
    exact ⟨_, rfl, OwnT.nil _ _, Below.refl _ _⟩
  have hDl : D.length ≤ 1048576 := by rw [HL.out]; omega
  have HDL := Lib.hid hDl
  clear hDl
  go_enter Try.func42, Try.ntmps42
  go_wp2_with fail
  refine (py_NewReader A n c D w HR.out).mono ?_
  rintro e w1 ⟨b, A1, c1, rfl, hI, hb, hB, hA1⟩
  have HI1 := Lib.hid hI
  have HB1 := Lib.hid hB
  have HBW := Lib.hid hb
  clear hI hB hb hA1
  go_wp2_with fail
  refine (py_Count b A1 n c1 D 0 0 w1 4096 (by omega) HI1.out).mono ?_
  rintro e w2 ⟨rfl, hI2, hO2⟩
  have HU := Lib.hid (show UI_px w w2 b A1 n c1 D 0 (.slice none 0 0) w2 from ⟨hI2, OwnT.nil _ _, HB1.out.trans (hO2.below HB1.out.size (by simpa using HBW.out)), Nat.le_refl _⟩)
  have hbl := hI2.lt
  have HA2 := Lib.hid (fun h0 => hI2.rd.blkZ h0)
  obtain ⟨N, hN⟩ : ∃ N, N = uxN D := ⟨_, rfl⟩
  have hN2 : (rC D 0 0 4096).1 = N := hN.symm
  have hN3 : N ≤ 4096 := by rw [hN]; exact uxN_le D
  rw [hN2]
  have HN := Lib.hid hN
  clear hI2 hO2 hN hN2
  go_wp2_with fail
  go_loopw [6, 7, 8] (fun v x _ wx => ∃ k : Nat, k ≤ N ∧ x = .int .i64 k ∧ UI_px w w2 b A1 n c1 D k v wx) (fun _ x _ _ => N - (intOf x).toNat)
  case atStart => exact ⟨0, by omega, rfl, HU.out⟩
  case round =>
    obtain ⟨k, hk, rfl, hU⟩ := hrel
    have HU := Lib.hid hU
    clear hU
    by_cases hkn : k < N
    · have hz2 := HU.out.size
      go_wp2_with fail
      refine (py_Text b A1 n c1 D _ _ _ 1048576 (by omega) HU.out.r).mono ?_
      rintro e3 w3 ⟨rfl, hI3, hO3⟩
      obtain ⟨s, hs⟩ : ∃ s, s = bstr (rT D (ux D k).2.1 (ux D k).2.2 1048576).1 := ⟨_, rfl⟩
      rw [← hs]
      have HX := Lib.hid (show (ux D (k + 1)).1 = (ux D k).1 ++ [s] by rw [hs]; rfl)
      have HI3 := Lib.hid (show IsY w3 b A1 n c1 D (ux D (k + 1)).2.1 (ux D (k + 1)).2.2 from hI3)
      have hw3 : w2.heap.size ≤ w3.heap.size := Nat.le_trans hz2 hO3.size
      have HO3 := Lib.hid (HU.out.own.keep hO3 (fun q hq => by have := (HU.out.own.blk q hq).1; simp; omega))
      have HB3 := Lib.hid (HU.out.below.trans (hO3.below HU.out.below.size (by simpa using (Nat.le_trans (Nat.le_refl _) HBW.out))))
      clear hI3 hO3 hs
      go_wp2_with (at_builtin; refine wp_appT1 w2.heap.size s HO3.out hw3 (by omega) _ _ rfl rfl rfl rfl ?_; intro v1 w4 hO1 hG1 hA1; have HO4 := Lib.hid hO1; have HG4 := Lib.hid hG1; clear hO1 hG1 hA1)
      have HU4 := Lib.hid (show UI_px w w2 b A1 n c1 D (k + 1) v1 w4 by
        have hgr := ((Only.refl _ w3).alloc (.cells #[.string s] 9)).grown HG4.out (S := _) (fun q hq => .inl (Option.mem_toList.2 hq))
        refine ⟨HI3.out.keepZ hgr (fun hm => ?_) (fun h0 p hp hm => ?_), by rw [HX.out]; exact HO4.out, ?_, Nat.le_trans hw3 hgr.size⟩
        · have := (HO3.out.blk b (Option.mem_toList.1 hm)).1; omega
        · have := (HO3.out.blk _ (Option.mem_toList.1 hm)).1; have := HA2.out h0 p hp; omega
        · exact HB3.out.trans (hgr.below HB3.out.size (fun q hq => by have := (HO3.out.blk q (Option.mem_toList.1 hq)).1; have := HB1.out.size; have := HBW.out; omega)))
      go_wp2
      go_roundw
      case rel => exact ⟨k + 1, by omega, by go_num, HU4.out⟩
      case measure => simp [intOf]; omega
    · obtain rfl : k = N := by omega
      have hUE : uxE D = rE n (ux D k).2.1 (ux D k).2.2 := by unfold uxE; rw [← HN.out, HL.out]
      have HUE := Lib.hid hUE
      clear hUE
      go_wp2_with fail
      refine (py_End b A1 n c1 D _ _ _ HU.out.r).mono ?_
      rintro e3 w3 ⟨rfl, hI3, hO3⟩
      rw [← HUE.out]
      have HO3 := Lib.hid (HU.out.own.keep hO3 (fun q hq => by have := (HU.out.own.blk q hq).1; simp; omega))
      have HB3 := Lib.hid (HU.out.below.trans (hO3.below HU.out.below.size (by simpa using HBW.out)))
      clear hI3 hO3
      by_cases he : uxE D = 0
      · have HA := Lib.hid (show uxA D = ((ux D k).1, 0) by unfold uxA; rw [if_neg (by have := HDL.out; omega), if_neg (by simp [he]), ← HN.out])
        rw [he]
        clear he
        go_wp2
        go_ret2
        unfold UxPost
        rw [HA.out]
        refine ⟨_, rfl, ?_, HB3.out⟩
        have h9 := HO3.out.mono (base' := w.heap.size) (Nat.le_trans HBW.out (Nat.le_of_lt hbl))
        have h8 := ux_len D k
        dsimp only
        rw [h8]; exact h9
      · obtain ⟨e4, he4⟩ : ∃ e4, e4 = uxE D := ⟨_, rfl⟩
        rw [← he4]
        have he5 : (e4 != 0) = true := by rw [he4]; simpa using he
        have HE4 := Lib.hid (show e4 ≠ 0 by rw [he4]; exact he)
        have HEE := Lib.hid he4.symm
        clear he he4
        go_wp2
        go_ret2
        exact UxPost.bad HDL.out HE4.out HEE.out HB3.out
end Go.Proofs.Ytclafljkeaekfaa
