/- Walks of the laws' helpers: written, counts. -/
import Derived.Test.YtclafljkeaekfaaPk6
set_option linter.unusedVariables false
set_option linter.unusedSimpArgs false
set_option maxRecDepth 100000
namespace Go.Proofs.Ytclafljkeaekfaa
open Go.RowKit
/-- The cells of a list of values. -/
structure RdV (w : World) (A : Option Addr) (n c : Nat) (l : List ValV) : Prop where
  len : l.length = n
  cap : n ≤ c
  max : n ≤ 140737488355328
  ok : ∀ x ∈ l, x.ok
  at_ : 0 < n → ∃ b o, A = some ⟨b, o, none⟩ ∧ ∀ j, j < n → w.cell? ⟨b, o + j * 4, none⟩ = some (.int .i64 (l.getD j default).kind) ∧ w.cell? ⟨b, o + j * 4 + 1, none⟩ = some (.int .u64 (l.getD j default).u) ∧
    w.cell? ⟨b, o + j * 4 + 2, none⟩ = some (.int .i64 (l.getD j default).i) ∧ w.cell? ⟨b, o + j * 4 + 3, none⟩ = some (.string (l.getD j default).s)
theorem RdV.ext {w w' : World} {A : Option Addr} {n c : Nat} {l : List ValV} (h : RdV w A n c l) (hb : Below w.heap.size w w') : RdV w' A n c l :=
  ⟨h.len, h.cap, h.max, h.ok, fun hn => by
    obtain ⟨b, o, e, hc⟩ := h.at_ hn
    exact ⟨b, o, e, fun j hj => ⟨cell_ext hb (hc j hj).1, cell_ext hb (hc j hj).2.1, cell_ext hb (hc j hj).2.2.1, cell_ext hb (hc j hj).2.2.2⟩⟩⟩
/-- what is written of the first k -/
def wrn (M : Nat) (l : List ValV) : Nat → List UInt8 × Int
  | 0 => ([], 0)
  | k + 1 => (stL M (wrn M l k).1 (wrn M l k).2 (l.getD k default), stE M (wrn M l k).1 (wrn M l k).2 (l.getD k default))
def WrPost (w : World) (L : List UInt8) (e : Int) (e1 : Ending) (w' : World) : Prop :=
  (e = 0 → ∃ u, e1 = .returned (.tuple #[u, .bool true]) ∧ Own w' w.heap.size u L.length L) ∧ (e ≠ 0 → e1 = .returned (.tuple #[.slice none 0 0, .bool false])) ∧ Below w.heap.size w w'
/-- the writer in the loop -/
def WrInv (w : World) (b : Nat) (l : List ValV) (k : Nat) (wx : World) : Prop := ∃ v, IsW wx b (b + 1) 1048576 (wrn 1048576 l k).1 v (wrn 1048576 l k).2 ∧ Below w.heap.size w wx
set_option maxHeartbeats 2000000 in
theorem l2_written (A : Option Addr) (n c : Nat) (l : List ValV) (w : World) (hr : RdV w A n c l) :
    Calls Try.prog 15 #[.slice A n c] w (WrPost w (wrn 1048576 l n).1 (wrn 1048576 l n).2) := by
  have HR := Lib.hid hr
  have hmx := hr.max
  clear hr
  go_enter Try.func15, Try.ntmps15
  go_wp2_with fail
  refine (pk_NewWriter 1048576 w).mono ?_
  rintro e w1 ⟨rfl, hW, hB⟩
  rw [show clampW 1048576 = 1048576 by decide] at hW
  obtain ⟨b, hb⟩ : ∃ b, b = w.heap.size := ⟨_, rfl⟩
  rw [← hb] at hW ⊢
  have HW := Lib.hid hW
  have HB := Lib.hid hB
  have HBB := Lib.hid hb
  clear hW hB hb
  go_wp2_with fail
  go_loopw [5] (fun x wx => ∃ k : Nat, k ≤ n ∧ x = .int .i64 k ∧ WrInv w b l k wx) (fun x _ => n - (intOf x).toNat)
  case atStart => exact ⟨0, by omega, rfl, _, HW.out, HB.out⟩
  case round =>
    obtain ⟨k, hk, rfl, v, hI, hBx⟩ := hrel
    have HI := Lib.hid hI
    have HBx := Lib.hid hBx
    clear hI hBx
    by_cases hkn : k < n
    · obtain ⟨bb, oo, rfl, hc⟩ := (HR.out.at_ (by omega))
      have hc := hc k hkn
      have hok := HR.out.ok (l.getD k default) (by
        have hl := HR.out.len
        rw [List.getD_eq_getElem?_getD, List.getElem?_eq_getElem (by omega)]
        exact List.getElem_mem _)
      obtain ⟨x, hx⟩ : ∃ x, x = l.getD k default := ⟨_, rfl⟩
      rw [← hx] at hc hok
      have HX := Lib.hid hx
      have HOK := Lib.hid hok
      have d0 := (HBx.out.cell (World.block_lt_of_cell? w _ hc.1)).trans hc.1
      have d1 := (HBx.out.cell (World.block_lt_of_cell? w _ hc.2.1)).trans hc.2.1
      have d2 := (HBx.out.cell (World.block_lt_of_cell? w _ hc.2.2.1)).trans hc.2.2.1
      have d3 := (HBx.out.cell (World.block_lt_of_cell? w _ hc.2.2.2)).trans hc.2.2.2
      clear hc hx hok
      go_wp2_with fail
      refine (l2_lay b _ _ _ _ _ x HOK.out _ HI.out).mono ?_
      rintro e2 w2 ⟨rfl, hP⟩
      have hB2 := WPost.below (B := w.heap.size) HI.out hP (by rw [HBB.out]; omega)
      obtain ⟨v2, hW2⟩ := hP.isW
      have HI2 := Lib.hid (show WrInv w b l (k + 1) w2 from ⟨v2, by rw [HX.out] at hW2; exact hW2, HBx.out.trans hB2⟩)
      clear hP hB2 hW2
      go_wp2
      go_roundw
      case rel => exact ⟨k + 1, by omega, by go_num, HI2.out⟩
      case measure => simp [intOf]; omega
    obtain rfl : n = k := by omega
    by_cases he : (wrn 1048576 l n).2 = 0
    · have hI := HI.out
      rw [he] at hI
      have HI0 := Lib.hid hI
      have HE := Lib.hid he
      clear hI he
      go_wp2_with fail
      refine (pk_WOut_ok b _ _ _ _ _ HI0.out).mono ?_
      rintro e w4 ⟨u, rfl, hO, hB⟩
      have HO := Lib.hid hO
      have HB4 := Lib.hid (HBx.out.trans (hB.mono HBx.out.size))
      have hsz := HBx.out.size
      clear hO hB
      go_wp2
      go_ret2
      exact ⟨fun _ => ⟨u, rfl, HO.out.mono hsz⟩, fun h => absurd HE.out h, HB4.out⟩
    · have HE := Lib.hid he
      obtain ⟨e', hee⟩ : ∃ e', e' = (wrn 1048576 l n).2 := ⟨_, rfl⟩
      rw [← hee] at HE HI
      have he2 : (e' == 0) = false := by simpa using HE.out
      have HEE := Lib.hid hee
      clear he hee
      go_wp2_with fail
      refine (pk_WOut_bad b _ _ _ _ e' _ HE.out HI.out).mono ?_
      rintro e w4 ⟨rfl, hO⟩
      have HB4 := Lib.hid (HBx.out.trans (hO.below HBx.out.size (by simp)))
      clear hO
      go_wp2
      go_ret2
      rw [← HEE.out]
      exact ⟨fun h => absurd h HE.out, fun _ => rfl, HB4.out⟩
end Go.Proofs.Ytclafljkeaekfaa
