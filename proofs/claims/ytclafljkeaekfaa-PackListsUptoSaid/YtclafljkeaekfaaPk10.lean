/- The walk of small. -/
import Derived.Test.YtclafljkeaekfaaOwnV
set_option linter.unusedVariables false
set_option linter.unusedSimpArgs false
set_option maxRecDepth 100000
namespace Go.Proofs.Ytclafljkeaekfaa
open Go.RowKit
theorem dropV (l : List ValV) (k : Nat) (h : k < l.length) : l.drop k = l.getD k default :: l.drop (k + 1) := by
  rw [List.drop_eq_getElem_cons h, List.getD_eq_getElem?_getD, List.getElem?_eq_getElem h]; rfl
theorem okV {l : List ValV} (h : ∀ x ∈ l, x.ok) (k : Nat) (hk : k < l.length) : (l.getD k default).ok := by
  rw [List.getD_eq_getElem?_getD, List.getElem?_eq_getElem hk]
  exact h _ (List.getElem_mem _)
/-- at the k-th value -/
structure SmInv (w : World) (l : List ValV) (k sum : Nat) (M : List ValV) (v : Value) (wx : World) : Prop where
  own : OwnV wx w.heap.size v k M
  le : sum ≤ 1048576
  ten : 10 * k ≤ sum
  eq : sml l 0 = M ++ sml (l.drop k) sum
  below : Below w.heap.size w wx
def SmPost (w : World) (l : List ValV) (e : Ending) (w' : World) : Prop := ∃ v, e = .returned v ∧ OwnV w' w.heap.size v (sml l 0).length (sml l 0) ∧ Below w.heap.size w w'
theorem OwnV.slice {w : World} {base n : Nat} {v : Value} {l : List ValV} (h : OwnV w base v n l) : ∃ A c, v = .slice A n c := by
  rcases h.2 with ⟨rfl, h0⟩ | ⟨g, cap, cur, rfl, _⟩
  · subst h0; exact ⟨none, 0, rfl⟩
  · exact ⟨_, cap, rfl⟩
set_option maxHeartbeats 2000000 in
theorem l2_small (A : Option Addr) (n c : Nat) (l : List ValV) (w : World) (hr : RdV w A n c l) :
    Calls Try.prog 14 #[.slice A n c] w (SmPost w l) := by
  have HR := Lib.hid hr
  have hmx := hr.max
  have HL := Lib.hid hr.len
  clear hr
  go_enter Try.func14, Try.ntmps14
  go_wp2_with fail
  go_loopw [2, 3, 4, 5, 6] (fun _ vm sm ix _ wx => ∃ k sum : Nat, ∃ M : List ValV, k ≤ n ∧ ix = .int .i64 k ∧ sm = .int .i64 sum ∧ SmInv w l k sum M vm wx) (fun _ _ _ x _ _ => n - (intOf x).toNat)
  case atStart => exact ⟨0, 0, [], by omega, rfl, rfl, OwnV.nil _ _, by omega, by omega, rfl, Below.refl _ _⟩
  case round =>
    obtain ⟨k, sum, M, hk, rfl, rfl, hI⟩ := hrel
    have HI := Lib.hid hI
    have hsum := hI.le
    have hten := hI.ten
    clear hI
    by_cases hkn : k < n
    · obtain ⟨bb, oo, rfl, hc⟩ := (HR.out.at_ (by omega))
      have hc := hc k hkn
      have hok := okV HR.out.ok k (by rw [HL.out]; exact hkn)
      have hsl : sml (l.drop k) sum = if 1048576 < sum + 10 + (rgt (l.getD k default)).s.size then [] else rgt (l.getD k default) :: sml (l.drop (k + 1)) (sum + 10 + (rgt (l.getD k default)).s.size) := by
        rw [dropV l k (by rw [HL.out]; exact hkn), sml]
      obtain ⟨x, hx⟩ : ∃ x, x = l.getD k default := ⟨_, rfl⟩
      rw [← hx] at hc hok hsl
      have HOK := Lib.hid hok
      have HB := Lib.hid HI.out.below
      have d0 := (HB.out.cell (World.block_lt_of_cell? w _ hc.1)).trans hc.1
      have d1 := (HB.out.cell (World.block_lt_of_cell? w _ hc.2.1)).trans hc.2.1
      have d2 := (HB.out.cell (World.block_lt_of_cell? w _ hc.2.2.1)).trans hc.2.2.1
      have d3 := (HB.out.cell (World.block_lt_of_cell? w _ hc.2.2.2)).trans hc.2.2.2
      obtain ⟨y, hy⟩ : ∃ y, y = rgt x := ⟨_, rfl⟩
      rw [← hy] at hsl
      have HSL := Lib.hid hsl
      have hsz : y.s.size ≤ 140737488355328 := by rw [hy]; exact (rgt_ok x hok).s
      have HY := Lib.hid hy
      clear hc hx hok hsl hy
      go_wp2_with fail
      refine (l2_right x HOK.out _).mono ?_
      rintro e2 w2 ⟨rfl, hB2⟩
      rw [← HY.out]
      unfold ValV.val
      dsimp only
      have HB2 := Lib.hid (HB.out.trans (hB2.mono HB.out.size))
      have HO2 := Lib.hid (HI.out.own.ext hB2)
      have hb2 := HB2.out.size
      clear hB2
      obtain ⟨t, ht⟩ : ∃ t, t = y.s.size := ⟨_, rfl⟩
      by_cases hbig : (1048576 : Int) < (sum : Int) + 10 + (y.s.size : Int)
      · have HE := Lib.hid (show sml l 0 = M by rw [HI.out.eq, HSL.out, if_pos (by omega), List.append_nil])
        clear ht
        go_wp2
        go_ret
        refine ⟨_, rfl, ?_, HB2.out.alloc hb2 _⟩
        rw [HE.out]
        have := HO2.out.alloc (.cells #[.int .i64 y.kind, .int .u64 y.u, .int .i64 y.i, .string y.s] 27)
        rwa [← this.len] at this
      · have HE := Lib.hid (show sml l 0 = (M ++ [y]) ++ sml (l.drop (k + 1)) (sum + 10 + y.s.size) by rw [HI.out.eq, HSL.out, if_neg (by omega)]; simp)
        have hnew : sum + 10 + y.s.size ≤ 1048576 := by omega
        clear ht
        obtain ⟨Am, cm, rfl⟩ := HO2.out.slice
        go_wp2_with (at_builtin; refine wp_appV1 (W := w2.alloc (.cells #[.int .i64 y.kind, .int .u64 y.u, .int .i64 y.i, .string y.s] 27)) w.heap.size y (HO2.out.alloc _) (by simp; omega) (by omega) _ _ rfl rfl rfl (w2.heap.size + 1) (by simp) rfl ?_; intro v3 w3 hO3 hG3; have HO3 := Lib.hid hO3; have HG3 := Lib.hid hG3; clear hO3 hG3)
        go_roundw
        case rel =>
          refine ⟨k + 1, sum + 10 + y.s.size, M ++ [y], by omega, by go_num, by go_num, HO3.out, hnew, by omega, HE.out, ?_⟩
          exact ((HB2.out.alloc hb2 _).alloc (by simp; omega) _).grown HG3.out (by simp; omega) (fun q hq => (HO2.out.blk q hq).1)
        case measure => simp [intOf]; omega
    · obtain rfl : n = k := by omega
      have HE := Lib.hid (show sml l 0 = M by rw [HI.out.eq, List.drop_eq_nil_of_le (by rw [HL.out]; omega)]; simp [sml])
      go_wp2
      go_ret
      refine ⟨_, rfl, ?_, HI.out.below⟩
      rw [HE.out]
      have := HI.out.own
      rwa [← this.len] at this
end Go.Proofs.Ytclafljkeaekfaa
