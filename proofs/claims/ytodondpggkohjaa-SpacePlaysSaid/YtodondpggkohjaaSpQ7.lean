/- SpacePlays: New of both. -/
import Derived.Test.YtodondpggkohjaaSpQ6
set_option linter.unusedVariables false
set_option linter.unusedSimpArgs false
set_option maxRecDepth 100000
namespace Go.Proofs.Ytodondpggkohjaa
open Go.RowKit
theorem RdI.add {D E : List Nat} {w : World} {A : Option Addr} {n c : Nat} {l : List Int} (h : RdI D w A n c l) (hE : ∀ k ∈ E, w.heap.size ≤ k) : RdI (E ++ D) w A n c l :=
  ⟨h.len, h.cap, h.max, fun hn => by
    obtain ⟨b, o, e, hb, hc⟩ := h.at_ hn
    refine ⟨b, o, e, fun hm => ?_, hc⟩
    rcases List.mem_append.1 hm with hm | hm
    · have h1 := World.block_lt_of_cell? w _ (hc 0 hn)
      have h2 := hE b hm
      exact absurd h1 (by show ¬ b < _; omega)
    · exact hb hm⟩
theorem RsOk.add {D E : List Nat} {w : World} {r N first : Nat} {was now : List Int} (h : RsOk D w r N first was now) (hE : ∀ k ∈ E, w.heap.size ≤ k) : RsOk (E ++ D) w r N first was now := by
  obtain ⟨A, n, c, A', n', c', h1, h2, h3⟩ := h
  exact ⟨A, n, c, A', n', c', h1, h2.add hE, h3.add hE⟩
theorem RsOk.mono {D E : List Nat} {w : World} {r N first : Nat} {was now : List Int} (h : RsOk D w r N first was now) (hE : ∀ k ∈ E, k ∈ D) : RsOk E w r N first was now := by
  obtain ⟨A, n, c, A', n', c', h1, h2, h3⟩ := h
  exact ⟨A, n, c, A', n', c', h1, h2.sub hE, h3.sub hE⟩
theorem sp_New_bad (x y : Int) (h : x < 0 ∨ 4096 < x ∨ y < 0 ∨ x < y) (A : Option Addr) (n c : Nat) (w : World) :
    Calls Try.prog 11 #[.int .i64 x, .int .i64 y, .slice A n c] w fun e w' => e = .returned (.tuple #[.pointer none, .int .i64 1]) ∧ w' = w := by
  by_cases h1 : x < 0
  · clear h
    go_enter Try.func11, Try.ntmps11
    go_wp2
    go_ret2
    exact ⟨rfl, rfl⟩
  by_cases h2 : 4096 < x
  · clear h
    go_enter Try.func11, Try.ntmps11
    go_wp2
    go_ret2
    exact ⟨rfl, rfl⟩
  by_cases h3 : y < 0
  · clear h
    go_enter Try.func11, Try.ntmps11
    go_wp2
    go_ret2
    exact ⟨rfl, rfl⟩
  have h4 : x < y := by omega
  clear h
  go_enter Try.func11, Try.ntmps11
  go_wp2
  go_ret2
  exact ⟨rfl, rfl⟩
theorem rs_New_bad (x y : Int) (h : x < 0 ∨ 4096 < x ∨ y < 0 ∨ x < y) (A : Option Addr) (n c : Nat) (w : World) :
    Calls Try.prog 15 #[.int .i64 x, .int .i64 y, .slice A n c] w fun e w' => e = .returned (.tuple #[.pointer none, .int .i64 1]) ∧ w' = w := by
  by_cases h1 : x < 0
  · clear h
    go_enter Try.func15, Try.ntmps15
    go_wp2
    go_ret2
    exact ⟨rfl, rfl⟩
  by_cases h2 : 4096 < x
  · clear h
    go_enter Try.func15, Try.ntmps15
    go_wp2
    go_ret2
    exact ⟨rfl, rfl⟩
  by_cases h3 : y < 0
  · clear h
    go_enter Try.func15, Try.ntmps15
    go_wp2
    go_ret2
    exact ⟨rfl, rfl⟩
  have h4 : x < y := by omega
  clear h
  go_enter Try.func15, Try.ntmps15
  go_wp2
  go_ret2
  exact ⟨rfl, rfl⟩
/-- what the reference's New leaves -/
def RnPost (D : List Nat) (first blocks : Nat) (l : List Int) (n : Nat) (w : World) (e : Ending) (w' : World) : Prop :=
  (NewOk first blocks l n → ∃ r, e = .returned (.tuple #[.pointer (some ⟨r, 0, none⟩), .int .i64 0]) ∧ w.heap.size ≤ r ∧ r < w'.heap.size ∧ RsOk (r :: D) w' r blocks first l l) ∧
    ((∃ i, (i < n ∧ tok l first blocks i = false)) → e = .returned (.tuple #[.pointer none, .int .i64 1])) ∧ Below w.heap.size w w'
theorem rn_bad {D : List Nat} {first blocks : Nat} {l : List Int} {n : Nat} {w w' : World} {i : Nat} (hi : i < n) (hb : tok l first blocks i = false) (hB : Below w.heap.size w w') :
    RnPost D first blocks l n w (.returned (.tuple #[.pointer none, .int .i64 1])) w' :=
  ⟨fun h => absurd (h i hi) (by rw [hb]; decide), fun _ => rfl, hB⟩
set_option maxHeartbeats 800000 in
theorem rs_New (D : List Nat) (blocks first : Nat) (hbl : blocks ≤ 4096) (hfb : first ≤ blocks) (A : Option Addr) (n c : Nat) (l : List Int) (w : World) (hr : RdI [] w A n c l) (hn : n ≤ 17592186044415) (hD : ∀ k ∈ D, k < w.heap.size) :
    Calls Try.prog 15 #[.int .i64 blocks, .int .i64 first, .slice A n c] w (RnPost D first blocks l n w) := by
  have HR := Lib.hid hr
  have HL := Lib.hid hr.len
  have HD := Lib.hid hD
  clear hr hD
  have b1 : decide ((blocks : Int) < 0) = false := decide_eq_false (by omega)
  have b2 : decide ((4096 : Int) < (blocks : Int)) = false := decide_eq_false (by omega)
  have b3 : decide ((first : Int) < 0) = false := decide_eq_false (by omega)
  have b4 : decide ((blocks : Int) < (first : Int)) = false := decide_eq_false (by omega)
  have b5 : decide (blocks < first) = false := decide_eq_false (by omega)
  go_enter Try.func15, Try.ntmps15
  go_wp2_with fail
  go_loopg [8] n (fun m x wx => ∃ k : Nat, m + k = n ∧ x = .int .i64 k ∧ (∀ i, i < k → tok l first blocks i = true) ∧ Only [] w wx)
  case atStart => exact ⟨0, by omega, rfl, fun i hi => absurd hi (by omega), Only.refl _ _⟩
  case round =>
    obtain ⟨k, hmk, rfl, hok, hO0⟩ := hrel
    have hk : k ≤ n := by omega
    have HMK := Lib.hid hmk
    clear hmk
    have HO0 := Lib.hid hO0
    clear hO0
    have HOK := Lib.hid hok
    clear hok
    have HB0 := Lib.hid (HO0.out.below (Nat.le_refl _) (by simp))
    by_cases hkn : k < n
    · obtain ⟨b0, o, rfl, _, hc⟩ := (HR.out.only HO0.out (by simp)).at_ (by omega)
      have hcell := hc k hkn
      obtain ⟨t, ht⟩ : ∃ t, t = l.getD k 0 := ⟨_, rfl⟩
      rw [← ht] at hcell
      have HT := Lib.hid ht
      have hki : (0 : Int) ≤ (k : Int) ∧ (k : Int) < (n : Int) := by omega
      by_cases h1 : t < first
      · have HB := Lib.hid (show tok l first blocks k = false from decide_eq_false (by rw [← ht]; omega))
        clear ht hc
        go_wp2_with fail
        go_quiet (fail)
        go_wp2
        go_ret2
        exact rn_bad hkn HB.out (below_drewN HB0.out _)
      have hb1 : decide (t < (first : Int)) = false := decide_eq_false h1
      by_cases h2 : (blocks : Int) ≤ t
      · have HB := Lib.hid (show tok l first blocks k = false from decide_eq_false (by rw [← ht]; omega))
        have hb2 : decide ((blocks : Int) ≤ t) = true := decide_eq_true h2
        clear ht hc
        go_wp2_with fail
        go_quiet (fail)
        go_wp2
        go_ret2
        exact rn_bad hkn HB.out (below_drewN HB0.out _)
      have hb2 : decide ((blocks : Int) ≤ t) = false := decide_eq_false h2
      by_cases hk0 : k = 0
      · subst hk0
        have HB := Lib.hid (show tok l first blocks 0 = true from decide_eq_true (by rw [← ht]; omega))
        rw [Nat.add_zero] at hcell
        clear ht hc
        go_wp2_with fail
        go_quiet (fail)
        go_wp2
        go_roundg (n - 1)
        case measure => have := HMK.out; omega
        case rel => exact ⟨1, by omega, by first | rfl | trivial | go_num, ok_succ HOK.out HB.out, HO0.out.drewN _⟩
      · obtain ⟨k1, hk1⟩ : ∃ k1, k1 = k - 1 := ⟨_, rfl⟩
        have hcp := hc k1 (by omega)
        obtain ⟨tp, htp⟩ : ∃ tp, tp = l.getD k1 0 := ⟨_, rfl⟩
        rw [← htp] at hcp
        have hkk : IntKind.i64.wrap ((k : Int) - 1) = (k1 : Int) := by rw [show (k : Int) - 1 = (k1 : Int) by omega]; exact IntWalk.i64_in _ (by omega)
        have hbk : decide ((0 : Int) < (k : Int)) = true := decide_eq_true (by omega)
        have hbk2 : decide (0 < k) = true := decide_eq_true (by omega)
        have hkz : (0 : Int) ≤ (k1 : Int) ∧ (k1 : Int) < (n : Int) := by omega
        have HK1 := Lib.hid hk1
        have HK0 := Lib.hid hk0
        clear hk0
        by_cases h3 : t ≤ tp
        · have HB := Lib.hid (show tok l first blocks k = false from decide_eq_false (fun h => by
            have := h.2.2 (by have := HK0.out; omega)
            rw [← hk1, ← htp, ← ht] at this
            omega))
          have hb3 : decide (t ≤ tp) = true := decide_eq_true h3
          clear ht htp hc hk1
          go_wp2_with fail
          go_quiet (fail)
          go_wp2
          go_ret2
          exact rn_bad hkn HB.out (below_drewN HB0.out _)
        · have HB := Lib.hid (show tok l first blocks k = true from decide_eq_true ⟨by rw [← ht]; omega, by rw [← ht]; omega, fun _ => by rw [← hk1, ← htp, ← ht]; omega⟩)
          have hb3 : decide (t ≤ tp) = false := decide_eq_false h3
          clear ht htp hc hk1
          go_wp2_with fail
          go_quiet (fail)
          go_wp2
          go_roundg (n - (k + 1))
          case measure => have := HMK.out; omega
          case rel => exact ⟨k + 1, by omega, by go_num, ok_succ HOK.out HB.out, HO0.out.drewN _⟩
    · obtain rfl : k = n := by omega
      have HR1 := Lib.hid (rs_copied A k c l wr (HR.out.only HO0.out (by simp)) hn)
      go_wp2_with fail
      refine HR1.out.mono ?_
      rintro e w1 ⟨v1, rfl, hO, hB⟩
      obtain ⟨A1, c1, rfl⟩ := hO.slice
      have HO1 := Lib.hid (hO.mono HO0.out.size)
      have HB1 := Lib.hid (HB0.out.trans (hB.mono HO0.out.size))
      have HR2 := Lib.hid (rs_copied A k c l w1 (HR.out.only (Only.of_below [] HB1.out) (by simp)) hn)
      clear hO hB HR1
      go_wp2_with fail
      refine HR2.out.mono ?_
      rintro e w2 ⟨v2, rfl, hO, hB⟩
      obtain ⟨A2, c2, rfl⟩ := hO.slice
      have HO2 := Lib.hid (hO.mono HB1.out.size)
      have HO12 := Lib.hid (HO1.out.ext hB)
      have HB2 := Lib.hid (HB1.out.trans (hB.mono HB1.out.size))
      clear hO hB HR2
      go_wp2
      go_ret2
      refine ⟨fun _ => ⟨w2.heap.size, rfl, HB2.out.size, by rw [World.size_alloc]; omega, ?_⟩, fun hx => absurd hx (fun ⟨i, hi, hf⟩ => by have := HOK.out i hi; rw [hf] at this; cases this), HB2.out.alloc HB2.out.size _⟩
      have h1 := (HO12.out.rdA D (by omega) HD.out).add (E := [w2.heap.size]) (by simp)
      have h2 := (HO2.out.rdA D (by omega) HD.out).add (E := [w2.heap.size]) (by simp)
      have hb3 := (Below.refl w2.heap.size w2).alloc (Nat.le_refl _) (rsO blocks first (.slice A1 k c1) (.slice A2 k c2))
      exact ⟨A1, k, c1, A2, k, c2, heap_alloc_new w2 _, h1.ext hb3, h2.ext hb3⟩
end Go.Proofs.Ytodondpggkohjaa
