/- The walk of space's New. -/
import Derived.Test.YtodondpggkohjaaSp3
set_option linter.unusedVariables false
set_option linter.unusedSimpArgs false
namespace Go.Proofs.Ytodondpggkohjaa
open Go.RowKit
def zi (m : Nat) : Array Value := madeCells #[.int .i64 0] m
theorem zi_eq (m : Nat) : zi m = (iv_ (List.replicate m 0)).toArray := by
  apply Array.ext'
  simp only [zi, iv_, madeCells]
  apply List.ext_getElem
  · simp
  · intro i h1 h2
    simp [Nat.mod_one]
theorem mk_int (m : Nat) (hm : m ≤ 4096) (W : World) :
    (Instr.makeSlice 27 (.int .i64 (m : Int)) (.int .i64 (m : Int))).run Try.prog W = .ok (.slice (some ⟨W.heap.size, 0, none⟩) m m) (W.alloc (.cells (zi m) 3)) := by
  obtain ⟨i0, hi, hzz⟩ := Option.map_eq_some_iff.1 info_int
  simp only [Prod.mk.injEq] at hzz
  obtain ⟨hz0, hz1, hz2⟩ := hzz
  have := run_make W (P := Try.prog) 27 3 i0 (.int .i64 0) Try.underlying27 hi hz0 .i64 .i64 (m : Int) (m : Int) (by omega) (by omega) (by rw [hz2]; omega) (by omega)
  rw [this]
  simp [hz1, zi, Value.cells]
/-- is the i-th one of the list right? -/
def tok (l : List Int) (first blocks i : Nat) : Bool := decide ((first : Int) ≤ l.getD i 0 ∧ l.getD i 0 < blocks ∧ (0 < i → l.getD (i - 1) 0 < l.getD i 0))
/-- the states after the first k were marked -/
def nk (l : List Int) (first m : Nat) : Nat → List Int
  | 0 => List.replicate m 0
  | k + 1 => (nk l first m k).set (l.getD k 0 - first).toNat 2
theorem nk_length (l : List Int) (first m : Nat) : ∀ k, (nk l first m k).length = m
  | 0 => by simp [nk]
  | k + 1 => by rw [nk, List.length_set, nk_length]
theorem nk_zero (l : List Int) (first blocks m : Nat) : ∀ k, (∀ i, i < k → tok l first blocks i = true) → ∀ j, (0 < k → (l.getD (k - 1) 0 - first).toNat < j) → (nk l first m k).getD j 0 = 0
  | 0, _, j, _ => by simp [nk, List.getD_eq_getElem?_getD, List.getElem?_replicate]; split <;> rfl
  | k + 1, h, j, hj => by
    have h1 := hj (by omega)
    simp only [Nat.add_sub_cancel] at h1
    have hk := of_decide_eq_true (h k (by omega))
    rw [nk, List.getD_eq_getElem?_getD, List.getElem?_set, if_neg (by omega), ← List.getD_eq_getElem?_getD]
    refine nk_zero l first blocks m k (fun i hi => h i (by omega)) j (fun hk0 => ?_)
    have := hk.2.2 hk0
    omega
theorem sp_new_start (w : World) (first m : Nat) (hm : m ≤ 4096) (hf : first ≤ 4096) :
    IsSp ((w.alloc (.cells (zi m) 3)).alloc (.cells #[.int .i64 first, .slice (some ⟨w.heap.size, 0, none⟩) m m, .int .i64 m] 56)) (w.heap.size + 1) w.heap.size first (List.replicate m 0) := by
  refine ⟨?_, ?_, by omega, by simp [hm, hf]⟩
  · rw [heap_alloc2_new]; simp
  · rw [heap_alloc2_old, zi_eq]
def NewOk (first blocks : Nat) (l : List Int) (n : Nat) : Prop := ∀ i, i < n → tok l first blocks i = true
def NewPost (first blocks : Nat) (l : List Int) (n : Nat) (w : World) (e : Ending) (w' : World) : Prop :=
  (NewOk first blocks l n → (e = .returned (.tuple #[.pointer (some ⟨w.heap.size + 1, 0, none⟩), .int .i64 0]) ∧ IsSp w' (w.heap.size + 1) w.heap.size first (nk l first (blocks - first) n))) ∧
      ((∃ i, (i < n ∧ tok l first blocks i = false)) → e = .returned (.tuple #[.pointer none, .int .i64 1])) ∧ Below w.heap.size w w'
theorem new_bad {first blocks : Nat} {l : List Int} {n : Nat} {w w' : World} {i : Nat} (hi : i < n) (hb : tok l first blocks i = false) (hB : Below w.heap.size w w') :
    NewPost first blocks l n w (.returned (.tuple #[.pointer none, .int .i64 1])) w' :=
  ⟨fun h => absurd (h i hi) (by rw [hb]; decide), fun _ => rfl, hB⟩
theorem new_good {first blocks : Nat} {l : List Int} {n : Nat} {w w' : World} (h : NewOk first blocks l n) (hI : IsSp w' (w.heap.size + 1) w.heap.size first (nk l first (blocks - first) n)) (hB : Below w.heap.size w w') :
    NewPost first blocks l n w (.returned (.tuple #[.pointer (some ⟨w.heap.size + 1, 0, none⟩), .int .i64 0])) w' :=
  ⟨fun _ => ⟨rfl, hI⟩, fun hx => absurd hx (fun ⟨i, hi, hf⟩ => by have := h i hi; rw [hf] at this; cases this), hB⟩
/-- one more marked -/
theorem nk_step {w : World} {b g first m k : Nat} {l : List Int} (blocks : Nat) (h : IsSp w b g first (nk l first m k)) (ok : ∀ i, i < k → tok l first blocks i = true) (t : Int) (ht : t = l.getD k 0) (h1 : (first : Int) ≤ t) (h2 : t < blocks) (hm : m = blocks - first)
    (h3 : 0 < k → l.getD (k - 1) 0 < t) (j : Nat) (hj : t - first = j) (f : Int) (hf : f = ((nk l first m k).count 0 : Nat) - 1) :
    IsSp ((w.setCell ⟨g, j, none⟩ (.int .i64 2)).setCell ⟨b, 2, none⟩ (.int .i64 f)) b g first (nk l first m (k + 1)) ∧ tok l first blocks k = true ∧ j < m := by
  have hjm : j < m := by omega
  have hz := nk_zero l first blocks m k ok j (fun hk => by
    have := h3 hk
    have := of_decide_eq_true (ok (k - 1) (by omega))
    omega)
  have e : nk l first m (k + 1) = (nk l first m k).set j 2 := by
    rw [nk, ← ht, hj, Int.toNat_natCast]
  have hc := count_set (nk l first m k) j 2 (by rw [nk_length]; exact hjm)
  rw [if_pos hz, if_neg (by omega)] at hc
  refine ⟨?_, ?_, hjm⟩
  · rw [e]
    exact h.store j 2 f (by omega)
  · subst ht
    exact decide_eq_true ⟨h1, h2, h3⟩
theorem ok_succ {l : List Int} {first blocks k : Nat} (h : ∀ i, i < k → tok l first blocks i = true) (hk : tok l first blocks k = true) : ∀ i, i < k + 1 → tok l first blocks i = true := fun i hi => by
  by_cases e : i < k
  · exact h i e
  · obtain rfl : i = k := by omega
    exact hk
theorem sp_New (blocks first : Nat) (hbl : blocks ≤ 4096) (hfb : first ≤ blocks) (A : Option Addr) (n c : Nat) (l : List Int) (w : World) (hr : RdI [] w A n c l) :
    Calls Try.prog 11 #[.int .i64 blocks, .int .i64 first, .slice A n c] w (NewPost first blocks l n w) := by
  have hm := hr.max
  have HR := Lib.hid hr
  clear hr
  obtain ⟨m, hmm⟩ : ∃ m, m = blocks - first := ⟨_, rfl⟩
  have hsub : (blocks : Int) - first = (m : Int) := by omega
  have hml : m ≤ 4096 := by omega
  have hmk := mk_int m hml
  have HM := Lib.hid hmm
  clear hmm
  have HS := Lib.hid (sp_new_start w first m hml (by omega))
  go_enter Try.func11, Try.ntmps11
  go_wp2_with fail
  go_loopw [9, 10, 38] (fun _ _ x wr => ∃ k : Nat, k ≤ n ∧ x = .int .i64 k ∧ (∀ i, i < k → tok l first blocks i = true) ∧ IsSp wr (w.heap.size + 1) w.heap.size first (nk l first m k) ∧ Below w.heap.size w wr) (fun _ _ x _ => n - (intOf x).toNat)
  case atStart => exact ⟨0, by omega, rfl, fun i hi => absurd hi (by omega), HS.out, ((Below.refl _ _).alloc (Nat.le_refl _) _).alloc (by simp) _⟩
  case round =>
    obtain ⟨k, hk, rfl, hok, hI, hB⟩ := hrel
    have HI := Lib.hid hI
    have HOK := Lib.hid hok
    clear hI hok
    by_cases hkn : k < n
    · obtain ⟨b0, o, rfl, _, hc⟩ := HR.out.at_ (by omega)
      have hcell := cell_ext hB (hc k hkn)
      obtain ⟨t, ht⟩ : ∃ t, t = l.getD k 0 := ⟨_, rfl⟩
      rw [← ht] at hcell
      have HT := Lib.hid ht
      have HC := Lib.hid hc
      have HBB := Lib.hid hB
      clear ht hc hB
      by_cases h1 : t < first
      · have HB := Lib.hid (show tok l first blocks k = false from decide_eq_false (by rw [← HT.out]; omega))
        go_wp2
        go_ret2
        exact new_bad hkn HB.out HBB.out
      by_cases h2 : (blocks : Int) ≤ t
      · have HB := Lib.hid (show tok l first blocks k = false from decide_eq_false (by rw [← HT.out]; omega))
        go_wp2
        go_ret2
        exact new_bad hkn HB.out HBB.out
      obtain ⟨j, hj⟩ : ∃ j : Nat, t - first = j := ⟨(t - first).toNat, by omega⟩
      have hc0 := HI.out.c2
      have hc1 := HI.out.c1
      have hf0 := HI.out.f2 2
      have hfg := HI.out.fg j
      have hlen := nk_length l first m k
      have hjm : j < (nk l first m k).length := by rw [hlen]; have := HM.out; omega
      have hne : w.heap.size + 1 ≠ w.heap.size := by omega
      have HST := Lib.hid (nk_step blocks HI.out HOK.out t HT.out (by omega) (by omega) HM.out)
      have hgc := HI.out.cg j hjm
      obtain ⟨fr, hfr⟩ : ∃ fr : Nat, fr = (nk l first m k).count 0 := ⟨_, rfl⟩
      rw [← hfr] at hc0
      have hfr4 : fr ≤ 4096 := by
        have := List.count_le_length (a := (0 : Int)) (l := nk l first m k)
        omega
      have HF := Lib.hid hfr
      clear hfr
      rcases k with _ | k
      · obtain ⟨hS, hT, _⟩ := HST.out (fun h => absurd h (by omega)) j hj ((fr : Int) - 1) (by rw [← HF.out])
        have HS1 := Lib.hid hS
        have HT1 := Lib.hid hT
        clear hS hT
        rw [Nat.add_zero] at hcell
        go_wp2
        refine ⟨⟨1, hkn, rfl, ok_succ HOK.out HT1.out, HS1.out, ?_⟩, by simp [intOf]; omega⟩
        exact (HBB.out.setCell (Nat.le_refl _) _).setCell (by simp) _
      · have hcp := cell_ext HBB.out (HC.out k (by omega))
        obtain ⟨tp, htp⟩ : ∃ tp, tp = l.getD k 0 := ⟨_, rfl⟩
        rw [← htp] at hcp
        by_cases h3 : t ≤ tp
        · have HB := Lib.hid (show tok l first blocks (k + 1) = false from decide_eq_false (fun h => by
            have := h.2.2 (by omega)
            rw [Nat.add_sub_cancel, ← htp, ← HT.out] at this
            omega))
          clear htp
          go_wp2
          go_ret2
          exact new_bad hkn HB.out HBB.out
        obtain ⟨hS, hT, _⟩ := HST.out (fun _ => by rw [Nat.add_sub_cancel, ← htp]; omega) j hj ((fr : Int) - 1) (by rw [← HF.out])
        have HS1 := Lib.hid hS
        have HT1 := Lib.hid hT
        clear hS hT htp
        go_wp2
        refine ⟨⟨k + 2, hkn, by go_num, ok_succ HOK.out HT1.out, HS1.out, ?_⟩, by simp [intOf]; omega⟩
        exact (HBB.out.setCell (Nat.le_refl _) _).setCell (by simp) _
    · obtain rfl : k = n := by omega
      have HBB := Lib.hid hB
      clear hB
      go_wp2
      go_ret2
      exact new_good HOK.out (by rw [← HM.out]; exact HI.out) HBB.out
end Go.Proofs.Ytodondpggkohjaa
