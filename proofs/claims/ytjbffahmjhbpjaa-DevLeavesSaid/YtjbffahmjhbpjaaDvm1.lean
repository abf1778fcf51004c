/- DevArmed, its parts: sameInts, Read refused, the cache's numbers beside a state, the states. -/
import Derived.Test.YtjbffahmjhbpjaaDvd
import Derived.Deep.QuietTactic
set_option linter.unusedVariables false
set_option linter.unusedSimpArgs false
set_option maxRecDepth 100000
namespace Go.Proofs.Ytjbffahmjhbpjaa
open Go.RowKit
theorem ret_bool {a b : Bool} (h : a = b) : Ending.returned (.bool a) = .returned (.bool b) := by rw [h]
theorem l6_sameInts {D D' : List Nat} {A A' : Option Addr} {n c n' c' : Nat} {l l' : List Int} (w : World) (hr : RdI D w A n c l) (hr' : RdI D' w A' n' c' l') :
    Calls Try.prog 29 #[.slice A n c, .slice A' n' c'] w fun e w' => e = .returned (.bool (decide (l = l'))) ∧ Only [] w w' := by
  have hm := hr.max
  have hl := hr.len
  have hm' := hr'.max
  have hl' := hr'.len
  have HR := Lib.hid hr
  have HR' := Lib.hid hr'
  clear hr hr'
  by_cases hnn : n = n'
  · subst hnn
    go_enter Try.func29, Try.ntmps29
    go_wp2_with fail
    go_loopw [4, 5] (fun _ x wr => ∃ k : Nat, k ≤ n ∧ x = .int .i64 k ∧ (∀ i, i < k → l.getD i 0 = l'.getD i 0) ∧ Only [] w wr) (fun _ x _ => n - (intOf x).toNat)
    case atStart => exact ⟨0, by omega, rfl, fun i hi => absurd hi (by omega), Only.refl _ _⟩
    case round =>
      obtain ⟨k, hk, rfl, hok, hO⟩ := hrel
      have HOK := Lib.hid hok
      clear hok
      by_cases hkn : k < n
      · obtain ⟨b0, o, rfl, _, hc⟩ := HR.out.at_ (by omega)
        obtain ⟨b1, o1, rfl, _, hc1⟩ := HR'.out.at_ (by omega)
        have hcell := cell_ext (hO.below (Nat.le_refl _) (by simp)) (hc k hkn)
        have hcell1 := cell_ext (hO.below (Nat.le_refl _) (by simp)) (hc1 k hkn)
        obtain ⟨t, ht⟩ : ∃ t, t = l.getD k 0 := ⟨_, rfl⟩
        rw [← ht] at hcell
        obtain ⟨t', ht'⟩ : ∃ t, t = l'.getD k 0 := ⟨_, rfl⟩
        rw [← ht'] at hcell1
        have HT := Lib.hid ht
        have HT' := Lib.hid ht'
        clear ht hc ht' hc1
        by_cases h1 : t = t'
        · have HN := Lib.hid h1
          have q1 : (t == t') = true := by simpa using h1
          clear h1
          go_wp2_with fail
          go_quiet (fail)
          all_goals go_wp2
          refine ⟨⟨k + 1, by omega, by go_num, fun i hi => ?_, hO.drewN _⟩, by simp [intOf]; omega⟩
          by_cases e : i < k
          · exact HOK.out i e
          · obtain rfl : i = k := by omega
            rw [← HT.out, ← HT'.out]; exact HN.out
        · have HB := Lib.hid (show decide (l = l') = false from decide_eq_false (fun e => h1 (by rw [HT.out, HT'.out, e])))
          have q1 : (t == t') = false := by simpa using h1
          clear h1
          go_wp2_with fail
          go_quiet (fail)
          all_goals go_wp2
          go_ret
          exact ⟨ret_bool HB.out.symm, by first | exact Only.refl _ _ | exact hO | exact hO.drewN _⟩
      · obtain rfl : k = n := by omega
        have HB := Lib.hid (show decide (l = l') = true from decide_eq_true (by
          apply List.ext_getElem (by omega)
          intro i h1 h2
          have := HOK.out i (by omega)
          simpa [List.getD_eq_getElem?_getD, List.getElem?_eq_getElem h1, List.getElem?_eq_getElem h2] using this))
        go_wp2
        go_ret
        exact ⟨ret_bool HB.out.symm, by first | exact Only.refl _ _ | exact hO | exact hO.drewN _⟩
  · have HB := Lib.hid (show decide (l = l') = false from decide_eq_false (fun e => hnn (by rw [← hl, ← hl', e])))
    go_enter Try.func29, Try.ntmps29
    go_wp2
    go_ret
    exact ⟨ret_bool HB.out.symm, by first | exact Only.refl _ _ | exact hO | exact hO.drewN _⟩
theorem dv_Read_bad (w : World) (b g : Nat) (vc : Value) (D : DS) (num : Int) (h : IsV w b g vc D) (hn : ¬ (0 ≤ num ∧ num < (D.n : Int))) :
    Calls Try.prog 19 #[.pointer (some ⟨b, 0, none⟩), .int .i64 num] w fun e w' => e = .returned (.tuple #[.slice none 0 0, .int .i64 60]) ∧ w' = w := by
  have HH := Lib.hid (dv_has w b g vc D num h)
  rw [decide_eq_false hn] at HH
  clear h hn
  go_enter Try.func19, Try.ntmps19
  go_wp2_with fail
  refine HH.out.mono ?_
  rintro e w1 ⟨rfl, rfl⟩
  go_wp2
  go_ret2
  exact ⟨rfl, rfl⟩
theorem dv_Read_down (w : World) (b g : Nat) (vc : Value) (D : DS) (num : Int) (h : IsV w b g vc D) (hn : 0 ≤ num ∧ num < (D.n : Int)) (hd : D.down = true) :
    Calls Try.prog 19 #[.pointer (some ⟨b, 0, none⟩), .int .i64 num] w fun e w' => e = .returned (.tuple #[.slice none 0 0, .int .i64 6]) ∧ w' = w := by
  have HH := Lib.hid (dv_has w b g vc D num h)
  rw [decide_eq_true hn] at HH
  have c4 : w.cell? ⟨b, 4, none⟩ = some (.bool D.down) := h.dev.cell 4
  rw [hd] at c4
  clear h hn hd
  go_enter Try.func19, Try.ntmps19
  go_wp2_with fail
  refine HH.out.mono ?_
  rintro e w1 ⟨rfl, rfl⟩
  go_wp2
  go_ret2
  exact ⟨rfl, rfl⟩
section
variable {w0 w : World} {b g : Nat} {vc : Value} {D : DS} {R : List (Nat × Obj)}
/-- the cache's numbers, none or some: R1 holds their row -/
theorem st_PendN (h : St w0 w b g vc D R) (hq : D.C.length ≤ 100000000000) :
    Calls Try.prog 20 #[.pointer (some ⟨b, 0, none⟩)] w fun e w' => ∃ A c R1, e = .returned (.slice A D.C.length c) ∧ (∀ W : World, (∀ p ∈ R1, W.heap[p.1]? = some p.2) → RdI [] W A D.C.length c (nums D.C)) ∧ St w0 w' b g vc D (R ++ R1) := by
  refine (dv_Pending w b g vc D h.dv hq).mono ?_
  rintro e w' ⟨u, rfl, hO, hb⟩
  rcases Nat.eq_zero_or_pos D.C.length with h0 | hp
  · rcases hO.2 with ⟨rfl, _⟩ | ⟨k, cap, cur, rfl, hbk, hh, h1, h2, h3, h4⟩
    · have hn : nums D.C = [] := List.eq_nil_of_length_eq_zero (by rw [nums_len, h0])
      exact ⟨none, 0, [], by rw [h0], fun W _ => by rw [h0, hn]; exact RdI.nil _ W, by rw [List.append_nil]; exact h.below hb⟩
    · have hn : nums D.C = [] := List.eq_nil_of_length_eq_zero (by rw [nums_len, h0])
      exact ⟨_, cap, [], rfl, fun W _ => ⟨hO.len, h1, by omega, fun hp => by omega⟩, by rw [List.append_nil]; exact h.below hb⟩
  · obtain ⟨k, c, o, rfl, hr, hS⟩ := h.newN hO hb hp
    refine ⟨_, c, [(k, o)], rfl, fun W hW => ?_, hS.back⟩
    have h2 : RowN o D.C.length c (nums D.C) := hr
    exact OwnI.rdA [] (h2.own (hW (k, o) (by simp))) (by omega) (by simp)
theorem st_Arm (k : Int) (h : St w0 w b g vc D R) :
    Calls Try.prog 30 #[.pointer (some ⟨b, 0, none⟩), .int .i64 k] w fun e w' => e = .returned (.int .i64 (armD D k).1) ∧ St w0 w' b g vc (armD D k).2 R := by
  refine (dv_Arm w b g vc D k h.dv).mono ?_
  rintro e w' ⟨rfl, hV, hF⟩
  exact ⟨rfl, h.fr hV hF⟩
theorem st_WriteNil (num : Int) (h : St w0 w b g vc D R) (hl : D.left < 9223372036854775808) (hq : D.C.length ≤ 100000000000) (hwr : D.wr < 9223372036854775807) :
    Calls Try.prog 16 #[.pointer (some ⟨b, 0, none⟩), .int .i64 num, .slice none 0 0] w fun e w' => e = .returned (.int .i64 (wrD D num []).1) ∧ ∃ vc', St w0 w' b g vc' (wrD D num []).2 R := by
  refine (dv_Write w b g vc D num none 0 0 [] h.dv (Rd.nil w) (by simp) hl hq hwr).mono ?_
  rintro e w' ⟨rfl, vc', hV, hF⟩
  exact ⟨rfl, vc', h.fr hV hF⟩
theorem st_Crash (n c : Nat) (A : Option Addr) (l : List Ft) (h : St w0 w b g vc D R) (hq : D.C.length ≤ 100000000000) (hr : RdF w A n c l) (hx : 0 < n → ∀ p, A = some p → p.block ∉ dvS b g vc) :
    Calls Try.prog 25 #[.pointer (some ⟨b, 0, none⟩), .slice A n c] w fun e w' => e = .returned (.int .i64 (crT l D.C.length : Nat)) ∧ ∃ vc', St w0 w' b g vc' (crD D l) R := by
  refine (dv_Crash w b g vc D n c A l h.dv hq hr hx).mono ?_
  rintro e w' ⟨rfl, hV, hF⟩
  exact ⟨rfl, _, h.fr hV hF⟩
end
theorem st_Med64 {w0 w : World} {b g : Nat} {vc : Value} {D : DS} {R : List (Nat × Obj)} (h : St w0 w b g vc D R) (hn : D.n = 64) :
    Calls Try.prog 23 #[.pointer (some ⟨b, 0, none⟩)] w fun e w' => ∃ j c o, e = .returned (.slice (some ⟨j, 0, none⟩) 32768 c) ∧ RowB o 32768 c D.M ∧ St w0 w' b g vc D ((j, o) :: R) := by
  have h1 := st_Medium h
  rw [hn] at h1
  exact h1
theorem Only.toB {w w' : World} (h : Only [] w w') : Below w.heap.size w w' := h.below (Nat.le_refl _) (by simp)
/-! ### the states of DevArmed -/
def amF (i : Nat) : List UInt8 := List.replicate 512 (UInt8.ofNat i)
def amC (i : Nat) : List Pd := (List.range i).map fun j => ⟨j, amF j⟩
theorem amC_len (i : Nat) : (amC i).length = i := by simp [amC]
theorem amC_snoc (i : Nat) : amC (i + 1) = amC i ++ [⟨i, amF i⟩] := by simp [amC, List.range_succ]
def amD (n i : Nat) : DS := ⟨64, liveM, amC i, n - i, true, false, 0, 1 + i, 1⟩
def amX (n : Nat) : DS := ⟨64, liveM, amC n, 0, true, true, 0, 1 + n, 1⟩
def amY (n : Nat) : DS := ⟨64, liveM, [], 0, false, false, 0, 1 + n, 1⟩
def amZ (n : Nat) : DS := ⟨64, liveM, [⟨1, amF 1⟩], 0, false, false, 0, 2 + n, 1⟩
theorem am_arm0 (n : Nat) : armD liveD n = (0, amD n 0) := by
  unfold armD
  rw [if_neg (by omega), if_neg (by show ¬ (false = true); decide), Int.toNat_natCast]
  rfl
theorem am_armN (D : DS) (k : Int) (h : k < 0) : armD D k = (1, D) := if_pos h
theorem am_w64 (D : DS) (hn : D.n = 64) (L : List UInt8) (k : Int) (hk : k < 0 ∨ 64 ≤ k) : wrD D k L = (60, D) := by
  unfold wrD
  rw [if_pos (by rw [hn]; omega)]
theorem am_wnil (D : DS) (hn : D.n = 64) : wrD D 1 [] = (61, D) := by
  unfold wrD
  rw [if_neg (by rw [hn]; omega), if_pos (by simp)]
theorem am_wr (n i : Nat) (hi : i < n) (hn : n ≤ 40) : wrD (amD n i) i (amF i) = (0, amD n (i + 1)) := by
  have ha : actD (amD n i) = (true, { amD n i with left := n - (i + 1) }) := by
    unfold actD
    rw [if_neg (by show ¬ (true = true ∧ n - i = 0); omega), if_neg (by show ¬ (false = true); decide), if_pos (show (amD n i).armed = true from rfl)]
    rfl
  unfold wrD
  rw [if_neg (by show ¬ ¬ ((0 : Int) ≤ (i : Int) ∧ (i : Int) < ((64 : Nat) : Int)); omega), if_neg (by simp [amF]), ha, if_pos rfl]
  show ((0 : Int), (⟨64, liveM, amC i ++ [⟨i, amF i⟩], n - (i + 1), true, false, 0, 1 + i + 1, 1⟩ : DS)) = _
  rw [← amC_snoc]; rfl
theorem am_arm (n i : Nat) (hi : i < n) : armD (amD n (i + 1)) ((n : Int) - i - 1) = (0, amD n (i + 1)) := by
  unfold armD
  rw [if_neg (by omega), if_neg (by show ¬ (false = true); decide), show ((n : Int) - i - 1).toNat = n - (i + 1) by omega]
  rfl
theorem am_act (n : Nat) : actD (amD n n) = (false, amX n) := by
  unfold actD
  rw [if_pos ⟨rfl, Nat.sub_self n⟩]
  show (false, (⟨64, liveM, amC n, n - n, true, true, 0, 1 + n, 1⟩ : DS)) = _
  rw [Nat.sub_self]; rfl
theorem am_actX (n : Nat) : actD (amX n) = (false, amX n) := by
  unfold actD
  rw [if_pos ⟨rfl, rfl⟩]
  rfl
theorem am_fl (n : Nat) : flD (amD n n) = (6, amX n) := by
  unfold flD
  rw [am_act, if_neg (by show ¬ (false = true); decide)]
theorem am_wX (n : Nat) : wrD (amX n) 1 (amF 1) = (6, amX n) := by
  unfold wrD
  rw [if_neg (by show ¬ ¬ ((0 : Int) ≤ 1 ∧ (1 : Int) < ((64 : Nat) : Int)); omega), if_neg (by simp [amF]), am_actX, if_neg (by show ¬ (false = true); decide)]
theorem am_armX (n : Nat) : armD (amX n) 5 = (6, amX n) := by
  unfold armD
  rw [if_neg (by omega), if_pos (show (amX n).down = true from rfl)]
theorem layP_none (M : List UInt8) (x : Pd) (h : x.num * 512 ≤ M.length) : layP M x 0 = M := by
  unfold layP splice
  simp
theorem layA_none : ∀ (i : Nat) (l : List Pd) (M : List UInt8), (∀ x ∈ l, x.num * 512 ≤ M.length) → layA (crN []) i l M = M
  | i, [], M, _ => rfl
  | i, x :: r, M, h => by
    have h0 : crN [] i = 0 := rfl
    rw [layA, h0, layP_none M x (h x (by simp))]
    exact layA_none (i + 1) r M (fun y hy => h y (by simp [hy]))
theorem am_cr (n : Nat) (hn : n ≤ 40) : crD (amX n) [] = amY n := by
  have h : layA (crN []) 0 (amC n) liveM = liveM := layA_none 0 _ _ (fun x hx => by
    simp only [amC, List.mem_map, List.mem_range] at hx
    obtain ⟨j, hj, rfl⟩ := hx
    have h9 : liveM.length = 64 * 512 := by
      unfold liveM
      rw [splice_lenS _ _ _ (by rw [fiveL_len, zM_len]; decide), zM_len]
    rw [h9]
    show j * 512 ≤ 64 * 512
    omega)
  unfold crD
  show (⟨64, layA (crN []) 0 (amC n) liveM, [], 0, false, false, 0, 1 + n, 1⟩ : DS) = _
  rw [h]; rfl
theorem crT_nil : ∀ n, crT [] n = 0
  | 0 => rfl
  | n + 1 => by rw [crT, crT_nil n]; rfl
theorem am_wY (n : Nat) : wrD (amY n) 1 (amF 1) = (0, amZ n) := by
  unfold wrD
  rw [if_neg (by show ¬ ¬ ((0 : Int) ≤ 1 ∧ (1 : Int) < ((64 : Nat) : Int)); omega), if_neg (by simp [amF]), show actD (amY n) = (true, amY n) from rfl, if_pos rfl]
  show ((0 : Int), (⟨64, liveM, [⟨1, amF 1⟩], 0, false, false, 0, 1 + n + 1, 1⟩ : DS)) = _
  rw [show 1 + n + 1 = 2 + n by omega]; rfl
theorem am_flZ (n : Nat) : (flD (amZ n)).1 = 0 := by
  unfold flD
  rw [show actD (amZ n) = (true, amZ n) from rfl, if_pos rfl]
end Go.Proofs.Ytjbffahmjhbpjaa
