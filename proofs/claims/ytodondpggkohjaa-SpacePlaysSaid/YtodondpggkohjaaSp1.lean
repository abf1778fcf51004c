/- Walks of the space's methods. -/
import Derived.Test.YtodondpggkohjaaSpW
import Derived.Deep.QuietTactic
import Derived.BigQuiet
set_option linter.unusedVariables false
set_option linter.unusedSimpArgs false
namespace Go.Proofs.Ytodondpggkohjaa
open Go.RowKit
theorem sp_Free (b g first : Nat) (is : List Int) (w : World) (h : IsSp w b g first is) :
    Calls Try.prog 17 #[.pointer (some ⟨b, 0, none⟩)] w fun e w' => e = .returned (.int .i64 (is.count 0)) ∧ w' = w := by
  have c2 := h.c2
  clear h
  go_enter Try.func17, Try.ntmps17
  go_wp2
  go_ret
  exact ⟨rfl, rfl⟩
theorem sp_Take_ok (b g first : Nat) (is : List Int) (w : World) (h : IsSp w b g first is) (i : Nat) (hi : i < is.length) (h0 : is.getD i 0 = 0) (hlow : ∀ j, j < i → is.getD j 0 ≠ 0) :
    Calls Try.prog 21 #[.pointer (some ⟨b, 0, none⟩)] w fun e w' => e = .returned (.tuple #[.int .i64 ((first + i : Nat) : Int), .int .i64 0]) ∧ IsSp w' b g first (is.set i 1) ∧ Only [b, g] w w' := by
  have H := Lib.hid h
  have c0 := h.c0
  have c1 := h.c1
  have c2 := h.c2
  have hs := h.small
  have f2 := h.f2 2
  have hfr : IsSp w b g first is := h
  have HL := Lib.hid hlow
  clear hlow hfr
  obtain ⟨n, hn⟩ : ∃ n, n = is.length := ⟨_, rfl⟩
  rw [← hn] at hi c1 hs
  have HN := Lib.hid hn
  have hcnt : 0 < is.count 0 := by
    rw [List.count_pos_iff]
    rw [hn] at hi
    rw [← h0, List.getD_eq_getElem?_getD, List.getElem?_eq_getElem hi]
    exact List.getElem_mem hi
  have hcm : is.count 0 ≤ 4096 := Nat.le_trans (List.count_le_length) (by rw [← hn]; exact hs.1)
  have hset := count_set is i 1 (by rw [← hn]; exact hi)
  rw [if_pos h0, if_neg (by decide)] at hset
  obtain ⟨cn, hcn⟩ : ∃ cn, cn = is.count 0 := ⟨_, rfl⟩
  rw [← hcn] at hcnt hcm hset c2
  have HC := Lib.hid hset
  have hbg := h.ne
  have hgb := Ne.symm h.ne
  clear h hn hset hcn
  have H0 := Lib.hid h0
  clear h0
  go_enter Try.func21, Try.ntmps21
  go_wp2_with fail
  go_loop [4, 10] (fun _ x => ∃ k : Nat, k ≤ i ∧ x = .int .i64 k) (fun _ x => n - (intOf x).toNat)
  case atStart => exact ⟨0, by omega, rfl⟩
  case round =>
    obtain ⟨k, hk, rfl⟩ := hrel
    have cg := H.out.cg k (by rw [← HN.out]; omega)
    by_cases hki : k = i
    · have HK := Lib.hid hki
      rw [HK.out, H0.out] at cg
      have fg := H.out.fg i
      obtain rfl : k = i := hki
      go_wp2
      go_ret2
      exact ⟨rfl, H.out.store k 1 _ (by have := HC.out; omega), ((Only.refl _ _).setCell (by simp) _).setCell (by simp) _⟩
    · have hne : (is.getD k 0 == 0) = false := by simpa using HL.out k (by omega)
      generalize is.getD k 0 = x at *
      go_wp2
      exact ⟨⟨k + 1, by omega, by go_num⟩, by simp [intOf]; omega⟩
theorem sp_Take_none (b g first : Nat) (is : List Int) (w : World) (h : IsSp w b g first is) (hno : ∀ j, j < is.length → is.getD j 0 ≠ 0) :
    Calls Try.prog 21 #[.pointer (some ⟨b, 0, none⟩)] w fun e w' => e = .returned (.tuple #[.int .i64 (-1), .int .i64 3]) ∧ w' = w := by
  have H := Lib.hid h
  have c0 := h.c0
  have c1 := h.c1
  have hs := h.small
  have HL := Lib.hid hno
  obtain ⟨n, hn⟩ : ∃ n, n = is.length := ⟨_, rfl⟩
  rw [← hn] at c1 hs
  have HN := Lib.hid hn
  clear h hn hno
  go_enter Try.func21, Try.ntmps21
  go_wp2_with fail
  go_loop [4, 10] (fun _ x => ∃ k : Nat, k ≤ n ∧ x = .int .i64 k) (fun _ x => n - (intOf x).toNat)
  case atStart => exact ⟨0, by omega, rfl⟩
  case round =>
    obtain ⟨k, hk, rfl⟩ := hrel
    by_cases hkn : k < n
    · have cg := H.out.cg k (by rw [← HN.out]; exact hkn)
      have hne : (is.getD k 0 == 0) = false := by simpa using HL.out k (by rw [← HN.out]; exact hkn)
      generalize is.getD k 0 = x at *
      go_wp2
      exact ⟨⟨k + 1, by omega, by go_num⟩, by simp [intOf]; omega⟩
    · go_wp2
      go_ret2
      exact ⟨rfl, rfl⟩
/-- the states after turn has gone over the first k -/
def trn (was now : Int) (is : List Int) (k : Nat) : List Int := (is.take k).map (fun x => if x = was then now else x) ++ is.drop k
theorem trn_zero (was now : Int) (is : List Int) : trn was now is 0 = is := by simp [trn]
theorem trn_length (was now : Int) (is : List Int) (k : Nat) : (trn was now is k).length = is.length := by simp [trn]; omega
theorem trn_get (was now : Int) (is : List Int) (k : Nat) : (trn was now is k).getD k 0 = is.getD k 0 := by
  by_cases h : k < is.length
  · rw [trn, List.getD_eq_getElem?_getD, List.getElem?_append_right (by simp; omega)]
    simp [List.getD_eq_getElem?_getD, Nat.min_eq_left (Nat.le_of_lt h)]
  · rw [List.getD_eq_getElem?_getD, List.getD_eq_getElem?_getD, List.getElem?_eq_none (by rw [trn_length]; omega), List.getElem?_eq_none (by omega)]
theorem trn_step (was now : Int) (is : List Int) (k : Nat) (h : k < is.length) : trn was now is (k + 1) = if is.getD k 0 = was then (trn was now is k).set k now else trn was now is k := by
  have h1 : ((is.take k).map (fun x => if x = was then now else x)).length = k := by simp; omega
  have h2 : trn was now is (k + 1) = (is.take k).map (fun x => if x = was then now else x) ++ (if is.getD k 0 = was then now else is.getD k 0) :: is.drop (k + 1) := by
    rw [trn, take_snoc is k 0 h, List.map_append, List.append_assoc]; rfl
  have h3 : trn was now is k = (is.take k).map (fun x => if x = was then now else x) ++ is.getD k 0 :: is.drop (k + 1) := by
    rw [trn, List.drop_eq_getElem_cons h, List.getD_eq_getElem?_getD, List.getElem?_eq_getElem h]; rfl
  rw [h2]
  split
  · rw [h3, List.set_append_right _ _ (by omega), h1, Nat.sub_self, List.set_cons_zero]
  · rw [h3]
theorem trn_all (was now : Int) (is : List Int) : trn was now is is.length = is.map (fun x => if x = was then now else x) := by simp [trn]
theorem sp_turn (b g first : Nat) (is : List Int) (was now : Int) (w : World) (h : IsSp w b g first is) (hwn : (was = 1 ∧ now = 2) ∨ (was = 3 ∧ now = 0) ∨ (was = 1 ∧ now = 0) ∨ (was = 3 ∧ now = 2)) :
    Calls Try.prog 35 #[.pointer (some ⟨b, 0, none⟩), .int .i64 was, .int .i64 now] w fun e w' => e = .returned (.tuple #[]) ∧ IsSp w' b g first (is.map fun x => if x = was then now else x) ∧ Only [b, g] w w' := by
  have H := Lib.hid h
  have c1 := h.c1
  have hs := h.small
  obtain ⟨n, hn⟩ : ∃ n, n = is.length := ⟨_, rfl⟩
  rw [← hn] at c1 hs
  have HN := Lib.hid hn
  have hbg := h.ne
  have hgb := Ne.symm h.ne
  clear h hn
  go_enter Try.func35, Try.ntmps35
  go_wp2_with fail
  go_loopw [6, 12] (fun _ x wr => ∃ k : Nat, k ≤ n ∧ x = .int .i64 k ∧ IsSp wr b g first (trn was now is k) ∧ Only [b, g] w wr) (fun _ x _ => n - (intOf x).toNat)
  case atStart => exact ⟨0, by omega, rfl, by rw [trn_zero]; exact H.out, Only.refl _ _⟩
  case round =>
    obtain ⟨k, hk, rfl, hI, hW⟩ := hrel
    have HI := Lib.hid hI
    have hc1 := hI.c1
    rw [trn_length, ← HN.out] at hc1
    have hc2 := hI.c2
    have hcm : (trn was now is k).count 0 ≤ 4096 := Nat.le_trans List.count_le_length (by rw [trn_length, ← HN.out]; exact hs.1)
    clear hI
    by_cases hkn : k < n
    · have cg := HI.out.cg k (by rw [trn_length, ← HN.out]; exact hkn)
      have fg := HI.out.fg k
      have f2 := HI.out.f2 2
      rw [trn_get] at cg
      have HS := Lib.hid (trn_step was now is k (by rw [← HN.out]; exact hkn))
      have HT := Lib.hid (count_set (trn was now is k) k now (by rw [trn_length, ← HN.out]; exact hkn))
      have HG := Lib.hid (trn_get was now is k)
      obtain ⟨cn, hcn⟩ : ∃ cn, cn = (trn was now is k).count 0 := ⟨_, rfl⟩
      rw [← hcn] at hc2 hcm
      have HC := Lib.hid hcn
      clear hcn
      obtain ⟨x, hx⟩ : ∃ x, x = is.getD k 0 := ⟨_, rfl⟩
      rw [← hx] at cg
      have HX := Lib.hid hx
      clear hx
      by_cases hxw : x = was
      · have HXW := Lib.hid hxw
        have hb : (x == was) = true := by simpa using hxw
        clear hxw
        by_cases hn0 : now = 0
        · have HN0 := Lib.hid hn0
          have hb2 : (now == 0) = true := by simpa using hn0
          clear hn0
          go_wp2
          have hcount : ((cn : Int) + 1) = (((trn was now is k).set k now).count 0 : Nat) := by
            have := HT.out
            rw [HG.out, ← HX.out, HXW.out, if_neg (by omega), if_pos HN0.out, ← HC.out] at this
            omega
          exact ⟨⟨k + 1, by omega, by go_num, by rw [HS.out, ← HX.out, if_pos HXW.out]; exact HI.out.store k now _ hcount, (hW.setCell (by simp) _).setCell (by simp) _⟩, by simp [intOf]; omega⟩
        · have HN0 := Lib.hid hn0
          have hb2 : (now == 0) = false := by simpa using hn0
          clear hn0
          go_wp2
          have hcount : ((trn was now is k).set k now).count 0 = (trn was now is k).count 0 := by
            have := HT.out
            rw [HG.out, ← HX.out, HXW.out, if_neg (by omega), if_neg HN0.out] at this
            omega
          exact ⟨⟨k + 1, by omega, by go_num, by rw [HS.out, ← HX.out, if_pos HXW.out]; exact HI.out.store1 k now hcount, hW.setCell (by simp) _⟩, by simp [intOf]; omega⟩
      · have HXW := Lib.hid hxw
        have hb : (x == was) = false := by simpa using hxw
        clear hxw
        go_wp2
        exact ⟨⟨k + 1, by omega, by go_num, by rw [HS.out, ← HX.out, if_neg HXW.out]; exact HI.out, hW⟩, by simp [intOf]; omega⟩
    · obtain rfl : k = n := by omega
      go_wp2
      go_end0
      exact ⟨rfl, by have := HI.out; rwa [HN.out, trn_all] at this, hW⟩
def commitS (is : List Int) : List Int := (is.map fun x => if x = 1 then 2 else x).map fun x => if x = 3 then 0 else x
def backS (is : List Int) : List Int := (is.map fun x => if x = 1 then 0 else x).map fun x => if x = 3 then 2 else x
theorem sp_Commit (b g first : Nat) (is : List Int) (w : World) (h : IsSp w b g first is) :
    Calls Try.prog 22 #[.pointer (some ⟨b, 0, none⟩)] w fun e w' => e = .returned (.tuple #[]) ∧ IsSp w' b g first (commitS is) ∧ Only [b, g] w w' := by
  have H := Lib.hid h
  clear h
  go_enter Try.func22, Try.ntmps22
  go_wp2_with fail
  refine (sp_turn b g first is 1 2 w H.out (by omega)).mono ?_
  rintro e w1 ⟨rfl, h1, hw1⟩
  have H1 := Lib.hid h1
  clear h1
  go_wp2_with fail
  refine (sp_turn b g first _ 3 0 w1 H1.out (by omega)).mono ?_
  rintro e w2 ⟨rfl, h2, hw2⟩
  have H2 := Lib.hid h2
  clear h2
  go_wp2
  go_end0
  exact ⟨rfl, H2.out, hw1.trans hw2⟩
theorem sp_Back (b g first : Nat) (is : List Int) (w : World) (h : IsSp w b g first is) :
    Calls Try.prog 23 #[.pointer (some ⟨b, 0, none⟩)] w fun e w' => e = .returned (.tuple #[]) ∧ IsSp w' b g first (backS is) ∧ Only [b, g] w w' := by
  have H := Lib.hid h
  clear h
  go_enter Try.func23, Try.ntmps23
  go_wp2_with fail
  refine (sp_turn b g first is 1 0 w H.out (by omega)).mono ?_
  rintro e w1 ⟨rfl, h1, hw1⟩
  have H1 := Lib.hid h1
  clear h1
  go_wp2_with fail
  refine (sp_turn b g first _ 3 2 w1 H1.out (by omega)).mono ?_
  rintro e w2 ⟨rfl, h2, hw2⟩
  have H2 := Lib.hid h2
  clear h2
  go_wp2
  go_end0
  exact ⟨rfl, H2.out, hw1.trans hw2⟩
end Go.Proofs.Ytodondpggkohjaa
