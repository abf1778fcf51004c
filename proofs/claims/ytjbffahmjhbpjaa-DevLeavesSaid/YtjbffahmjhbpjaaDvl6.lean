/- The laws' own helpers over the device: over. -/
import Derived.Test.YtjbffahmjhbpjaaDvs1
set_option linter.unusedVariables false
set_option linter.unusedSimpArgs false
set_option maxRecDepth 100000
namespace Go.Proofs.Ytjbffahmjhbpjaa
open Go.RowKit
def ovS (M : List UInt8) (p : List UInt8 × Ft) : List UInt8 := p.1.take (ftN p.2) ++ M.drop (ftN p.2)
def ovQ (Z : List (List UInt8 × Ft)) (M : List UInt8) : List UInt8 := Z.foldl ovS M
theorem ovQ_snoc (Z : List (List UInt8 × Ft)) (p : List UInt8 × Ft) (M : List UInt8) : ovQ (Z ++ [p]) M = ovS (ovQ Z M) p := by simp [ovQ]
theorem ftN_le (f : Ft) : ftN f ≤ 512 := by
  unfold ftN
  split
  · omega
  · split <;> omega
theorem ovS_len {M : List UInt8} {p : List UInt8 × Ft} (hM : M.length = 512) (hp : p.1.length = 512) : (ovS M p).length = 512 := by
  have := ftN_le p.2
  unfold ovS
  rw [List.length_append, List.length_take, List.length_drop]; omega
theorem ovQ_len : ∀ (Z : List (List UInt8 × Ft)) (M : List UInt8), M.length = 512 → (∀ p ∈ Z, p.1.length = 512) → (ovQ Z M).length = 512
  | [], M, h, _ => h
  | p :: r, M, h, hz => ovQ_len r (ovS M p) (ovS_len h (hz p (by simp))) (fun q hq => hz q (by simp [hq]))
theorem takeZ_snoc {α : Type} (l : List α) (d : α) (k : Nat) (h : k < l.length) : l.take (k + 1) = l.take k ++ [l.getD k d] := by
  rw [List.take_succ_eq_append_getElem h, List.getD_eq_getElem?_getD, List.getElem?_eq_getElem h]; rfl
theorem lay_step (X M : List UInt8) (j : Nat) (hX : j < X.length) (hM : j < M.length) : (X.take j ++ M.drop j).set j (X.getD j 0) = X.take (j + 1) ++ M.drop (j + 1) := by
  rw [List.set_append_right _ _ (by rw [List.length_take]; omega), List.length_take, Nat.min_eq_left (by omega), Nat.sub_self, List.drop_eq_getElem_cons hM, List.set_cons_zero, takeZ_snoc X 0 j hX, List.append_assoc]
  rfl
set_option maxHeartbeats 4000000 in
theorem l6_over (w : World) (Ab A A' : Option Addr) (cb n c c' : Nat) (M : List UInt8) (Z : List (List UInt8 × Ft)) (hb : Rd w Ab 512 cb M) (hw : Rds w A n c (Z.map Prod.fst)) (hf : RdF w A' n c' (Z.map Prod.snd)) (hz : ∀ p ∈ Z, p.1.length = 512) :
    Calls Try.prog 27 #[.slice Ab 512 cb, .slice A n c, .slice A' n c'] w fun e w' => ∃ u, e = .returned u ∧ Own w' w.heap.size u 512 (ovQ Z M) ∧ Below w.heap.size w w' := by
  have HB := Lib.hid hb
  have HW := Lib.hid hw
  have HF := Lib.hid hf
  have HZ := Lib.hid hz
  have HM := Lib.hid hb.len
  have hZl : Z.length = n := by have := hw.len; rwa [List.length_map] at this
  have hmx := hw.max
  have HZL := Lib.hid hZl
  clear hb hw hf hz hZl
  go_enter Try.func27, Try.ntmps27
  go_wp2_with (at_builtin; refine wp_app (w0 := w) w.heap.size (Own.nil _ _) HB.out (Below.refl _ _) (Nat.le_refl _) (by omega) _ _ rfl rfl rfl rfl ?_; intro v1 w1 hO1 hB1 hG1 hA1; have HO1 := Lib.hid hO1; have HB1 := Lib.hid hB1; clear hO1 hB1 hG1 hA1)
  have hO1 := HO1.out
  rw [Nat.zero_add, List.nil_append] at hO1
  obtain ⟨ko, co, rfl, hko, _⟩ := hO1.form (by omega)
  have HO0 := Lib.hid hO1
  clear hO1
  go_loopw [8, 9, 10] (fun x _ _ wx => ∃ i : Nat, i ≤ n ∧ x = .int .i64 i ∧ Own wx w.heap.size (.slice (some ⟨ko, 0, none⟩) 512 co) 512 (ovQ (Z.take i) M) ∧ Below w.heap.size w wx) (fun x _ _ _ => n - (intOf x).toNat)
  case atStart => exact ⟨0, by omega, rfl, HO0.out, HB1.out⟩
  case round =>
    obtain ⟨i, hi, rfl, hO, hB⟩ := hrel
    have HO := Lib.hid hO
    have HBi := Lib.hid hB
    clear hO hB
    by_cases hin : i < n
    · obtain ⟨bw, ow, rfl, hcw⟩ := HW.out.at_ (by omega)
      obtain ⟨bf, of, rfl, hcf⟩ := HF.out.at_ (by omega)
      obtain ⟨X, hX⟩ : ∃ X, X = (Z.map Prod.fst).getD i [] := ⟨_, rfl⟩
      obtain ⟨f, hf⟩ : ∃ f, f = (Z.map Prod.snd).getD i default := ⟨_, rfl⟩
      obtain ⟨A1, n1, c1, hc1, hr1⟩ := hcw i hin
      obtain ⟨hk, ha⟩ := hcf i hin
      rw [← hX] at hr1
      rw [← hf] at hk ha
      have HZI := Lib.hid (show i < Z.length from by have := HZL.out; omega)
      have hZi : Z.getD i ([], default) = (X, f) := by
        rw [hX, hf, List.getD_eq_getElem?_getD, List.getD_eq_getElem?_getD, List.getD_eq_getElem?_getD, List.getElem?_map, List.getElem?_map, List.getElem?_eq_getElem HZI.out]
        rfl
      have hXl : X.length = 512 := by
        have h9 := HZ.out (X, f) (by
          rw [← hZi, List.getD_eq_getElem?_getD, List.getElem?_eq_getElem HZI.out]
          exact List.getElem_mem _)
        exact h9
      obtain rfl : n1 = 512 := by rw [← hr1.len, hXl]
      obtain ⟨bx, ox, rfl, hcx⟩ := hr1.at_ (by omega)
      obtain ⟨cur, hcur⟩ : ∃ cur, cur = ovQ (Z.take i) M := ⟨_, rfl⟩
      have HCL := Lib.hid (show cur.length = 512 by rw [hcur]; exact ovQ_len _ _ HM.out (fun p hp => HZ.out p (List.mem_of_mem_take hp)))
      have HST := Lib.hid (show ovQ (Z.take (i + 1)) M = X.take (ftN f) ++ cur.drop (ftN f) by rw [takeZ_snoc Z ([], default) i HZI.out, ovQ_snoc, hZi, ← hcur]; rfl)
      rw [← hcur] at HO
      obtain ⟨kd, fa⟩ := f
      have hc1 := cell_ext HBi.out hc1
      have hk := cell_ext HBi.out hk
      have ha := cell_ext HBi.out ha
      have HCX := Lib.hid hcx
      have HC1 := Lib.hid (hcw i hin)
      have HXL := Lib.hid hXl
      have hii : (0 : Int) ≤ (i : Int) ∧ (i : Int) < (n : Int) := by omega
      have HCW := Lib.hid (show w.cell? ⟨bw, ow + i, none⟩ = some (.slice (some ⟨bx, ox, none⟩) 512 c1) by assumption)
      clear hcw hcf hX hf hr1 hZi hXl hcx hcur
      dsimp only at hk ha
      by_cases k1 : kd = 1
      · subst k1
        have HFN := Lib.hid (show ftN ⟨1, fa⟩ = 512 from if_pos rfl)
        go_wp2_with fail
        go_loopw [10] (fun x wx => ∃ j : Nat, j ≤ 512 ∧ x = .int .i64 j ∧ Own wx w.heap.size (.slice (some ⟨ko, 0, none⟩) 512 co) 512 (X.take j ++ cur.drop j) ∧ Below w.heap.size w wx) (fun x _ => 512 - (intOf x).toNat)
        case atStart => exact ⟨0, by omega, rfl, by simpa using HO.out, HBi.out⟩
        case round =>
          obtain ⟨j, hj, rfl, hOj, hBj⟩ := hrel
          have HOj := Lib.hid hOj
          have HBj := Lib.hid hBj
          by_cases hjn : j < 512
          · have hcell := hOj.cell j (by omega)
            have hfree := hOj.free j
            have hg1 := cell_ext hBj HCW.out
            have hg2 := cell_ext hBj (HCX.out j (by omega))
            obtain ⟨y, hy⟩ : ∃ y, y = X.getD j 0 := ⟨_, rfl⟩
            rw [← hy] at hg2
            have HSTj := Lib.hid (show (X.take j ++ cur.drop j).set j y = X.take (j + 1) ++ cur.drop (j + 1) by rw [hy]; exact lay_step X cur j (by have := HXL.out; omega) (by have := HCL.out; omega))
            generalize (X.take j ++ cur.drop j).getD j 0 = y0 at hcell
            have hjj : (0 : Int) ≤ (j : Int) ∧ (j : Int) < 512 := by omega
            clear hOj hBj hy
            go_wp2
            go_roundw
            case rel => exact ⟨j + 1, by omega, by go_num, by rw [← HSTj.out]; exact HOj.out.store j y, HBj.out.setCell (by first | exact hko | omega) _⟩
            case measure => simp [intOf]; omega
          · obtain rfl : j = 512 := by omega
            clear hOj hBj
            go_wp2
            go_roundw
            case rel => exact ⟨i + 1, by omega, by go_num, by rw [HST.out, HFN.out]; exact HOj.out, HBj.out⟩
            case measure => simp [intOf]; omega
      · by_cases k2 : kd = 2
        · subst k2
          have HFM := Lib.hid (show ftN ⟨2, fa⟩ = (min (max fa 0) 512).toNat by rw [ftN, if_neg (by show ¬ ((2 : Int) = 1); decide), if_pos rfl])
          rcases (by omega : fa ≤ 0 ∨ (0 < fa ∧ fa < 512) ∨ 512 ≤ fa) with h3 | ⟨h3, h4⟩ | h3
          · have HFN := Lib.hid (show ftN ⟨2, fa⟩ = 0 by rw [HFM.out]; omega)
            go_wp2_with fail
            go_loopw [10] (fun x wx => ∃ j : Nat, j ≤ 0 ∧ x = .int .i64 j ∧ Own wx w.heap.size (.slice (some ⟨ko, 0, none⟩) 512 co) 512 (X.take j ++ cur.drop j) ∧ Below w.heap.size w wx) (fun x _ => 0 - (intOf x).toNat)
            case atStart => exact ⟨0, by omega, rfl, by simpa using HO.out, HBi.out⟩
            case round =>
              obtain ⟨j, hj, rfl, hOj, hBj⟩ := hrel
              have HOj := Lib.hid hOj
              have HBj := Lib.hid hBj
              by_cases hjn : j < 0
              · exact absurd hjn (Nat.not_lt_zero j)
              · obtain rfl : j = 0 := by omega
                clear hOj hBj
                go_wp2
                go_roundw
                case rel => exact ⟨i + 1, by omega, by go_num, by rw [HST.out, HFN.out]; exact HOj.out, HBj.out⟩
                case measure => simp [intOf]; omega
          · obtain ⟨m, rfl⟩ := Int.eq_ofNat_of_zero_le (Int.le_of_lt h3)
            have HFN := Lib.hid (show ftN ⟨2, (m : Int)⟩ = m by rw [HFM.out]; omega)
            go_wp2_with fail
            go_loopw [10] (fun x wx => ∃ j : Nat, j ≤ m ∧ x = .int .i64 j ∧ Own wx w.heap.size (.slice (some ⟨ko, 0, none⟩) 512 co) 512 (X.take j ++ cur.drop j) ∧ Below w.heap.size w wx) (fun x _ => m - (intOf x).toNat)
            case atStart => exact ⟨0, by omega, rfl, by simpa using HO.out, HBi.out⟩
            case round =>
              obtain ⟨j, hj, rfl, hOj, hBj⟩ := hrel
              have HOj := Lib.hid hOj
              have HBj := Lib.hid hBj
              by_cases hjn : j < m
              · have hcell := hOj.cell j (by omega)
                have hfree := hOj.free j
                have hg1 := cell_ext hBj HCW.out
                have hg2 := cell_ext hBj (HCX.out j (by omega))
                obtain ⟨y, hy⟩ : ∃ y, y = X.getD j 0 := ⟨_, rfl⟩
                rw [← hy] at hg2
                have HSTj := Lib.hid (show (X.take j ++ cur.drop j).set j y = X.take (j + 1) ++ cur.drop (j + 1) by rw [hy]; exact lay_step X cur j (by have := HXL.out; omega) (by have := HCL.out; omega))
                generalize (X.take j ++ cur.drop j).getD j 0 = y0 at hcell
                have hjj : (0 : Int) ≤ (j : Int) ∧ (j : Int) < 512 := by omega
                clear hOj hBj hy
                go_wp2
                go_roundw
                case rel => exact ⟨j + 1, by omega, by go_num, by rw [← HSTj.out]; exact HOj.out.store j y, HBj.out.setCell (by first | exact hko | omega) _⟩
                case measure => simp [intOf]; omega
              · obtain rfl : j = m := by omega
                clear hOj hBj
                go_wp2
                go_roundw
                case rel => exact ⟨i + 1, by omega, by go_num, by rw [HST.out, HFN.out]; exact HOj.out, HBj.out⟩
                case measure => simp [intOf]; omega
          · have HFN := Lib.hid (show ftN ⟨2, fa⟩ = 512 by rw [HFM.out]; omega)
            go_wp2_with fail
            go_loopw [10] (fun x wx => ∃ j : Nat, j ≤ 512 ∧ x = .int .i64 j ∧ Own wx w.heap.size (.slice (some ⟨ko, 0, none⟩) 512 co) 512 (X.take j ++ cur.drop j) ∧ Below w.heap.size w wx) (fun x _ => 512 - (intOf x).toNat)
            case atStart => exact ⟨0, by omega, rfl, by simpa using HO.out, HBi.out⟩
            case round =>
              obtain ⟨j, hj, rfl, hOj, hBj⟩ := hrel
              have HOj := Lib.hid hOj
              have HBj := Lib.hid hBj
              by_cases hjn : j < 512
              · have hcell := hOj.cell j (by omega)
                have hfree := hOj.free j
                have hg1 := cell_ext hBj HCW.out
                have hg2 := cell_ext hBj (HCX.out j (by omega))
                obtain ⟨y, hy⟩ : ∃ y, y = X.getD j 0 := ⟨_, rfl⟩
                rw [← hy] at hg2
                have HSTj := Lib.hid (show (X.take j ++ cur.drop j).set j y = X.take (j + 1) ++ cur.drop (j + 1) by rw [hy]; exact lay_step X cur j (by have := HXL.out; omega) (by have := HCL.out; omega))
                generalize (X.take j ++ cur.drop j).getD j 0 = y0 at hcell
                have hjj : (0 : Int) ≤ (j : Int) ∧ (j : Int) < 512 := by omega
                clear hOj hBj hy
                go_wp2
                go_roundw
                case rel => exact ⟨j + 1, by omega, by go_num, by rw [← HSTj.out]; exact HOj.out.store j y, HBj.out.setCell (by first | exact hko | omega) _⟩
                case measure => simp [intOf]; omega
              · obtain rfl : j = 512 := by omega
                clear hOj hBj
                go_wp2
                go_roundw
                case rel => exact ⟨i + 1, by omega, by go_num, by rw [HST.out, HFN.out]; exact HOj.out, HBj.out⟩
                case measure => simp [intOf]; omega
        · have e1 : (kd == 1) = false := by simp [k1]
          have e2 : (kd == 2) = false := by simp [k2]
          have HFN := Lib.hid (show ftN ⟨kd, fa⟩ = 0 by rw [ftN, if_neg k1, if_neg k2])
          clear k1 k2
          go_wp2_with fail
          go_loopw [10] (fun x wx => ∃ j : Nat, j ≤ 0 ∧ x = .int .i64 j ∧ Own wx w.heap.size (.slice (some ⟨ko, 0, none⟩) 512 co) 512 (X.take j ++ cur.drop j) ∧ Below w.heap.size w wx) (fun x _ => 0 - (intOf x).toNat)
          case atStart => exact ⟨0, by omega, rfl, by simpa using HO.out, HBi.out⟩
          case round =>
            obtain ⟨j, hj, rfl, hOj, hBj⟩ := hrel
            have HOj := Lib.hid hOj
            have HBj := Lib.hid hBj
            by_cases hjn : j < 0
            · exact absurd hjn (Nat.not_lt_zero j)
            · obtain rfl : j = 0 := by omega
              clear hOj hBj
              go_wp2
              go_roundw
              case rel => exact ⟨i + 1, by omega, by go_num, by rw [HST.out, HFN.out]; exact HOj.out, HBj.out⟩
              case measure => simp [intOf]; omega
    · obtain rfl : i = n := by omega
      have HT := Lib.hid (show Z.take i = Z from List.take_of_length_le (by have := HZL.out; omega))
      rw [HT.out] at HO
      go_wp2
      go_ret
      exact ⟨_, rfl, HO.out, HBi.out⟩
end Go.Proofs.Ytjbffahmjhbpjaa
