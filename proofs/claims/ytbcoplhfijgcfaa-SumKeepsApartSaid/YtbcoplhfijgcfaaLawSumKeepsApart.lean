/- The walk of SumKeepsApart: it returns true for every input. No condition. -/
import Derived.Test.YtbcoplhfijgcfaaSumL2
import Derived.Test.YtbcoplhfijgcfaaSumL4
import Derived.Test.YtbcoplhfijgcfaaSumW8
import Derived.Test.YtbcoplhfijgcfaaSumW10
import Derived.Deep.QuietTactic
import Derived.BigQuiet
set_option linter.unusedVariables false
set_option linter.unusedSimpArgs false
namespace Go.Proofs.Ytbcoplhfijgcfaa
open Go.RowKit SumMath
def inc (l : List UInt8) : List UInt8 := l.map (· + 1)
/-- the list after its first k bytes are raised -/
def inck (l : List UInt8) (k : Nat) : List UInt8 := (l.take k).map (· + 1) ++ l.drop k
theorem inck_zero (l : List UInt8) : inck l 0 = l := by simp [inck]
theorem inck_all (l : List UInt8) (n : Nat) (h : l.length ≤ n) : inck l n = inc l := by simp [inck, inc, List.take_of_length_le h, List.drop_of_length_le h]
theorem inck_get (l : List UInt8) (k : Nat) : (inck l k).getD k 0 = l.getD k 0 := by
  by_cases h : k < l.length
  · rw [inck, List.getD_eq_getElem?_getD, List.getElem?_append_right (by simp; omega)]
    simp [List.getD_eq_getElem?_getD, Nat.min_eq_left (Nat.le_of_lt h)]
  · rw [inck]
    simp [List.getD_eq_getElem?_getD, List.drop_of_length_le (Nat.le_of_not_lt h), List.getElem?_eq_none (Nat.le_of_not_lt h)]
    rw [List.getElem?_eq_none (by simp; omega)]; rfl
theorem inck_step (l : List UInt8) (k : Nat) (h : k < l.length) : (inck l k).set k (l.getD k 0 + 1) = inck l (k + 1) := by
  have h1 : ((l.take k).map (· + 1)).length = k := by simp; omega
  rw [inck, List.set_append_right _ _ (by omega), h1, Nat.sub_self, List.drop_eq_getElem_cons h, List.set_cons_zero, inck, take_snoc l k 0 h, List.map_append, List.append_assoc]
  rfl
theorem inc_val (x : UInt8) : ((x.toNat : Int) + 1) % 256 = ((x + 1).toNat : Int) := by
  rw [UInt8.toNat_add, show (1 : UInt8).toNat = 1 from rfl]; omega
theorem inc_get (l : List UInt8) (k : Nat) (h : k < l.length) : (inc l).getD k 0 = l.getD k 0 + 1 := by
  simp [inc, List.getD_eq_getElem?_getD, List.getElem?_eq_getElem h]
theorem parts_xyx (w : World) (A : Option Addr) (n c : Nat) (l : List UInt8) (A' : Option Addr) (n' c' : Nat) (l' : List UInt8) (h : Rd w A n c l) (h' : Rd w A' n' c' l') :
    Rds (w.alloc (.cells #[.slice A n c, .slice A' n' c', .slice A n c] 24)) (some ⟨w.heap.size, 0, none⟩) 3 3 [l, l', l] := by
  refine ⟨rfl, Nat.le_refl _, by omega, fun _ => ⟨_, _, rfl, fun j hj => ?_⟩⟩
  have hb : Below w.heap.size w (w.alloc (.cells #[.slice A n c, .slice A' n' c', .slice A n c] 24)) := (Below.refl _ _).alloc (Nat.le_refl _) _
  have : j = 0 ∨ j = 1 ∨ j = 2 := by omega
  rcases this with rfl | rfl | rfl
  · exact ⟨A, n, c, by rw [cell_of_row _ _ _ _ _ _ (heap_alloc_new w _)]; rfl, h.ext hb⟩
  · exact ⟨A', n', c', by rw [cell_of_row _ _ _ _ _ _ (heap_alloc_new w _)]; rfl, h'.ext hb⟩
  · exact ⟨A, n, c, by rw [cell_of_row _ _ _ _ _ _ (heap_alloc_new w _)]; rfl, h.ext hb⟩
theorem Own.slice {w : World} {base n : Nat} {v : Value} {l : List UInt8} (h : Own w base v n l) : ∃ A c, v = .slice A n c := by
  rcases h.2 with ⟨rfl, h0⟩ | ⟨g, cap, cur, rfl, _⟩
  · subst h0; exact ⟨none, 0, rfl⟩
  · exact ⟨_, cap, rfl⟩
theorem Own.short3 {w : World} {base n g cap : Nat} {l l2 : List UInt8} {m : Nat} (h : Own w base (.slice (some ⟨g, 0, none⟩) (n + m) cap) (n + m) (l ++ l2)) (hm : n + m ≤ 140737488355328) (hl : l.length = n) : Rd w (some ⟨g, 0, none⟩) n cap l := by
  obtain ⟨A, c, he, hr⟩ := h.rd hm
  injection he with h1 h2 h3
  subst h1 h3
  have := hr.take n (by omega)
  rwa [List.take_append_of_le_length (by omega), List.take_of_length_le (by omega)] at this
theorem Own.long3 {w : World} {base k g cap : Nat} {l : List UInt8} (h : Own w base (.slice (some ⟨g, 0, none⟩) k cap) k l) (hm : k ≤ 140737488355328) : Rd w (some ⟨g, 0, none⟩) k cap l := by
  obtain ⟨A, c, he, hr⟩ := h.rd hm
  injection he with h1 h2 h3
  subst h1 h3
  exact hr
theorem own_ne {w w' : World} {b b' n n' : Nat} {v v' : Value} {l l' : List UInt8} (h : Own w b v n l) (h' : Own w' b' v' n' l') (hb : w'.heap.size ≤ b) : v.ownBlock = none ∨ v.ownBlock ≠ v'.ownBlock := by
  cases hk : v.ownBlock with
  | none => exact .inl rfl
  | some k =>
    refine .inr fun he => ?_
    have h1 := ((World.ownsRow.lt h) k hk).1
    have h2 := ((World.ownsRow.lt h') k he.symm).2
    omega
theorem Own.rdA {w : World} {base n cap : Nat} {A : Option Addr} {l : List UInt8} (h : Own w base (.slice A n cap) n l) (hm : n ≤ 140737488355328) : Rd w A n cap l := by
  obtain ⟨A9, c9, he, hr⟩ := h.rd hm
  injection he with h1 h2 h3
  subst h1 h3
  exact hr
set_option maxHeartbeats 1000000 in
set_option maxRecDepth 100000 in
theorem walk_SumKeepsApart (A : Option Addr) (n c : Nat) (l : List UInt8) (A' : Option Addr) (m c' : Nat) (l' : List UInt8) (W : World) (w0 : Rd W A n c l) (z0 : n ≤ 140737488351232) (w1 : Rd W A' m c' l') (z1 : m ≤ 140737488351232) :
    Calls Try.prog 9 #[.slice A n c, .slice A' m c'] W fun e W' => e = .returned (.bool true) ∧ Below W.heap.size W W' := by
  have HR := Lib.hid w0
  have HR' := Lib.hid w1
  have HLn := Lib.hid w0.len
  have HLm := Lib.hid w1.len
  clear w0 w1
  obtain ⟨sl, hsl⟩ : ∃ sl, sl = l ++ le4 (crc 0#32 l) := ⟨_, rfl⟩
  have HSl := Lib.hid (show sl.length = n + 4 by rw [hsl]; simp [HLn.out, le4])
  have HSd := Lib.hid (show sl.drop n = le4 (crc 0#32 (sl.take n)) by rw [hsl, ← HLn.out]; simp)
  have HSt := Lib.hid (show sl.take n = l by rw [hsl, ← HLn.out]; simp)
  have HSE := Lib.hid hsl
  clear hsl
  go_enter Try.func9, Try.ntmps9
  go_wp2_with fail
  refine (law_fixed W).mono ?_
  rintro e w1 ⟨rfl, hb1⟩
  go_wp2_with fail
  refine (law_roomy _ _ _ l _ (HR.out.ext hb1) (by omega)).mono ?_
  rintro e w2 ⟨gx, cx, rfl, hX, hb2⟩
  have HX := Lib.hid (hX.long3 (by omega))
  have HX0 := Lib.hid (hX.short3 (by omega) HLn.out)
  have hB2 := hb1.trans (hb2.mono hb1.size)
  clear hX
  go_wp2_with fail
  refine (law_roomy _ _ _ l' _ (HR'.out.ext hB2) (by omega)).mono ?_
  rintro e w3 ⟨gy, cy, rfl, hY, hb3⟩
  have HY := Lib.hid (hY.long3 (by omega))
  have HY0 := Lib.hid (hY.short3 (by omega) HLm.out)
  have hB3 := hB2.trans (hb3.mono hB2.size)
  have HX := Lib.hid (HX.out.ext hb3)
  have HX0 := Lib.hid (HX0.out.ext hb3)
  clear hY
  go_wp2_with fail
  refine (sum_Seal _ _ _ l _ HX0.out (by omega)).mono ?_
  rintro e w4 ⟨v, rfl, hO, hb4⟩
  rw [← HSE.out] at hO
  obtain ⟨As, cs, rfl, hS⟩ := hO.rd (by omega)
  have HS := Lib.hid hS
  have hB4 := hB3.trans (hb4.mono hB3.size)
  have hcs := hS.cap
  clear hO hS
  have HP := Lib.hid (parts_xyx w4 _ _ _ l _ _ _ l' (HX0.out.ext hb4) (HY0.out.ext hb4))
  have hb4a : Below w4.heap.size w4 (w4.alloc (.cells #[.slice (some ⟨gx, 0, none⟩) n cx, .slice (some ⟨gy, 0, none⟩) m cy, .slice (some ⟨gx, 0, none⟩) n cx] 24)) := (Below.refl _ _).alloc (Nat.le_refl _) _
  go_wp2_with fail
  refine (sum_Parts _ 3 3 _ _ HP.out).mono ?_
  rintro e w5 ⟨rfl, hb5⟩
  have hb5 := hb4a.trans (hb5.mono hb4a.size)
  have hB5 := hB4.trans (hb5.mono hB4.size)
  have HX0 := Lib.hid ((HX0.out.ext hb4).ext hb5)
  have HX := Lib.hid ((HX.out.ext hb4).ext hb5)
  have HY0 := Lib.hid ((HY0.out.ext hb4).ext hb5)
  have HY := Lib.hid ((HY.out.ext hb4).ext hb5)
  have HS := Lib.hid (HS.out.ext hb5)
  go_wp2_with fail
  refine (sum_Update (7#32) _ _ _ l _ HX0.out).mono ?_
  rintro e w6 ⟨rfl, hb6⟩
  have hB6 := hB5.trans (hb6.mono hB5.size)
  have HX0 := Lib.hid (HX0.out.ext hb6)
  have HX := Lib.hid (HX.out.ext hb6)
  have HY0 := Lib.hid (HY0.out.ext hb6)
  have HY := Lib.hid (HY.out.ext hb6)
  have HS := Lib.hid (HS.out.ext hb6)
  go_wp2_with fail
  refine (law_marked _ _ _ _ _ l _ HX.out (HR.out.ext hB6)).mono ?_
  rintro e w' ⟨rfl, rfl⟩
  go_wp2_with fail
  refine (law_marked _ _ _ _ _ l' _ HY.out (HR'.out.ext hB6)).mono ?_
  rintro e w' ⟨rfl, rfl⟩
  go_wp2_with fail
  refine (law_roomy _ _ _ sl _ HS.out (by omega)).mono ?_
  rintro e w7 ⟨gz, cz, rfl, hZ, hb7⟩
  have HZ := Lib.hid (hZ.long3 (by omega))
  have HZ0 := Lib.hid (hZ.short3 (by omega) HSl.out)
  have hB7 := hB6.trans (hb7.mono hB6.size)
  have HX0 := Lib.hid (HX0.out.ext hb7)
  have HX := Lib.hid (HX.out.ext hb7)
  have HY0 := Lib.hid (HY0.out.ext hb7)
  have HS := Lib.hid (HS.out.ext hb7)
  clear hZ
  go_wp2_with fail
  refine (sum_Open_long _ _ _ _ sl _ HZ0.out n rfl).mono ?_
  rintro e w8 (⟨vo, rfl, hO, -, hb8⟩ | ⟨rfl, hd, -⟩)
  rotate_left
  · exact absurd HSd.out hd
  rw [HSt.out] at hO
  obtain ⟨Ao, co, rfl⟩ := hO.slice
  have HO8 := Lib.hid hO
  clear hO
  have hz7 := hB7.size
  have hz8 : w7.heap.size ≤ w8.heap.size := hb8.size
  have hB8 := hB7.trans (hb8.mono hz7)
  go_wp2_with fail
  refine (sum_Open_long _ _ _ _ sl _ (HZ0.out.ext hb8) n rfl).mono ?_
  rintro e w9 (⟨vp, rfl, hP, -, hb9⟩ | ⟨rfl, hd, -⟩)
  rotate_left
  · exact absurd HSd.out hd
  rw [HSt.out] at hP
  obtain ⟨Ap, cp, rfl⟩ := hP.slice
  have HP9 := Lib.hid hP
  have HO9 := Lib.hid (HO8.out.ext hb9)
  clear hP
  have hb79 := hb8.trans (hb9.mono hz8)
  have hB9 := hB7.trans (hb79.mono hz7)
  go_wp2_with fail
  have hro : Rd w9 Ao n co l := by obtain ⟨A9, c9, he, hr⟩ := HO9.out.rd (by omega); injection he with h1 h2 h3; subst h1 h3; exact hr
  have hrp : Rd w9 Ap n cp l := by obtain ⟨A9, c9, he, hr⟩ := HP9.out.rd (by omega); injection he with h1 h2 h3; subst h1 h3; exact hr
  have HRO := Lib.hid hro
  have HRP := Lib.hid hrp
  clear hro hrp
  refine (law_same_true _ _ _ _ _ _ l _ HRO.out (HR.out.ext hB9)).mono ?_
  rintro e w' ⟨rfl, rfl⟩
  go_wp2_with fail
  refine (law_same_true _ _ _ _ _ _ l _ HRP.out (HR.out.ext hB9)).mono ?_
  rintro e w' ⟨rfl, rfl⟩
  go_wp2_with fail
  refine (law_marked _ _ _ _ _ sl _ (HZ.out.ext hb79) (HS.out.ext hb79)).mono ?_
  rintro e w' ⟨rfl, rfl⟩
  go_wp2_with fail
  go_loopw [14] (fun i wr => ∃ j : Nat, j ≤ n ∧ i = .int .i64 j ∧ Own wr w7.heap.size (.slice Ao n co) n (inck l j) ∧ Own wr w8.heap.size (.slice Ap n cp) n l ∧ Below w7.heap.size w7 wr ∧ w8.heap.size ≤ wr.heap.size) (fun i _ => n - (intOf i).toNat)
  case atStart => exact ⟨0, by omega, rfl, by rw [inck_zero]; exact HO9.out, HP9.out, hb79, hb9.size⟩
  case round =>
    obtain ⟨j, hj, rfl, hoj, hpj, hbj, hzj⟩ := hrel
    have HOj := Lib.hid hoj
    have HPj := Lib.hid hpj
    clear hoj hpj
    by_cases hjn : j < n
    · obtain ⟨g, cc, he, hg1, hg2⟩ := HOj.out.form (by omega)
      injection he with he1 he2 he3
      subst he1 he3
      have hgo : g < w8.heap.size := by
        obtain ⟨g9, c9, he, h1, h2⟩ := HO8.out.form (by omega)
        injection he with he1 he2 he3
        injection he1 with he1
        injection he1 with he1
        subst he1
        exact h2
      have hcell := HOj.out.cell j hjn
      have hfree := HOj.out.free j
      rw [inck_get] at hcell
      have HV := inc_val (l.getD j 0)
      have HS1 := Lib.hid (inck_step l j (by rw [HLn.out]; exact hjn))
      have h8 := (l.getD j 0).toNat_lt
      have HW := Lib.hid (HOj.out.store j (l.getD j 0 + 1))
      generalize l.getD j 0 = x at *
      generalize x + 1 = y at *
      go_wp2
      exact ⟨⟨j + 1, by omega, by go_num, by rw [← HS1.out]; exact HW.out, HPj.out.below_store (by show g < _; omega) _, hbj.setCell (by show _ ≤ g; exact hg1) _, by simpa using hzj⟩, by simp [intOf]; omega⟩
    · obtain rfl : j = n := by omega
      obtain ⟨wA, rfl⟩ : ∃ wA : World, wA = wr := ⟨_, rfl⟩
      have HOA := Lib.hid (show Own wA w7.heap.size (.slice Ao j co) j (inc l) by have := HOj.out; rwa [inck_all l j (by rw [HLn.out]; exact Nat.le_refl _)] at this)
      have HN := Lib.hid (own_ne HPj.out HO8.out (Nat.le_refl _))
      have hzA := hbj.size
      go_wp2_with (at_builtin; refine wp_app_keep (w0 := w7) (ys := [9, 9, 9, 9, 9]) w7.heap.size (HOA.out.alloc _) (by exact Rd.lit wA [9, 9, 9, 9, 9] 5 rfl (by decide)) (hbj.alloc hzA _) (by simp; omega) (by omega) (by omega) _ _ rfl rfl rfl rfl ?_; intro vg wB hgB hOB hBB hGB; obtain ⟨Ag, cg, rfl⟩ := hgB.slice; have HOB := Lib.hid hOB; have HPB := Lib.hid ((HPj.out.alloc _).other hGB HN.out); clear hgB hOB hGB; go_wp2_with fail)
      have hzB := hBB.size
      have HX0B := Lib.hid (HX0.out.ext hBB)
      refine (sum_Seal _ _ _ l _ HX0B.out (by omega)).mono ?_
      rintro e wC ⟨vt, rfl, hT, hbC⟩
      rw [← HSE.out] at hT
      obtain ⟨At, ct, rfl⟩ := hT.slice
      have HTC := Lib.hid hT
      clear hT
      go_wp2_with fail
      go_loopw [17] (fun i wr => ∃ k : Nat, k ≤ j + 4 ∧ i = .int .i64 k ∧ Own wr wB.heap.size (.slice At (j + 4) ct) (j + 4) (inck sl k) ∧ Below wB.heap.size wB wr) (fun i _ => j + 4 - (intOf i).toNat)
      case atStart => exact ⟨0, by omega, rfl, by rw [inck_zero]; exact HTC.out, hbC⟩
      case round =>
        obtain ⟨k, hk, rfl, htk, hbk⟩ := hrel
        have HTk := Lib.hid htk
        clear htk
        by_cases hkn : k < j + 4
        · obtain ⟨g, cc, he, hg1, hg2⟩ := HTk.out.form (by omega)
          injection he with he1 he2 he3
          subst he1 he3
          have hcell := HTk.out.cell k hkn
          have hfree := HTk.out.free k
          rw [inck_get] at hcell
          have HV := inc_val (sl.getD k 0)
          have HS1 := Lib.hid (inck_step sl k (by rw [HSl.out]; exact hkn))
          have h8 := (sl.getD k 0).toNat_lt
          have HW := Lib.hid (HTk.out.store k (sl.getD k 0 + 1))
          generalize sl.getD k 0 = x at *
          generalize x + 1 = y at *
          go_wp2
          exact ⟨⟨k + 1, by omega, by go_num, by rw [← HS1.out]; exact HW.out, hbk.setCell (by show _ ≤ g; exact hg1) _⟩, by simp [intOf]; omega⟩
        · obtain rfl : k = j + 4 := by omega
          obtain ⟨wD, rfl⟩ : ∃ wD : World, wD = wr := ⟨_, rfl⟩
          have HTD := Lib.hid (show Own wD wB.heap.size (.slice At (j + 4) ct) (j + 4) (inc sl) by have := HTk.out; rwa [inck_all sl (j + 4) (by rw [HSl.out]; exact Nat.le_refl _)] at this)
          have hzD := hbk.size
          go_wp2_with (at_builtin; refine wp_app_keep (w0 := wB) (ys := [8]) wB.heap.size (HTD.out.alloc _) (by exact Rd.lit wD [8] 1 rfl (by decide)) (hbk.alloc hzD _) (by simp; omega) (by omega) (by omega) _ _ rfl rfl rfl rfl ?_; intro vh wE hhE hTE hBE hGE; obtain ⟨Ah, ch, rfl⟩ := hhE.slice; have HTE := Lib.hid hTE; clear hhE hTE hGE; go_wp2_with fail)
          have hzE := hBE.size
          have hb7E := hBB.trans (hBE.mono hzB)
          have HOE := Lib.hid (HOB.out.ext hBE)
          have HPE := Lib.hid (HPB.out.ext hBE)
          refine (sum_Seal _ _ _ l' _ (HY0.out.ext hb7E) (by omega)).mono ?_
          rintro e wF ⟨vv, rfl, hV, hbF⟩
          obtain ⟨Av, cv, rfl, hrv⟩ := hV.rd (by omega)
          obtain ⟨bv_, ov_, rfl, -⟩ := hrv.at_ (by omega)
          have HVF := Lib.hid hrv
          clear hV hrv
          go_wp2_with fail
          refine (sum_Open_long _ _ _ _ _ _ HVF.out m rfl).mono ?_
          rintro e wG (⟨vw, rfl, hw, -, hbG⟩ | ⟨rfl, hd, -⟩)
          rotate_left
          · exact absurd (by rw [← HLm.out]; simp) hd
          have hlm : (l' ++ le4 (crc 0#32 l')).take m = l' := by rw [← HLm.out]; simp
          rw [hlm] at hw
          obtain ⟨Aw, cw, rfl, hrw⟩ := hw.rd (by omega)
          have HWG := Lib.hid hrw
          clear hw hrw hlm
          have hbEG := hbF.trans (hbG.mono hbF.size)
          have hb7G := hb7E.trans (hbEG.mono hb7E.size)
          have hBG := hB7.trans (hb7G.mono hz7)
          have HOG := Lib.hid ((HOE.out.ext hbEG).rdA (by omega))
          have HPG := Lib.hid ((HPE.out.ext hbEG).rdA (by omega))
          have HTG := Lib.hid ((HTE.out.ext hbEG).rdA (by omega))
          have HLi := Lib.hid (show ∀ q, q < j → (inc l).getD q 0 = l.getD q 0 + 1 from fun q hq => inc_get l q (by rw [HLn.out]; exact hq))
          have HLs := Lib.hid (show ∀ q, q < j → (inc sl).getD q 0 = l.getD q 0 + 1 from fun q hq => by
            rw [inc_get sl q (by rw [HSl.out]; omega), HSE.out, List.getD_eq_getElem?_getD, List.getElem?_append_left (by rw [HLn.out]; exact hq), ← List.getD_eq_getElem?_getD])
          go_wp2_with fail
          go_loopw [22] (fun i wr => ∃ q : Nat, q ≤ j ∧ i = .int .i64 q ∧ Below wG.heap.size wG wr) (fun i _ => j - (intOf i).toNat)
          case atStart => exact ⟨0, by omega, rfl, Below.refl _ _⟩
          case round =>
            obtain ⟨q, hq, rfl, hbq⟩ := hrel
            obtain ⟨wq, rfl⟩ : ∃ wq : World, wq = wr := ⟨_, rfl⟩
            have hBq := hBG.trans (hbq.mono hBG.size)
            by_cases hqj : q < j
            · obtain ⟨b1, o1, rfl, hc1⟩ := (HOG.out.ext hbq).at_ (by omega)
              have k1 := hc1 q hqj
              rw [HLi.out q hqj] at k1
              obtain ⟨b2, o2, rfl, hc2⟩ := (HTG.out.ext hbq).at_ (by omega)
              have k2 := hc2 q (by omega)
              rw [HLs.out q hqj] at k2
              obtain ⟨b3, o3, rfl, hc3⟩ := (HR.out.ext hBq).at_ (by omega)
              have k3 := hc3 q hqj
              have HV := inc_val (l.getD q 0)
              have h8 := (l.getD q 0).toNat_lt
              clear hc1 hc2 hc3
              generalize l.getD q 0 = x at *
              generalize x + 1 = y at *
              have hq0 : (0 : Int) ≤ q ∧ (q : Int) < j ∧ (q : Int) < (j : Int) + 4 := by omega
              go_wp2_with fail
              go_quiet ((fail))
              go_wp2
              exact ⟨⟨q + 1, by omega, by go_num, below_drewN hbq _⟩, by simp [intOf]; omega⟩
            · obtain rfl : q = j := by omega
              have hb7q := hb7G.trans (hbq.mono hb7G.size)
              go_wp2_with fail
              refine (law_same_true _ _ _ _ _ _ l' _ (HWG.out.ext hbq) (HR'.out.ext hBq)).mono ?_
              rintro e w' ⟨rfl, rfl⟩
              go_wp2_with fail
              refine (law_marked _ _ _ _ _ sl _ (HZ.out.ext hb7q) (HS.out.ext hb7q)).mono ?_
              rintro e w' ⟨rfl, rfl⟩
              go_wp2_with fail
              refine (law_same_true _ _ _ _ _ _ l _ (HPG.out.ext hbq) (HR.out.ext hBq)).mono ?_
              rintro e w' ⟨rfl, rfl⟩
              go_wp2_with fail
              refine (law_marked _ _ _ _ _ l _ (HX.out.ext hb7q) (HR.out.ext hBq)).mono ?_
              rintro e w' ⟨rfl, rfl⟩
              go_wp2_with fail
              refine (sum_Seal _ _ _ l _ (HX0.out.ext hb7q) (by omega)).mono ?_
              rintro e wH ⟨vu, rfl, hu, hbH⟩
              rw [← HSE.out] at hu
              obtain ⟨Au, cu, rfl, hru⟩ := hu.rd (by omega)
              have HRU := Lib.hid hru
              clear hu hru
              go_wp2_with fail
              refine (law_same_true _ _ _ _ _ _ sl _ HRU.out ((HS.out.ext hb7q).ext hbH)).mono ?_
              rintro e w' ⟨rfl, rfl⟩
              go_wp2
              go_ret
              exact ⟨congrArg (fun b => Ending.returned (.bool b)) (show (((q : Int) + 4 + 1) == (q : Int) + 5) = true by rw [beq_iff_eq]; omega), hBq.trans (hbH.mono hBq.size)⟩
end Go.Proofs.Ytbcoplhfijgcfaa
