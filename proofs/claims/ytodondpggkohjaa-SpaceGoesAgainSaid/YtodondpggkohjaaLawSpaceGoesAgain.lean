/- The walk of SpaceGoesAgain. -/
import Derived.Test.YtodondpggkohjaaSpM3
import Derived.Test.YtodondpggkohjaaLawSpaceKeepsOld
import Derived.Deep.RegionLaw
import Derived.Deep.RegionWith
import Derived.Deep.DeepCutAuto
set_option linter.unusedVariables false
set_option linter.unusedSimpArgs false
namespace Go.Proofs.Ytodondpggkohjaa
open Go.RowKit
/-- a slot of the array that holds what a round told -/
def HasL (w : World) (D : List Nat) (v : Value) (L : List Int) : Prop := ∃ A q c, v = .slice A q c ∧ RdI D w A q c L
def InnerInv (w ws : World) (b g tb r : Nat) (ic : List Int) (l : List OpV) (n : Nat) (other x : Value) (wr : World) : Prop :=
  ∃ k : Nat, ∃ v, k ≤ n ∧ k ≤ 400 ∧ x = .int .i64 k ∧ Rnd w ws wr b g tb r k ic l v other
/-- ahead of round r -/
structure Outer (w wr : World) (b g tb r : Nat) (ic L : List Int) : Prop where
  sp : IsSp wr b g 2 ic
  below : Below w.heap.size w wr
  arr : ∃ v0 v1, Arr wr tb 0 v0 v1 ∧ (r = 0 → v0 = .slice none 0 0) ∧ (r ≤ 1 → v1 = .slice none 0 0) ∧ (1 ≤ r → HasL wr [b, g, tb] v0 L) ∧ (2 ≤ r → HasL wr [b, g, tb] v1 L)
theorem Outer.split {w wr : World} {b g tb r : Nat} {ic L : List Int} (h : Outer w wr b g tb r ic L) (hr : r < 2) :
    ∃ other, Arr wr tb r (.slice none 0 0) other ∧ (r = 0 → other = .slice none 0 0) ∧ (1 ≤ r → HasL wr [b, g, tb] other L) := by
  obtain ⟨v0, v1, ha, h0, h1, h2, h3⟩ := h.arr
  rcases (show r = 0 ∨ r = 1 by omega) with rfl | rfl
  · exact ⟨v1, by rw [h0 rfl] at ha; exact ha, fun _ => h1 (by omega), fun h => by omega⟩
  · exact ⟨v0, by rw [h1 (by omega)] at ha; exact ha.flip, fun h => by omega, fun _ => h2 (by omega)⟩
theorem Outer.next {w w10 : World} {b g tb r : Nat} {ic L : List Int} {v3 other : Value} (hr : r < 2) (hsp : IsSp w10 b g 2 ic) (hb : Below w.heap.size w w10) (ha : Arr w10 tb r v3 other) (h3 : HasL w10 [b, g, tb] v3 L)
    (h0 : r = 0 → other = .slice none 0 0) (h1 : 1 ≤ r → HasL w10 [b, g, tb] other L) : Outer w w10 b g tb (r + 1) ic L := by
  refine ⟨hsp, hb, ?_⟩
  rcases (show r = 0 ∨ r = 1 by omega) with rfl | rfl
  · exact ⟨v3, other, ha, fun h => by omega, fun _ => h0 rfl, fun _ => h3, fun h => by omega⟩
  · exact ⟨other, v3, ha, fun h => by omega, fun h => by omega, fun _ => h1 (by omega), fun _ => h3⟩
theorem HasL.only {w w' : World} {D : List Nat} {v : Value} {L : List Int} (h : HasL w D v L) (hw : Only D w w') : HasL w' D v L := by
  obtain ⟨A, q, c, e, hr⟩ := h
  exact ⟨A, q, c, e, hr.only hw (fun _ h => h)⟩
theorem Rnd.start {w ws : World} {b g tb r : Nat} {ic : List Int} (l : List OpV) {other : Value} (h : IsSp ws b g 2 ic) (ha : Arr ws tb r (.slice none 0 0) other) (hb : Below w.heap.size w ws) : Rnd w ws ws b g tb r 0 ic l (.slice none 0 0) other :=
  ⟨h, ha, OwnI.nil _ _, Only.refl _ _, hb⟩
set_option maxRecDepth 100000 in
set_option maxHeartbeats 4000000 in
theorem walk_SpaceGoesAgain (x : Int) (A : Option Addr) (n c : Nat) (l : List Bool) (A2 : Option Addr) (n2 c2 : Nat) (l2 : List OpV) (A3 : Option Addr) (n3 c3 : Nat) (l3 : List OpV) (w : World) (hx : -9223372036854775808 ≤ x ∧ x < 9223372036854775808) (hr : RdB w A n c l) (hr2 : RdO w A2 n2 c2 l2) (hr3 : RdO w A3 n3 c3 l3) :
    Calls Try.prog 7 #[.int .i64 x, .slice A n c, .slice A2 n2 c2, .slice A3 n3 c3] w fun e w' => e = .returned (.bool true) ∧ Below w.heap.size w w' := by
  have hmx := hr2.max
  have hmx3 := hr3.max
  have HR := Lib.hid hr
  have HS := Lib.hid hr2
  have HS3 := Lib.hid hr3
  clear hr hr2 hr3
  go_enter Try.func7, Try.ntmps7
  go_wp2_with fail
  refine (l8_open x hx A n c l w HR.out).mono ?_
  rintro e w1 ⟨b, g, m, is0, rfl, hI0, hlen0, hm1, hm64, hv0, hb, hg, hB1⟩
  have HI0 := Lib.hid hI0
  have HL0 := Lib.hid hlen0
  have HV0 := Lib.hid (show StOk is0 from fun x hx => by have := hv0 x hx; omega)
  clear hI0 hlen0 hv0
  have hb0 : (0 : Int) ≤ m ∧ (m : Int) ≤ 64 ∧ (0 : Int) ≤ 2 + (m : Int) := by omega
  go_wp2_with fail
  refine (l8_fixed w1).mono ?_
  rintro e w2 ⟨bf, rfl, hB2⟩
  have HI2 := Lib.hid (HI0.out.ext hB2)
  have HB2 := Lib.hid (hB1.trans (hB2.mono hB1.size))
  clear hB1 hB2
  have HS0 : ∀ k ∈ [b, g], w.heap.size ≤ k := by intro k hk; simp at hk; omega
  have HSK := Lib.hid HS0
  clear HS0 hb hg
  go_wp2_with fail
  go_loopw [11] (fun x wr => ∃ k : Nat, k ≤ n2 ∧ x = .int .i64 k ∧ PlayInv w wr b g m) (fun x _ => n2 - (intOf x).toNat)
  case atStart => exact ⟨0, by omega, rfl, is0, HI2.out, HL0.out, HV0.out, HB2.out⟩
  case round =>
    obtain ⟨k, hk, rfl, is, hI, hlen, hok, hB⟩ := hrel
    have HI := Lib.hid hI
    have HL := Lib.hid hlen
    have HOK := Lib.hid hok
    clear hI hlen hok
    by_cases hgo : k < n2 ∧ k < 400
    · obtain ⟨hg1, hg2⟩ := hgo
      have d400 : decide ((k : Int) < 400) = true := decide_eq_true (by omega)
      obtain ⟨o, ho9⟩ : ∃ o, o = l2.getD k default := ⟨_, rfl⟩
      obtain ⟨b2, o2, rfl, hoo, hca, hck, hcb⟩ := HS.out.cells hB k hg1 o ho9
      clear ho9
      have HOO := Lib.hid hoo
      clear hoo
      go_wp2_with fail
      refine (l8_play b g 2 is o HOO.out _ HI.out).mono ?_
      rintro e w7 ⟨rfl, hi, ho⟩
      have H7 := Lib.hid hi
      have HB7 := Lib.hid (hB.trans (ho.below hB.size HSK.out))
      clear hi ho
      go_wp2
      exact ⟨⟨k + 1, by omega, by go_num, _, H7.out, by rw [playS_length]; exact HL.out, HOK.out.play _ _, HB7.out⟩, by simp [intOf]; omega⟩
    · have HBr := Lib.hid hB
      clear hB
      have hdd : ¬ k < n2 ∨ (k < n2 ∧ decide ((k : Int) < 400) = false) := by
        by_cases h : k < n2
        · exact .inr ⟨h, decide_eq_false (by omega)⟩
        · exact .inl h
      clear hgo
      rcases hdd with d1 | ⟨d1, d2⟩
      all_goals (
        go_wp2_with fail
        refine (sp_Commit b g 2 is _ HI.out).mono ?_
        rintro e w3 ⟨rfl, hi, ho⟩
        have HC := Lib.hid (StC.commit HOK.out)
        have HLC := Lib.hid (show (commitS is).length = m by rw [commitS_length]; exact HL.out)
        have H3 := Lib.hid hi
        have HB3 := Lib.hid (HBr.out.trans (ho.below HBr.out.size HSK.out))
        clear hi ho
        generalize commitS is = ic at *
        obtain ⟨tb, htb⟩ : ∃ tb, tb = w3.heap.size := ⟨_, rfl⟩
        have HTB := Lib.hid htb
        clear htb
        obtain ⟨K, hK⟩ : ∃ K, K = min n3 400 := ⟨_, rfl⟩
        have HK := Lib.hid hK
        clear hK
        go_wp2_with fail
        go_loopw [13, 14, 15, 16, 17] (fun x _ _ _ _ wr => ∃ r : Nat, r ≤ 2 ∧ x = .int .i64 r ∧ Outer w wr b g w3.heap.size r ic (toldAll ic l3 K)) (fun x _ _ _ _ _ => 2 - (intOf x).toNat)
        case atStart =>
          refine ⟨0, by omega, rfl, H3.out.only (Only.alloc (Only.refl [] _) _) (by simp) (by simp), HB3.out.alloc HB3.out.size _, _, _, ?_, fun _ => rfl, fun _ => rfl, fun h => by omega, fun h => by omega⟩
          exact heap_alloc_new _ _
        case round =>
          obtain ⟨r, hr, rfl, hOu⟩ := hrel
          have HOu := Lib.hid hOu
          clear hOu
          have HLT := Lib.hid (show b < w3.heap.size ∧ g < w3.heap.size ∧ w.heap.size ≤ w3.heap.size from ⟨lt_of_block H3.out.st, lt_of_block H3.out.arr, HB3.out.size⟩)
          by_cases hr2 : r < 2
          · obtain ⟨other, hA0, hO0, hO1⟩ := HOu.out.split hr2
            have HA0 := Lib.hid hA0
            have HO0 := Lib.hid hO0
            have HO1 := Lib.hid hO1
            clear hA0 hO0 hO1
            have dr2 : decide ((r : Int) < 2) = true := decide_eq_true (by omega)
            obtain ⟨ws, hws⟩ : ∃ ws : World, ws = wr := ⟨_, rfl⟩
            rw [← hws] at HOu HA0 HO1
            have HTS := Lib.hid (show w3.heap.size < ws.heap.size from HA0.out.lt)
            have HLS := Lib.hid (show Lts w ws b g w3.heap.size from ⟨HLT.out.1, HLT.out.2.1, HA0.out.lt, HSK.out b (by simp), HSK.out g (by simp), by have := HLT.out; have := HTS.out; omega⟩)
            go_wp2_with fail
            go_loopw [14, 15, 16, 17] (fun x _ _ _ wq => InnerInv w ws b g w3.heap.size r ic l3 n3 other x wq) (fun x _ _ _ _ => n3 - (intOf x).toNat)
            case atStart => exact ⟨0, _, by omega, by omega, rfl, by rw [← hws]; exact Rnd.start l3 HOu.out.sp HA0.out HOu.out.below⟩
            case round =>
              clear hws
              obtain ⟨k2, v, hk2, hk4, rfl, hR⟩ := hrel
              have HR2 := Lib.hid hR
              have hBz : ws.heap.size ≤ wr.heap.size := hR.only.size
              clear hR
              have HNL := Lib.hid (tells_len ic l3 k2)
              by_cases hgo : k2 < n3 ∧ k2 < 400
              · obtain ⟨hg1, hg2⟩ := hgo
                have d4 : decide ((k2 : Int) < 400) = true := decide_eq_true (by omega)
                obtain ⟨o, ho9⟩ : ∃ o, o = l3.getD k2 default := ⟨_, rfl⟩
                obtain ⟨b9, o9, rfl, hoo, hca, hck, hcb⟩ := HS3.out.cells HR2.out.below k2 hg1 o ho9
                have HO9 := Lib.hid ho9
                have HOO := Lib.hid hoo
                have HTL := Lib.hid (show tells ic l3 (k2 + 1) = tellStep (tells ic l3 k2) o by rw [ho9]; rfl)
                clear ho9 hoo hca
                obtain ⟨ij, hij⟩ : ∃ ij, ij = (tells ic l3 k2).1 := ⟨_, rfl⟩
                obtain ⟨Lj, hLj⟩ : ∃ Lj, Lj = (tells ic l3 k2).2 := ⟨_, rfl⟩
                have HIJ := Lib.hid hij
                have HLJ := Lib.hid hLj
                have HTB2 := Lib.hid (show (⟨ij, Lj⟩ : List Int × List Int) = tells ic l3 k2 by rw [hij, hLj])
                have HIj := Lib.hid (show IsSp wr b g 2 ij by rw [hij]; exact HR2.out.sp)
                have HOj := Lib.hid (show OwnI wr ws.heap.size v Lj.length Lj by rw [hLj]; exact HR2.out.own)
                have hqL : Lj.length ≤ 800 := by rw [hLj]; have := HNL.out; omega
                clear hij hLj
                by_cases hk1 : o.kind = 1
                · have HTL1 := Lib.hid (show tells ic l3 (k2 + 1) = (takeS ij, Lj ++ [takeB 2 ij, takeE ij]) by rw [HTL.out, ← HTB2.out, tellStep, if_pos hk1])
                  have q1 : (o.kind == 1) = true := by simpa using hk1
                  clear hk1 hcb
                  obtain ⟨tb, htb⟩ : ∃ tb, tb = takeB 2 ij := ⟨_, rfl⟩
                  obtain ⟨te, hte⟩ : ∃ te, te = takeE ij := ⟨_, rfl⟩
                  rw [← htb, ← hte] at HTL1
                  have HTB := Lib.hid htb
                  have HTE := Lib.hid hte
                  clear htb hte
                  go_wp2_with fail
                  refine (sp_Take b g 2 ij _ HIj.out).mono ?_
                  rintro e w8 ⟨rfl, hi, ho⟩
                  rw [← HTB.out, ← HTE.out]
                  have H8 := Lib.hid hi
                  have HB8 := Lib.hid (HR2.out.below.trans (ho.below HR2.out.below.size HSK.out))
                  have HA8 := Lib.hid (HR2.out.arr.only ho (by simp; have := HLT.out; omega))
                  have HO8 := Lib.hid (HOj.out.only ho (by simp; have := HLT.out; have := HTS.out; omega))
                  have HN8 := Lib.hid (HR2.out.only.trans (ho.mono (by simp)))
                  have hz8 := HN8.out.size
                  clear hi ho
                  have hcl := HA8.out.cell hr2
                  go_wp2_with (at_builtin; refine wp_appI (D := []) (w0 := w8.alloc (.cells #[.int .i64 tb, .int .i64 te] 3)) ws.heap.size (HO8.out.alloc _) (RdI.lit [] w8 [tb, te] 2 rfl (by omega) (by simp)) (Below.refl _ _) (by simp; omega) (by omega) _ _ rfl rfl rfl rfl ?_; intro v1 w9 hO9 hB9; obtain ⟨A1, c1, rfl⟩ := hO9.slice; have HO9 := Lib.hid hO9; have HB9 := Lib.hid hB9; have hfz := (((HA8.out.only (Only.alloc (Only.refl [] w8) (.cells #[.int .i64 tb, .int .i64 te] 3)) (by simp))).below hB9 HTS.out).free r; have hc9 := (((HA8.out.only (Only.alloc (Only.refl [] w8) (.cells #[.int .i64 tb, .int .i64 te] 3)) (by simp))).below hB9 HTS.out).cell hr2; clear hO9 hB9)
                  exact ⟨⟨k2 + 1, _, by omega, by omega, by go_num, Rnd.stored HLS.out HOu.out.below hr2 (H8.out.only (Only.alloc (Only.refl [] w8) _) (by simp) (by simp)) (HA8.out.only (Only.alloc (Only.refl [] w8) _) (by simp)) (HN8.out.alloc _) HB9.out HO9.out HTL1.out⟩, by simp [intOf]; omega⟩
                by_cases hk2 : o.kind = 2
                · have HTL1 := Lib.hid (show tells ic l3 (k2 + 1) = (giveS 2 ij o.blk, Lj ++ [giveE 2 ij o.blk]) by rw [HTL.out, ← HTB2.out, tellStep, if_neg hk1, if_pos hk2])
                  have q1 : (o.kind == 1) = false := by simpa using hk1
                  have q2 : (o.kind == 2) = true := by simpa using hk2
                  clear hk1 hk2
                  obtain ⟨te, hte⟩ : ∃ te, te = giveE 2 ij o.blk := ⟨_, rfl⟩
                  rw [← hte] at HTL1
                  have HTE := Lib.hid hte
                  clear hte
                  go_wp2_with fail
                  refine (sp_Give b g 2 ij o.blk _ HIj.out HOO.out).mono ?_
                  rintro e w8 ⟨rfl, hi, ho⟩
                  rw [← HTE.out]
                  have H8 := Lib.hid hi
                  have HB8 := Lib.hid (HR2.out.below.trans (ho.below HR2.out.below.size HSK.out))
                  have HA8 := Lib.hid (HR2.out.arr.only ho (by simp; have := HLT.out; omega))
                  have HO8 := Lib.hid (HOj.out.only ho (by simp; have := HLT.out; have := HTS.out; omega))
                  have HN8 := Lib.hid (HR2.out.only.trans (ho.mono (by simp)))
                  have hz8 := HN8.out.size
                  clear hi ho
                  have hcl := HA8.out.cell hr2
                  go_wp2_with (at_builtin; refine wp_appI (D := []) (w0 := w8.alloc (.cells #[.int .i64 te] 3)) ws.heap.size (HO8.out.alloc _) (RdI.lit [] w8 [te] 1 rfl (by omega) (by simp)) (Below.refl _ _) (by simp; omega) (by omega) _ _ rfl rfl rfl rfl ?_; intro v1 w9 hO9 hB9; obtain ⟨A1, c1, rfl⟩ := hO9.slice; have HO9 := Lib.hid hO9; have HB9 := Lib.hid hB9; have hfz := (((HA8.out.only (Only.alloc (Only.refl [] w8) (.cells #[.int .i64 te] 3)) (by simp))).below hB9 HTS.out).free r; have hc9 := (((HA8.out.only (Only.alloc (Only.refl [] w8) (.cells #[.int .i64 te] 3)) (by simp))).below hB9 HTS.out).cell hr2; clear hO9 hB9)
                  exact ⟨⟨k2 + 1, _, by omega, by omega, by go_num, Rnd.stored HLS.out HOu.out.below hr2 (H8.out.only (Only.alloc (Only.refl [] w8) _) (by simp) (by simp)) (HA8.out.only (Only.alloc (Only.refl [] w8) _) (by simp)) (HN8.out.alloc _) HB9.out HO9.out HTL1.out⟩, by simp [intOf]; omega⟩
                · have HTL1 := Lib.hid (show tells ic l3 (k2 + 1) = (ij, Lj) by rw [HTL.out, ← HTB2.out, tellStep, if_neg hk1, if_neg hk2])
                  have q1 : (o.kind == 1) = false := by simpa using hk1
                  have q2 : (o.kind == 2) = false := by simpa using hk2
                  clear hk1 hk2
                  go_wp2
                  exact ⟨⟨k2 + 1, _, by omega, by omega, by go_num, Rnd.same HLS.out HOu.out.below HIj.out HR2.out.arr HR2.out.only HOj.out HTL1.out⟩, by simp [intOf]; omega⟩
              · have HKK := Lib.hid (show k2 = K by rw [HK.out]; omega)
                have hee : ¬ k2 < n3 ∨ (k2 < n3 ∧ decide ((k2 : Int) < 400) = false) := by
                  by_cases h : k2 < n3
                  · exact .inr ⟨h, decide_eq_false (by omega)⟩
                  · exact .inl h
                clear hgo
                obtain ⟨ij, hij⟩ : ∃ ij, ij = (tells ic l3 k2).1 := ⟨_, rfl⟩
                obtain ⟨Lj, hLj⟩ : ∃ Lj, Lj = (tells ic l3 k2).2 := ⟨_, rfl⟩
                have HIj := Lib.hid (show IsSp wr b g 2 ij by rw [hij]; exact HR2.out.sp)
                have HOj := Lib.hid (show OwnI wr ws.heap.size v Lj.length Lj by rw [hLj]; exact HR2.out.own)
                have hqL : Lj.length ≤ 800 := by rw [hLj]; have := HNL.out; omega
                have HSi := Lib.hid (show Since ic ij by rw [hij]; exact tells_since HC.out l3 k2)
                have HAll := Lib.hid (show toldAll ic l3 K = Lj ++ [((ij.count 0 : Nat) : Int)] ++ sel pT 2 ij ij.length ++ sel pH 2 ij ij.length by rw [hij, hLj, HKK.out]; rfl)
                clear hij hLj
                have hcl := HR2.out.arr.cell hr2
                have hfz := HR2.out.arr.free r
                obtain ⟨f, hf⟩ : ∃ f, f = ij.count 0 := ⟨_, rfl⟩
                have HF := Lib.hid hf
                clear hf
                rcases hee with e1 | ⟨e1, e2⟩
                all_goals (
                  have hri : (r : Int) < 2 := by omega
                  have HA1 := Lib.hid (HR2.out.arr.only (((Only.refl [] wr).drew).alloc (.cells #[.int .i64 (f : Int)] 3)) (by simp))
                  have hcl1 := (HR2.out.arr.only ((Only.refl [] wr).alloc (.cells #[.int .i64 (f : Int)] 3)) (by simp)).cell hr2
                  have HI1 := Lib.hid (HIj.out.only ((Only.refl [] wr).drew) (by simp) (by simp))
                  have HO1' := Lib.hid (show OwnI wr.drew ws.heap.size v Lj.length Lj from HOj.out)
                  go_upto_region 23 with fail
                  go_cut [100] (fun _ wx => ∃ v', Tl w ws wx b g w3.heap.size r ij (Lj ++ [(f : Int)]) v' other)
                  case first =>
                    go_region_law (first | (refine step_appI (D := []) (w0 := wr.drew.alloc (.cells #[.int .i64 (f : Int)] 3)) ws.heap.size (by exact HO1'.out.alloc _) (by exact RdI.lit [] wr.drew [(f : Int)] 1 rfl (by omega) (by simp)) (by exact Below.refl _ _) (by simp; omega) (by omega) _ _ rfl rfl rfl rfl ?_; intro v1 w9 hO9 hB9 hG9 hat9; clear hG9 hat9; obtain ⟨A1, c1, rfl⟩ := hO9.slice; have HO9 := Lib.hid hO9; have HB9 := Lib.hid hB9; have hfz9 := (HA1.out.below hB9 HTS.out).free r; have hc9 := (HA1.out.below hB9 HTS.out).cell hr2; clear hO9 hB9) | (go_simp; go_at_call 17; refine (sp_Free b g 2 ij _ (by exact HI1.out)).mono ?_; rintro e w5 ⟨rfl, rfl⟩; rw [← HF.out]))
                    all_goals (go_wp2_with fail; go_meet; exact ⟨_, Tl.stored HLS.out HOu.out.below hr2 (HIj.out.only (((Only.refl [] wr).drew).alloc _) (by simp) (by simp)) HA1.out ((HR2.out.only.drew).alloc _) HB9.out HO9.out⟩)
                  case rest =>
                    obtain ⟨v', hT⟩ := hcut
                    obtain ⟨T, hTd⟩ : ∃ T, T = sel pT 2 ij ij.length := ⟨_, rfl⟩
                    obtain ⟨H, hHd⟩ : ∃ H, H = sel pH 2 ij ij.length := ⟨_, rfl⟩
                    obtain ⟨q, hq⟩ : ∃ q, q = T.length := ⟨_, rfl⟩
                    obtain ⟨rr, hrr⟩ : ∃ rr, rr = H.length := ⟨_, rfl⟩
                    have hq64 : q ≤ 64 ∧ rr ≤ 64 := by
                      have h1 := sel_length pT 2 ij ij.length
                      have h2 := sel_length pH 2 ij ij.length
                      have h3 := HSi.out.len
                      have h4 := HLC.out
                      rw [← hTd, ← hq] at h1
                      rw [← hHd, ← hrr] at h2
                      omega
                    have HT := Lib.hid hTd
                    have HH := Lib.hid hHd
                    have Hq := Lib.hid hq
                    have Hrr := Lib.hid hrr
                    rw [← hTd, ← hHd, ← HF.out] at HAll
                    have hq65 : T.length ≤ 64 ∧ H.length ≤ 64 := by omega
                    clear hTd hHd hq hrr
                    obtain ⟨L1, hL1⟩ : ∃ L1, L1 = Lj ++ [(f : Int)] := ⟨_, rfl⟩
                    rw [← hL1] at hT
                    have hl1 : L1.length ≤ 801 := by rw [hL1]; simp; omega
                    have HL1 := Lib.hid hL1
                    clear hL1
                    have HIc := Lib.hid (hT.sp.only ((Only.refl [] wc).drew) (by simp) (by simp))
                    have HAc := Lib.hid (hT.arr.only ((Only.refl [] wc).drew) (by simp))
                    have HOc := Lib.hid (show OwnI wc.drew ws.heap.size v' L1.length L1 from hT.own)
                    have HNc := Lib.hid (hT.only.drew)
                    have hclc := hT.arr.cell hr2
                    have hll : L1.length ≤ 1000 := by omega
                    clear hT
                    go_upto_region 24 with fail
                    go_cut [109] (fun _ wx => ∃ v', Tl w ws wx b g w3.heap.size r ij (L1 ++ T) v' other)
                    case first =>
                      go_region_law (first | (refine step_appI (D := []) (w0 := w5) ws.heap.size (by exact HO5.out) (by exact HR5.out) (by exact Below.refl _ _) (by exact hz5) (by omega) _ _ rfl rfl rfl rfl ?_; intro v1 w9 hO9 hB9 hG9 hat9; clear hG9 hat9; obtain ⟨A1, c1, rfl⟩ := hO9.slice; have HO9 := Lib.hid hO9; have HB9 := Lib.hid hB9; have hfz9 := (HA5.out.below hB9 HTS.out).free r; have hc9 := (HA5.out.below hB9 HTS.out).cell hr2; clear hO9 hB9) | (go_simp; go_at_call 10; refine (sp_Taken b g 2 ij _ (by exact HIc.out)).mono ?_; rintro e w5 ⟨v5, rfl, hO5, hB5⟩; rw [← HT.out, ← Hq.out] at hO5; obtain ⟨A5, c5, rfl, hR5⟩ := hO5.rd [] (by omega) (by simp); have HR5 := Lib.hid hR5; have HO5 := Lib.hid (HOc.out.ext hB5); have HA5 := Lib.hid (HAc.out.only (Only.of_below [] hB5) (by simp)); have hcl5 := HA5.out.cell hr2; have HN5 := Lib.hid (HNc.out.trans (Only.of_below _ hB5)); have HI5 := Lib.hid (HIc.out.ext hB5); have hz5 := HN5.out.size; clear hO5 hR5 hB5))
                      all_goals (go_wp2_with fail; go_meet; exact ⟨_, Tl.stored HLS.out HOu.out.below hr2 HI5.out HA5.out HN5.out HB9.out HO9.out⟩)
                    case rest =>
                      clear hclc hll
                      obtain ⟨v2, hT⟩ := hcut
                      obtain ⟨L2, hL2⟩ : ∃ L2, L2 = L1 ++ T := ⟨_, rfl⟩
                      rw [← hL2] at hT
                      have hl2 : L2.length ≤ 865 := by rw [hL2]; simp; omega
                      have HL2 := Lib.hid hL2
                      clear hL2
                      have HIc := Lib.hid (hT.sp.only ((Only.refl [] wc).drew) (by simp) (by simp))
                      have HAc := Lib.hid (hT.arr.only ((Only.refl [] wc).drew) (by simp))
                      have HOc := Lib.hid (show OwnI wc.drew ws.heap.size v2 L2.length L2 from hT.own)
                      have HNc := Lib.hid (hT.only.drew)
                      have hclc := hT.arr.cell hr2
                      have hll : L2.length ≤ 1000 := by omega
                      clear hT
                      go_upto_region 25 with fail
                      go_cut [117] (fun _ wx => ∃ v', Tl w ws wx b g w3.heap.size r ij (L2 ++ H) v' other)
                      case first =>
                        go_region_law (first | (refine step_appI (D := []) (w0 := w5) ws.heap.size (by exact HO5.out) (by exact HR5.out) (by exact Below.refl _ _) (by exact hz5) (by omega) _ _ rfl rfl rfl rfl ?_; intro v1 w9 hO9 hB9 hG9 hat9; clear hG9 hat9; obtain ⟨A1, c1, rfl⟩ := hO9.slice; have HO9 := Lib.hid hO9; have HB9 := Lib.hid hB9; have hfz9 := (HA5.out.below hB9 HTS.out).free r; have hc9 := (HA5.out.below hB9 HTS.out).cell hr2; clear hO9 hB9) | (go_simp; go_at_call 14; refine (sp_Held b g 2 ij _ (by exact HIc.out)).mono ?_; rintro e w5 ⟨v5, rfl, hO5, hB5⟩; rw [← HH.out, ← Hrr.out] at hO5; obtain ⟨A5, c5, rfl, hR5⟩ := hO5.rd [] (by omega) (by simp); have HR5 := Lib.hid hR5; have HO5 := Lib.hid (HOc.out.ext hB5); have HA5 := Lib.hid (HAc.out.only (Only.of_below [] hB5) (by simp)); have hcl5 := HA5.out.cell hr2; have HN5 := Lib.hid (HNc.out.trans (Only.of_below _ hB5)); have HI5 := Lib.hid (HIc.out.ext hB5); have hz5 := HN5.out.size; clear hO5 hR5 hB5))
                        all_goals (go_wp2_with fail; go_meet; exact ⟨_, Tl.stored HLS.out HOu.out.below hr2 HI5.out HA5.out HN5.out HB9.out HO9.out⟩)
                      case rest =>
                        clear hclc hll
                        obtain ⟨v3, hT⟩ := hcut
                        have HT3 := Lib.hid hT
                        clear hT
                        go_wp2_with fail
                        refine (sp_Back b g 2 ij _ HT3.out.sp).mono ?_
                        rintro e w10 ⟨rfl, hi, ho⟩
                        rw [HSi.out.back] at hi
                        have HLL := Lib.hid (show L2 ++ H = toldAll ic l3 K by rw [HAll.out, HL2.out, HL1.out])
                        have hO10 : Only [b, g, w3.heap.size] ws w10 := HT3.out.only.trans (ho.mono (by simp))
                        have hHas : HasL w10 [b, g, w3.heap.size] v3 (toldAll ic l3 K) := by
                          have h1 := HT3.out.own.only ho (by intro k hk; exact HLS.out.lt k (by simp at hk ⊢; omega))
                          obtain ⟨A7, c7, e7, h7⟩ := h1.rd [b, g, w3.heap.size] (by rw [List.length_append]; omega) HLS.out.lt
                          rw [HLL.out] at h7 e7
                          exact ⟨A7, _, c7, e7, h7⟩
                        have HNX := Lib.hid (Outer.next hr2 hi (HT3.out.below.trans (ho.below HT3.out.below.size HSK.out)) (HT3.out.arr.only ho (by simp; have := HLT.out; omega)) hHas HO0.out (fun h => (HO1.out h).only hO10))
                        clear hi ho hO10 hHas
                        go_wp2
                        exact ⟨⟨r + 1, by omega, by go_num, HNX.out⟩, by simp [intOf]; omega⟩)
          · obtain rfl : r = 2 := by omega
            obtain ⟨v0, v1, hA, _, _, h0, h1⟩ := HOu.out.arr
            obtain ⟨A0, q0, c0, rfl, hR0⟩ := h0 (by omega)
            obtain ⟨A1, q1, c1, rfl, hR1⟩ := h1 (by omega)
            have hl0 := hA.cell (by omega)
            have hl1 := (hA.flip).cell (by omega)
            have HR0 := Lib.hid hR0
            have HR1 := Lib.hid hR1
            have HBE := Lib.hid HOu.out.below
            clear hA h0 h1 hR0 hR1
            go_wp2_with fail
            refine (l8_sameInts _ HR0.out HR1.out).mono ?_
            rintro e w10 ⟨rfl, hO⟩
            rw [decide_eq_true rfl]
            have HB10 := Lib.hid (HBE.out.trans (hO.below HBE.out.size (by simp)))
            clear hO
            go_wp2
            go_ret
            exact ⟨rfl, HB10.out⟩)
end Go.Proofs.Ytodondpggkohjaa
