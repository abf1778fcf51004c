/- The walk of the law PageCodes. -/
import Derived.Test.YtlandlgjhnnaiaaPg25
import Derived.Test.YtlandlgjhnnaiaaPgN3
set_option linter.unusedVariables false
set_option linter.unusedSimpArgs false
set_option maxRecDepth 100000
namespace Go.Proofs.Ytlandlgjhnnaiaa
open Go.RowKit SumMath
theorem mk_B (n : Nd) (h : NdB n) : (mkN n).ents.length ≤ 6500000000000 ∧ (mkN n).chs.length ≤ 140737488355328 ∧ (mkN n).keys.length ≤ 13000000000000 ∧ (mkN n).kids.length ≤ 140737488355328 := by
  unfold NdB at h
  simp only [mkN, List.length_append, List.length_cons, List.length_nil]
  omega
set_option maxHeartbeats 2000000 in
theorem walk_PageCodes (n : Nd) (vE vC vK vD : Value) (w : World) (hN : NdR w n vE vC vK vD) (hnb : NdB n) :
    Calls Try.prog 3 #[.agg (ndC n vE vC vK vD)] w fun e w' => e = .returned (.bool true) ∧ Below w.heap.size w w' := by
  have HNR := Lib.hid hN
  have HNB := Lib.hid hnb
  obtain ⟨⟨A1, c1, rfl, h1⟩, ⟨A2, c2, rfl, h2⟩, ⟨A3, c3, rfl, h3⟩, ⟨A4, c4, rfl, h4⟩⟩ := hN
  clear h1 h2 h3 h4 hnb
  obtain ⟨p, hp⟩ : ∃ p, p = w.heap.size := ⟨_, rfl⟩
  obtain ⟨W0, hW0⟩ : ∃ V, V = w.alloc (.cells (ndC n (.slice A1 n.ents.length c1) (.slice A2 n.chs.length c2) (.slice A3 n.keys.length c3) (.slice A4 n.kids.length c4)) 26) := ⟨_, rfl⟩
  have HS0 := Lib.hid (show Rw w W0 ((p, .cells (ndC n (.slice A1 n.ents.length c1) (.slice A2 n.chs.length c2) (.slice A3 n.keys.length c3) (.slice A4 n.kids.length c4)) 26 (0, 0)) :: []) by rw [hW0, hp]; exact (Rw.start w).made _)
  unfold ndC at hW0 ⊢
  go_enter Try.func3, Try.ntmps3
  go_wp2_with fail
  rw [← hW0, ← hp]
  clear hW0 hp
  refine (l9_fixed W0).mono ?_
  rintro e W1 ⟨rfl, hb⟩
  have HS1 := Lib.hid (HS0.out.below hb)
  clear hb
  have HC1 := Lib.hid (l9_marked n _ _ _ _ W1 (HNR.out.ext HS1.out.bl) HNB.out)
  unfold ndC at HC1
  have c7 := cell7 (n := n) (HS1.out.get 0 rfl)
  go_wp2_with fail
  clear c7
  refine HC1.out.mono ?_
  rintro e W2 ⟨AE, cE, AC, cC, AK, cK, AD, cD, rfl, hO, hb⟩
  have HS2 := Lib.hid (HS1.out.below hb)
  have HM2 := Lib.hid (hO.rd (mk_B n HNB.out).1 (mk_B n HNB.out).2.1 (mk_B n HNB.out).2.2.1 (mk_B n HNB.out).2.2.2)
  have HM2 : Hid (NdR W2 (mkN n) (.slice AE (n.ents.length + 2) cE) (.slice AC (n.chs.length + 2) cC) (.slice AK (n.keys.length + 2) cK) (.slice AD (n.kids.length + 2) cD)) := HM2
  clear hO hb HC1
  obtain ⟨a, ha⟩ : ∃ a, a = W2.heap.size := ⟨_, rfl⟩
  obtain ⟨W3, hW3⟩ : ∃ V, V = W2.alloc (.cells (ndC (mkN n) (.slice AE (n.ents.length + 2) cE) (.slice AC (n.chs.length + 2) cC) (.slice AK (n.keys.length + 2) cK) (.slice AD (n.kids.length + 2) cD)) 26) := ⟨_, rfl⟩
  have HS3 := Lib.hid (show Rw w W3 ((a, .cells (ndC (mkN n) (.slice AE (n.ents.length + 2) cE) (.slice AC (n.chs.length + 2) cC) (.slice AK (n.keys.length + 2) cK) (.slice AD (n.kids.length + 2) cD)) 26 (0, 0)) :: (p, .cells (ndC n (.slice A1 n.ents.length c1) (.slice A2 n.chs.length c2) (.slice A3 n.keys.length c3) (.slice A4 n.kids.length c4)) 26 (0, 0)) :: []) by rw [hW3, ha]; exact HS2.out.made _)
  have HM3 := Lib.hid (HM2.out.ext (show Below W2.heap.size W2 W3 by rw [hW3]; exact (Below.refl _ _).alloc (Nat.le_refl _) _))
  unfold ndC at hW3
  go_upto_region 5 with fail
  rw [← hW3, ← ha]
  clear hW3 ha
  have HC3 := Lib.hid (l9_cut n AE AC AK AD cE cC cK cD W3 HM3.out HNB.out)
  unfold ndC at HC3
  have c7 := cell7 (n := mkN n) (HS3.out.get 0 rfl)
  go_wp2_with fail
  clear c7
  refine HC3.out.mono ?_
  rintro e W4 ⟨rfl, hb⟩
  have HS4 := Lib.hid (HS3.out.below hb)
  have HM4 := Lib.hid (HM3.out.ext hb)
  clear hb HC3
  obtain ⟨i, hi⟩ : ∃ i, i = W4.heap.size := ⟨_, rfl⟩
  obtain ⟨W5, hW5⟩ : ∃ V, V = W4.alloc (.cells (ndC n (.slice AE n.ents.length cE) (.slice AC n.chs.length cC) (.slice AK n.keys.length cK) (.slice AD n.kids.length cD)) 26) := ⟨_, rfl⟩
  have HS5 := Lib.hid (show Rw w W5 ((i, .cells (ndC n (.slice AE n.ents.length cE) (.slice AC n.chs.length cC) (.slice AK n.keys.length cK) (.slice AD n.kids.length cD)) 26 (0, 0)) :: (a, .cells (ndC (mkN n) (.slice AE (n.ents.length + 2) cE) (.slice AC (n.chs.length + 2) cC) (.slice AK (n.keys.length + 2) cK) (.slice AD (n.kids.length + 2) cD)) 26 (0, 0)) :: (p, .cells (ndC n (.slice A1 n.ents.length c1) (.slice A2 n.chs.length c2) (.slice A3 n.keys.length c3) (.slice A4 n.kids.length c4)) 26 (0, 0)) :: []) by rw [hW5, hi]; exact HS4.out.made _)
  have HM5 := Lib.hid (HM4.out.ext (show Below W4.heap.size W4 W5 by rw [hW5]; exact (Below.refl _ _).alloc (Nat.le_refl _) _))
  unfold ndC at hW5
  go_upto_region 6 with fail
  rw [← hW5, ← hi]
  clear hW5 hi
  have HC5 := Lib.hid (l9_copiedQ n _ _ _ _ W5 (HNR.out.ext HS5.out.bl) HNB.out)
  unfold ndC at HC5
  have c7 := cell7 (n := n) (HS5.out.get 2 rfl)
  go_wp2_with fail
  clear c7
  refine HC5.out.mono ?_
  rintro e W6 ⟨BE, dE, BC, dC, BK, dK, BD, dD, rfl, hQ⟩
  have HS6 := Lib.hid (HS5.out.below hQ.own.2)
  have HM6 := Lib.hid (HM5.out.ext hQ.own.2)
  have HK6 := Lib.hid (hQ.own.1.rdBC HNB.out)
  clear hQ HC5
  obtain ⟨k, hk⟩ : ∃ k, k = W6.heap.size := ⟨_, rfl⟩
  obtain ⟨W7, hW7⟩ : ∃ V, V = W6.alloc (.cells (ndC n (.slice BE n.ents.length dE) (.slice BC n.chs.length dC) (.slice BK n.keys.length dK) (.slice BD n.kids.length dD)) 26) := ⟨_, rfl⟩
  have HS7 := Lib.hid (show Rw w W7 ((k, .cells (ndC n (.slice BE n.ents.length dE) (.slice BC n.chs.length dC) (.slice BK n.keys.length dK) (.slice BD n.kids.length dD)) 26 (0, 0)) :: (i, .cells (ndC n (.slice AE n.ents.length cE) (.slice AC n.chs.length cC) (.slice AK n.keys.length cK) (.slice AD n.kids.length cD)) 26 (0, 0)) :: (a, .cells (ndC (mkN n) (.slice AE (n.ents.length + 2) cE) (.slice AC (n.chs.length + 2) cC) (.slice AK (n.keys.length + 2) cK) (.slice AD (n.kids.length + 2) cD)) 26 (0, 0)) :: (p, .cells (ndC n (.slice A1 n.ents.length c1) (.slice A2 n.chs.length c2) (.slice A3 n.keys.length c3) (.slice A4 n.kids.length c4)) 26 (0, 0)) :: []) by rw [hW7, hk]; exact HS6.out.made _)
  have HB67 := Lib.hid (show Below W6.heap.size W6 W7 by rw [hW7]; exact (Below.refl _ _).alloc (Nat.le_refl _) _)
  have HM7 := Lib.hid (HM6.out.ext HB67.out)
  have HK7 := Lib.hid (HK6.out.ext HB67.out)
  unfold ndC at hW7
  go_upto_region 7 with fail
  rw [← hW7, ← hk]
  clear hW7 hk
  have HI := Lib.hid (fun (V : World) (hb : Below W7.heap.size W7 V) => (HM7.out.ext hb).own_part)
  have HK := Lib.hid (fun (V : World) (hb : Below W7.heap.size W7 V) => HK7.out.ext hb)
  have HR := Lib.hid (fun (V : World) (hb : Below W7.heap.size W7 V) => HS7.out.below hb)
  have HSZ := Lib.hid (pg_Size n _ _ _ _ W7 (HI.out W7 (Below.refl _ _)))
  unfold ndC at HSZ
  have c7 := cell7 (n := n) (HS7.out.get 1 rfl)
  go_wp2_with fail
  clear c7
  refine HSZ.out.mono ?_
  rintro e W8 ⟨rfl, hb⟩
  have HB8 := Lib.hid hb
  have HFT := Lib.hid (pg_Fits n _ _ _ _ W8 (HI.out W8 hb))
  unfold ndC at HFT
  have c7 := cell7 (n := n) ((HR.out W8 hb).get 1 rfl)
  clear hb HSZ
  go_wp2_with fail
  clear c7
  refine HFT.out.mono ?_
  rintro e W9 ⟨rfl, hb⟩
  have HB9 := Lib.hid (HB8.out.trans (hb.mono HB8.out.size))
  have c7 := cell7 (n := n) ((HR.out W9 HB9.out).get 1 rfl)
  clear hb HFT
  obtain ⟨z, hz⟩ : ∃ z, z = sizeN n := ⟨_, rfl⟩
  rw [← hz]
  have HZ := Lib.hid hz
  clear hz
  by_cases hf : fitsN n = true
  · have HF := Lib.hid hf
    rw [hf]
    clear hf
    have HE := Lib.hid (pg_Encode n _ _ _ _ W9 (HI.out W9 HB9.out) HF.out)
    unfold ndC at HE
    go_wp2_with fail
    clear c7
    refine HE.out.mono ?_
    rintro e W10 ⟨g, rfl, hg, hB, hb⟩
    have HB10 := Lib.hid (HB9.out.trans (hb.mono HB9.out.size))
    have HG10 := Lib.hid hB
    clear hg hB hb HE
    have c7 := cell7 (n := n) ((HR.out W10 HB10.out).get 0 rfl)
    have HE := Lib.hid (rn_Encode n _ _ _ _ W10 (HK.out W10 HB10.out) HF.out)
    unfold ndC at HE
    go_wp2_with fail
    clear c7
    refine HE.out.mono ?_
    rintro e W11 ⟨g2, cc, rfl, hO, hb⟩
    have HB11 := Lib.hid (HB10.out.trans (hb.mono HB10.out.size))
    have HG11 := Lib.hid (HG10.out.ext hb)
    have HO11 := Lib.hid (show Rd W11 (some ⟨g2, 0, none⟩) 512 cc (encN n) by
      obtain ⟨A9, c9, he, hr⟩ := hO.rd (by decide)
      injection he with q1 q2 q3
      subst q1 q3
      exact hr)
    clear hO hb HE
    have c7 := cell7 (n := n) ((HR.out W11 HB11.out).get 0 rfl)
    have HE := Lib.hid (rn_Size n _ _ _ _ W11 (HK.out W11 HB11.out))
    rw [← HZ.out] at HE
    unfold ndC at HE
    go_wp2_with fail
    clear c7
    refine HE.out.mono ?_
    rintro e W12 ⟨rfl, hb12⟩
    have HB12 := Lib.hid (HB11.out.trans (hb12.mono HB11.out.size))
    clear HE
    have c7 := cell7 (n := n) ((HR.out W12 HB12.out).get 0 rfl)
    have HE := Lib.hid (rn_Fits n _ _ _ _ W12 (HK.out W12 HB12.out))
    rw [HF.out] at HE
    unfold ndC at HE
    go_wp2_with fail
    clear c7
    refine HE.out.mono ?_
    rintro e W13 ⟨rfl, hb⟩
    have HB13 := Lib.hid (HB12.out.trans (hb.mono HB12.out.size))
    have HG13 := Lib.hid ((HG11.out.ext hb12).ext hb)
    have HO13 := Lib.hid ((HO11.out.ext hb12).ext hb)
    clear hb hb12 HE
    have HSM := Lib.hid (l9_same (some ⟨g, 0, none⟩) (some ⟨g2, 0, none⟩) 512 512 512 cc (encN n) (encN n) W13 HG13.out.rd HO13.out)
    rw [decide_eq_true rfl] at HSM
    go_wp2_with fail
    refine HSM.out.mono ?_
    rintro e W14 ⟨rfl, rfl⟩
    clear HSM
    go_upto_region 13 with fail
    obtain ⟨Vd, hVd⟩ : ∃ V, V = W14.drew := ⟨_, rfl⟩
    have HBd := Lib.hid (show Below W7.heap.size W7 Vd by rw [hVd]; exact ⟨HB13.out.os, HB13.out.tape, HB13.out.output, HB13.out.size, HB13.out.block⟩)
    have cA := cell7 (n := mkN n) ((HR.out Vd HBd.out).get 2 rfl)
    have cP := cell7 (n := n) ((HR.out Vd HBd.out).get 3 rfl)
    have hT : True := trivial
    have HC5 := Lib.hid (l9_marked n _ _ _ _ Vd (HNR.out.ext (HR.out Vd HBd.out).bl) HNB.out)
    unfold ndC at HC5
    refine wp_region_z (fun w' => Below W7.heap.size W7 w') (fun w' => True) 4 (by kernel_rfl) ?_
    rw [← hVd]
    clear hVd cA cP
    refine wpAnyZ.take (i := 0) (v := .agg (ndC (mkN n) (.slice AE (n.ents.length + 2) cE) (.slice AC (n.chs.length + 2) cC) (.slice AK (n.keys.length + 2) cK) (.slice AD (n.kids.length + 2) cD))) (U := fun w' => Below W7.heap.size W7 w') rfl (by kernel_rfl) (by kernel_rfl) (by kernel_rfl) (by decide) (fun _ _ _ h => h) (.inl fun _ h => h) (.inr fun _ h => h) (.inl ⟨by rfl, fun w hw => ?zy⟩) HBd.out HBd.out (fun _ => trivial) ?_
    case zy => (have cA := cell7 (n := mkN n) ((HR.out _ hw).get 2 rfl); unfold ndC; clear hw; go_simp)
    (try simp only [Act.put, List.getElem_toArray, List.getElem_cons_zero, List.getElem_cons_succ, List.setIfInBounds_toArray, List.set_cons_zero, List.set_cons_succ])
    refine wpAnyZ.take (i := 1) (v := .agg (ndC n (.slice A1 n.ents.length c1) (.slice A2 n.chs.length c2) (.slice A3 n.keys.length c3) (.slice A4 n.kids.length c4))) (U := fun w' => Below W7.heap.size W7 w') rfl (by kernel_rfl) (by kernel_rfl) (by kernel_rfl) (by decide) (fun _ _ _ h => h) (.inl fun _ h => h) (.inr fun _ h => h) (.inl ⟨by rfl, fun w hw => ?zy⟩) HBd.out HBd.out (fun _ => trivial) ?_
    case zy => (have cP := cell7 (n := n) ((HR.out _ hw).get 3 rfl); unfold ndC; clear hw; go_simp)
    (try simp only [Act.put, List.getElem_toArray, List.getElem_cons_zero, List.getElem_cons_succ, List.setIfInBounds_toArray, List.set_cons_zero, List.set_cons_succ])
    unfold ndC
    refine wpAnyZ.oneK (i := 2) (E := False) (by kernel_rfl) rfl (by rfl) (fun K hK => ?_)
    go_simp
    refine HC5.out.mono ?_
    rintro e W15 ⟨FE, eE, FC, eC, FK, eK, FD, eD, rfl, hO, hb⟩
    have HB15 := Lib.hid (HBd.out.trans (hb.mono HBd.out.size))
    have HM15 := Lib.hid (hO.rd (mk_B n HNB.out).1 (mk_B n HNB.out).2.1 (mk_B n HNB.out).2.2.1 (mk_B n HNB.out).2.2.2)
    have HSN := Lib.hid (l9_sameNode (mkN n) (mkN n) _ _ _ _ _ _ _ _ W15 (HM7.out.ext HB15.out) HM15.out)
    rw [decide_eq_true rfl] at HSN
    unfold ndC at HSN
    clear hO hb HC5
    go_wp2_with fail
    refine hK.out _ _ ⟨⟨HB15.out, fun _ => trivial⟩, ?_⟩
    clear hK
    (try simp only [Act.put, List.getElem_toArray, List.getElem_cons_zero, List.getElem_cons_succ, List.setIfInBounds_toArray, List.set_cons_zero, List.set_cons_succ])
    refine wpAnyZ.oneK (i := 3) (E := False) (by kernel_rfl) rfl (by rfl) (fun K hK => ?_)
    go_simp
    refine HSN.out.mono ?_
    rintro e W16 ⟨rfl, hb⟩
    have HB16 := Lib.hid (HB15.out.trans (hb.mono HB15.out.size))
    clear hb HSN
    go_wp2_with fail
    refine hK.out _ _ ⟨⟨HB16.out, fun _ => trivial⟩, ?_⟩
    clear hK
    (try simp only [Act.put, List.getElem_toArray, List.getElem_cons_zero, List.getElem_cons_succ, List.setIfInBounds_toArray, List.set_cons_zero, List.set_cons_succ])
    refine wpAnyZ.oneK (i := 4) (E := False) (by kernel_rfl) rfl (by rfl) (fun K hK => ?_)
    go_simp
    refine hK.out _ _ ⟨⟨HB16.out, fun _ => trivial⟩, ?_⟩
    clear hK
    refine wpAnyZ.done (by kernel_rfl) ?_ _
    go_wp2
    go_ret
    exact ⟨rfl, (HR.out W16 HB16.out).bl⟩
  · rw [Bool.not_eq_true] at hf
    have HF := Lib.hid hf
    rw [hf]
    clear hf
    have HE := Lib.hid (pg_Encode_bad n _ _ _ _ W9 (HI.out W9 HB9.out) HF.out)
    unfold ndC at HE
    go_wp2_with fail
    clear c7
    refine HE.out.mono ?_
    rintro e W10 ⟨rfl, hb⟩
    have HB10 := Lib.hid (HB9.out.trans (hb.mono HB9.out.size))
    clear hb HE
    have c7 := cell7 (n := n) ((HR.out W10 HB10.out).get 0 rfl)
    have HE := Lib.hid (rn_Encode_bad n _ _ _ _ W10 (HK.out W10 HB10.out) HF.out)
    unfold ndC at HE
    go_wp2_with fail
    clear c7
    refine HE.out.mono ?_
    rintro e W11 ⟨rfl, hb⟩
    have HB11 := Lib.hid (HB10.out.trans (hb.mono HB10.out.size))
    clear hb HE
    have c7 := cell7 (n := n) ((HR.out W11 HB11.out).get 0 rfl)
    have HE := Lib.hid (rn_Size n _ _ _ _ W11 (HK.out W11 HB11.out))
    rw [← HZ.out] at HE
    unfold ndC at HE
    go_wp2_with fail
    clear c7
    refine HE.out.mono ?_
    rintro e W12 ⟨rfl, hb12⟩
    have HB12 := Lib.hid (HB11.out.trans (hb12.mono HB11.out.size))
    clear HE
    have c7 := cell7 (n := n) ((HR.out W12 HB12.out).get 0 rfl)
    have HE := Lib.hid (rn_Fits n _ _ _ _ W12 (HK.out W12 HB12.out))
    rw [HF.out] at HE
    unfold ndC at HE
    go_wp2_with fail
    clear c7
    refine HE.out.mono ?_
    rintro e W13 ⟨rfl, hb⟩
    have HB13 := Lib.hid (HB12.out.trans (hb.mono HB12.out.size))
    clear hb hb12 HE
    have HSM := Lib.hid (l9_same none none 0 0 0 0 [] [] W13 (Rd.nil _) (Rd.nil _))
    rw [decide_eq_true rfl] at HSM
    go_wp2_with fail
    refine HSM.out.mono ?_
    rintro e W14 ⟨rfl, rfl⟩
    clear HSM
    go_upto_region 13 with fail
    obtain ⟨Vd, hVd⟩ : ∃ V, V = W14.drew := ⟨_, rfl⟩
    have HBd := Lib.hid (show Below W7.heap.size W7 Vd by rw [hVd]; exact ⟨HB13.out.os, HB13.out.tape, HB13.out.output, HB13.out.size, HB13.out.block⟩)
    have cA := cell7 (n := mkN n) ((HR.out Vd HBd.out).get 2 rfl)
    have cP := cell7 (n := n) ((HR.out Vd HBd.out).get 3 rfl)
    have hT : True := trivial
    have HC5 := Lib.hid (l9_marked n _ _ _ _ Vd (HNR.out.ext (HR.out Vd HBd.out).bl) HNB.out)
    unfold ndC at HC5
    refine wp_region_z (fun w' => Below W7.heap.size W7 w') (fun w' => True) 4 (by kernel_rfl) ?_
    rw [← hVd]
    clear hVd cA cP
    refine wpAnyZ.take (i := 0) (v := .agg (ndC (mkN n) (.slice AE (n.ents.length + 2) cE) (.slice AC (n.chs.length + 2) cC) (.slice AK (n.keys.length + 2) cK) (.slice AD (n.kids.length + 2) cD))) (U := fun w' => Below W7.heap.size W7 w') rfl (by kernel_rfl) (by kernel_rfl) (by kernel_rfl) (by decide) (fun _ _ _ h => h) (.inl fun _ h => h) (.inr fun _ h => h) (.inl ⟨by rfl, fun w hw => ?zy⟩) HBd.out HBd.out (fun _ => trivial) ?_
    case zy => (have cA := cell7 (n := mkN n) ((HR.out _ hw).get 2 rfl); unfold ndC; clear hw; go_simp)
    (try simp only [Act.put, List.getElem_toArray, List.getElem_cons_zero, List.getElem_cons_succ, List.setIfInBounds_toArray, List.set_cons_zero, List.set_cons_succ])
    refine wpAnyZ.take (i := 1) (v := .agg (ndC n (.slice A1 n.ents.length c1) (.slice A2 n.chs.length c2) (.slice A3 n.keys.length c3) (.slice A4 n.kids.length c4))) (U := fun w' => Below W7.heap.size W7 w') rfl (by kernel_rfl) (by kernel_rfl) (by kernel_rfl) (by decide) (fun _ _ _ h => h) (.inl fun _ h => h) (.inr fun _ h => h) (.inl ⟨by rfl, fun w hw => ?zy⟩) HBd.out HBd.out (fun _ => trivial) ?_
    case zy => (have cP := cell7 (n := n) ((HR.out _ hw).get 3 rfl); unfold ndC; clear hw; go_simp)
    (try simp only [Act.put, List.getElem_toArray, List.getElem_cons_zero, List.getElem_cons_succ, List.setIfInBounds_toArray, List.set_cons_zero, List.set_cons_succ])
    unfold ndC
    refine wpAnyZ.oneK (i := 2) (E := False) (by kernel_rfl) rfl (by rfl) (fun K hK => ?_)
    go_simp
    refine HC5.out.mono ?_
    rintro e W15 ⟨FE, eE, FC, eC, FK, eK, FD, eD, rfl, hO, hb⟩
    have HB15 := Lib.hid (HBd.out.trans (hb.mono HBd.out.size))
    have HM15 := Lib.hid (hO.rd (mk_B n HNB.out).1 (mk_B n HNB.out).2.1 (mk_B n HNB.out).2.2.1 (mk_B n HNB.out).2.2.2)
    have HSN := Lib.hid (l9_sameNode (mkN n) (mkN n) _ _ _ _ _ _ _ _ W15 (HM7.out.ext HB15.out) HM15.out)
    rw [decide_eq_true rfl] at HSN
    unfold ndC at HSN
    clear hO hb HC5
    go_wp2_with fail
    refine hK.out _ _ ⟨⟨HB15.out, fun _ => trivial⟩, ?_⟩
    clear hK
    (try simp only [Act.put, List.getElem_toArray, List.getElem_cons_zero, List.getElem_cons_succ, List.setIfInBounds_toArray, List.set_cons_zero, List.set_cons_succ])
    refine wpAnyZ.oneK (i := 3) (E := False) (by kernel_rfl) rfl (by rfl) (fun K hK => ?_)
    go_simp
    refine HSN.out.mono ?_
    rintro e W16 ⟨rfl, hb⟩
    have HB16 := Lib.hid (HB15.out.trans (hb.mono HB15.out.size))
    clear hb HSN
    go_wp2_with fail
    refine hK.out _ _ ⟨⟨HB16.out, fun _ => trivial⟩, ?_⟩
    clear hK
    (try simp only [Act.put, List.getElem_toArray, List.getElem_cons_zero, List.getElem_cons_succ, List.setIfInBounds_toArray, List.set_cons_zero, List.set_cons_succ])
    refine wpAnyZ.oneK (i := 4) (E := False) (by kernel_rfl) rfl (by rfl) (fun K hK => ?_)
    go_simp
    refine hK.out _ _ ⟨⟨HB16.out, fun _ => trivial⟩, ?_⟩
    clear hK
    refine wpAnyZ.done (by kernel_rfl) ?_ _
    go_wp2
    go_ret
    exact ⟨rfl, (HR.out W16 HB16.out).bl⟩
end Go.Proofs.Ytlandlgjhnnaiaa
