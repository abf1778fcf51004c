/- The laws' marked: two marks behind each list. -/
import Derived.Test.YtlandlgjhnnaiaaPg23
set_option linter.unusedVariables false
set_option linter.unusedSimpArgs false
set_option maxRecDepth 100000
namespace Go.Proofs.Ytlandlgjhnnaiaa
open Go.RowKit
theorem info_en_parts : ∃ i : TypeInfo, Try.prog.info? 46 = some i ∧ i.zero = some (.agg #[.string ⟨#[]⟩, .string ⟨#[]⟩]) ∧ i.size = 2 ∧ i.bytes = 32 := by
  obtain ⟨i0, hi, hzz⟩ := Option.map_eq_some_iff.1 info_en
  simp only [Prod.mk.injEq] at hzz
  exact ⟨i0, hi, hzz.1, hzz.2.1, hzz.2.2⟩
def markE : En := ⟨⟨#[109, 97, 114, 107]⟩, ⟨#[]⟩⟩
/-- two marks behind each list -/
def mkN (n : Nd) : Nd := ⟨n.kind, n.ents ++ [markE, markE], n.chs ++ [-71, -72], n.keys ++ [⟨#[109, 97, 114, 107]⟩, ⟨#[107, 114, 97, 109]⟩], n.kids ++ [-73, -74], n.next, n.data⟩
set_option maxHeartbeats 2000000 in
theorem l9_marked (n : Nd) (vE vC vK vD : Value) (w : World) (hN : NdR w n vE vC vK vD) (hb : NdB n) :
    Calls Try.prog 11 #[.agg (ndC n vE vC vK vD)] w fun e w' => ∃ AE cE AC cC AK cK AD cD, e = .returned (.agg (ndC (mkN n) (.slice AE (n.ents.length + 2) cE) (.slice AC (n.chs.length + 2) cC) (.slice AK (n.keys.length + 2) cK) (.slice AD (n.kids.length + 2) cD))) ∧ NdO w' w.heap.size (mkN n) (.slice AE (n.ents.length + 2) cE) (.slice AC (n.chs.length + 2) cC) (.slice AK (n.keys.length + 2) cK) (.slice AD (n.kids.length + 2) cD) ∧ Below w.heap.size w w' := by
  have HNR := Lib.hid hN
  obtain ⟨⟨A1, c1, rfl, h1⟩, ⟨A2, c2, rfl, h2⟩, ⟨A3, c3, rfl, h3⟩, ⟨A4, c4, rfl, h4⟩⟩ := hN
  have HB := Lib.hid hb
  have hb' := hb
  unfold NdB at hb'
  clear h1 h2 h3 h4 hb
  obtain ⟨p, hp⟩ : ∃ p, p = w.heap.size := ⟨_, rfl⟩
  obtain ⟨W0, hW0⟩ : ∃ V, V = w.alloc (ndRow n.kind (.slice A1 n.ents.length c1) (.slice A2 n.chs.length c2) (.slice A3 n.keys.length c3) (.slice A4 n.kids.length c4) n.next n.data) := ⟨_, rfl⟩
  have HS0 := Lib.hid (show Rw w W0 [(p, ndRow n.kind (.slice A1 n.ents.length c1) (.slice A2 n.chs.length c2) (.slice A3 n.keys.length c3) (.slice A4 n.kids.length c4) n.next n.data)] by rw [hW0, hp]; exact (Rw.start w).made _)
  obtain ⟨r, hr⟩ : ∃ r, r = W0.heap.size := ⟨_, rfl⟩
  obtain ⟨W1, hW1⟩ : ∃ V, V = W0.alloc (ndRow 0 nilV nilV nilV nilV 0 ⟨#[]⟩) := ⟨_, rfl⟩
  have HS1 := Lib.hid (show Rw w W1 [(r, ndRow 0 nilV nilV nilV nilV 0 ⟨#[]⟩), (p, ndRow n.kind (.slice A1 n.ents.length c1) (.slice A2 n.chs.length c2) (.slice A3 n.keys.length c3) (.slice A4 n.kids.length c4) n.next n.data)] by rw [hW1, hr]; exact HS0.out.made _)
  have hr' : r = w.heap.size + 1 := by rw [hr, hW0]; simp
  rw [hW0] at hW1
  unfold ndRow nilV at hW1
  clear hW0 hr
  have HCP := Lib.hid (l9_copiedQ n _ _ _ _ W1 (HNR.out.ext HS1.out.bl) HB.out)
  unfold ndC at HCP ⊢
  go_enter Try.func11, Try.ntmps11
  go_wp2_with fail
  (try rw [← hW1])
  (try rw [← hr'])
  (try rw [← hp])
  clear hW1 hr' hp
  refine HCP.out.mono ?_
  rintro e W2 ⟨AE, cE, AC, cC, AK, cK, AD, cD, rfl, QE, QC, QK, QD, hq1, hq2, hq3, hq4, hS⟩
  have HQE := Lib.hid hq1
  have HQC := Lib.hid hq2
  have HQK := Lib.hid hq3
  have HQD := Lib.hid hq4
  have HS2 := Lib.hid (HS1.out.join hS)
  clear hq1 hq2 hq3 hq4 hS HCP
  obtain ⟨q, hq⟩ : ∃ q, q = W2.heap.size := ⟨_, rfl⟩
  obtain ⟨W3, hW3⟩ : ∃ V, V = W2.alloc (ndRow n.kind (.slice AE n.ents.length cE) (.slice AC n.chs.length cC) (.slice AK n.keys.length cK) (.slice AD n.kids.length cD) n.next n.data) := ⟨_, rfl⟩
  have HS3 := Lib.hid (show Rw w W3 ((q, ndRow n.kind (.slice AE n.ents.length cE) (.slice AC n.chs.length cC) (.slice AK n.keys.length cK) (.slice AD n.kids.length cD) n.next n.data) :: (r, ndRow 0 nilV nilV nilV nilV 0 ⟨#[]⟩) :: (p, ndRow n.kind (.slice A1 n.ents.length c1) (.slice A2 n.chs.length c2) (.slice A3 n.keys.length c3) (.slice A4 n.kids.length c4) n.next n.data) :: (QE ++ (QC ++ (QK ++ (QD ++ []))))) by rw [hW3, hq]; exact HS2.out.made _)
  unfold ndRow at hW3
  go_upto_region 2 with fail
  rw [← hW3, ← hq]
  clear hW3 hq
  obtain ⟨iF, hiF⟩ := info_en_parts
  obtain ⟨b1, hb1⟩ : ∃ b, b = W3.heap.size := ⟨_, rfl⟩
  obtain ⟨V1a, hV1a⟩ : ∃ V, V = W3.alloc (.cells #[.string ⟨#[109, 97, 114, 107]⟩, .string ⟨#[]⟩, .string ⟨#[109, 97, 114, 107]⟩, .string ⟨#[]⟩] 46) := ⟨_, rfl⟩
  have hM : Rw w V1a ((b1, .cells #[.string ⟨#[109, 97, 114, 107]⟩, .string ⟨#[]⟩, .string ⟨#[109, 97, 114, 107]⟩, .string ⟨#[]⟩] 46 (0, 0)) :: (q, ndRow n.kind (.slice AE n.ents.length cE) (.slice AC n.chs.length cC) (.slice AK n.keys.length cK) (.slice AD n.kids.length cD) n.next n.data) :: (r, ndRow 0 nilV nilV nilV nilV 0 ⟨#[]⟩) :: (p, ndRow n.kind (.slice A1 n.ents.length c1) (.slice A2 n.chs.length c2) (.slice A3 n.keys.length c3) (.slice A4 n.kids.length c4) n.next n.data) :: (QE ++ (QC ++ (QK ++ (QD ++ []))))) := by rw [hV1a, hb1]; exact HS3.out.made _
  have h9 : Rw w V1a ([(b1, .cells #[.string ⟨#[109, 97, 114, 107]⟩, .string ⟨#[]⟩, .string ⟨#[109, 97, 114, 107]⟩, .string ⟨#[]⟩] 46 (0, 0)), (q, ndRow n.kind (.slice AE n.ents.length cE) (.slice AC n.chs.length cC) (.slice AK n.keys.length cK) (.slice AD n.kids.length cD) n.next n.data), (r, ndRow 0 nilV nilV nilV nilV 0 ⟨#[]⟩), (p, ndRow n.kind (.slice A1 n.ents.length c1) (.slice A2 n.chs.length c2) (.slice A3 n.keys.length c3) (.slice A4 n.kids.length c4) n.next n.data)] ++ (QE ++ (QC ++ (QK ++ (QD ++ []))))) := by (try simp only [List.append_assoc]); exact hM
  obtain ⟨v1, V1b, Q1, hrun, hq1, hS1⟩ := Rw.run_appQm Try.underlying22 hiF.1 hiF.2.1 hiF.2.2.1 hiF.2.2.2 rfl (by decide) 22 2 (by decide) h9 HQE.out [.string ⟨#[109, 97, 114, 107]⟩, .string ⟨#[]⟩, .string ⟨#[109, 97, 114, 107]⟩, .string ⟨#[]⟩] rfl (by intro u hu; simp at hu; rcases hu with rfl | rfl | rfl | rfl <;> rfl) (by omega) (by simp only [maxLen]; omega) b1 (hM.get 0 rfl)
  (try simp only [List.append_assoc] at hS1)
  obtain ⟨AE2, cE2, rfl⟩ := hq1.slice
  have HQE2 := Lib.hid hq1
  have hS2 : Rw w V1b ((b1, .cells #[.string ⟨#[109, 97, 114, 107]⟩, .string ⟨#[]⟩, .string ⟨#[109, 97, 114, 107]⟩, .string ⟨#[]⟩] 46 (0, 0)) :: (q, ndRow n.kind (.slice AE n.ents.length cE) (.slice AC n.chs.length cC) (.slice AK n.keys.length cK) (.slice AD n.kids.length cD) n.next n.data) :: (r, ndRow 0 nilV nilV nilV nilV 0 ⟨#[]⟩) :: (p, ndRow n.kind (.slice A1 n.ents.length c1) (.slice A2 n.chs.length c2) (.slice A3 n.keys.length c3) (.slice A4 n.kids.length c4) n.next n.data) :: (Q1 ++ (QC ++ (QK ++ (QD ++ []))))) := hS1
  have HS1b := Lib.hid (show Rw w V1b ((q, ndRow n.kind (.slice AE n.ents.length cE) (.slice AC n.chs.length cC) (.slice AK n.keys.length cK) (.slice AD n.kids.length cD) n.next n.data) :: (r, ndRow 0 nilV nilV nilV nilV 0 ⟨#[]⟩) :: (p, ndRow n.kind (.slice A1 n.ents.length c1) (.slice A2 n.chs.length c2) (.slice A3 n.keys.length c3) (.slice A4 n.kids.length c4) n.next n.data) :: (Q1 ++ (QC ++ (QK ++ (QD ++ []))))) from hS2.sub (List.sublist_cons_self _ _))
  rw [hV1a, hb1] at hrun
  have HRUN := Lib.hid hrun
  clear hM h9 hS1 hS2 hq1 hrun hV1a hb1 hiF
  have c7 := cell7 (n := ⟨n.kind, [], [], [], [], n.next, n.data⟩) (HS3.out.get 0 rfl)
  dsimp only at c7
  have e7 := cell7 (n := ⟨n.kind, [], [], [], [], n.next, n.data⟩) (HS1b.out.get 0 rfl)
  dsimp only at e7
  have f7 := free7 (HS1b.out.get 0 rfl)
  obtain ⟨W1c, hWc⟩ : ∃ V, V = V1b.setCell ⟨q, 1, none⟩ (.slice AE2 (n.ents.length + 2) cE2) := ⟨_, rfl⟩
  have HS1c := Lib.hid (show Rw w W1c ((q, ndRow n.kind (.slice AE2 (n.ents.length + 2) cE2) (.slice AC n.chs.length cC) (.slice AK n.keys.length cK) (.slice AD n.kids.length cD) n.next n.data) :: (r, ndRow 0 nilV nilV nilV nilV 0 ⟨#[]⟩) :: (p, ndRow n.kind (.slice A1 n.ents.length c1) (.slice A2 n.chs.length c2) (.slice A3 n.keys.length c3) (.slice A4 n.kids.length c4) n.next n.data) :: (Q1 ++ (QC ++ (QK ++ (QD ++ []))))) by rw [hWc]; exact HS1b.out.store 0 rfl 1 _)
  go_upto_region 3 with (at_builtin; refine wpl_app _ _ rfl rfl rfl rfl HRUN.out ?_; clear HRUN c7)
  rw [← hWc]
  clear hWc e7 f7
  obtain ⟨iF, hiF⟩ := info_int_parts
  obtain ⟨b2, hb2⟩ : ∃ b, b = W1c.heap.size := ⟨_, rfl⟩
  obtain ⟨V2a, hV2a⟩ : ∃ V, V = W1c.alloc (.cells #[.int .i64 (-71), .int .i64 (-72)] 3) := ⟨_, rfl⟩
  have hM : Rw w V2a ((b2, .cells #[.int .i64 (-71), .int .i64 (-72)] 3 (0, 0)) :: (q, ndRow n.kind (.slice AE2 (n.ents.length + 2) cE2) (.slice AC n.chs.length cC) (.slice AK n.keys.length cK) (.slice AD n.kids.length cD) n.next n.data) :: (r, ndRow 0 nilV nilV nilV nilV 0 ⟨#[]⟩) :: (p, ndRow n.kind (.slice A1 n.ents.length c1) (.slice A2 n.chs.length c2) (.slice A3 n.keys.length c3) (.slice A4 n.kids.length c4) n.next n.data) :: (Q1 ++ (QC ++ (QK ++ (QD ++ []))))) := by rw [hV2a, hb2]; exact HS1c.out.made _
  have h9 : Rw w V2a (([(b2, .cells #[.int .i64 (-71), .int .i64 (-72)] 3 (0, 0)), (q, ndRow n.kind (.slice AE2 (n.ents.length + 2) cE2) (.slice AC n.chs.length cC) (.slice AK n.keys.length cK) (.slice AD n.kids.length cD) n.next n.data), (r, ndRow 0 nilV nilV nilV nilV 0 ⟨#[]⟩), (p, ndRow n.kind (.slice A1 n.ents.length c1) (.slice A2 n.chs.length c2) (.slice A3 n.keys.length c3) (.slice A4 n.kids.length c4) n.next n.data)] ++ Q1) ++ (QC ++ (QK ++ (QD ++ [])))) := by (try simp only [List.append_assoc]); exact hM
  obtain ⟨v2, V2b, Q2, hrun, hq1, hS1⟩ := Rw.run_appQm Try.underlying23 hiF.1 hiF.2.1 hiF.2.2.1 hiF.2.2.2 rfl (by decide) 23 2 (by decide) h9 HQC.out [.int .i64 (-71), .int .i64 (-72)] rfl (by intro u hu; simp at hu; rcases hu with rfl | rfl <;> rfl) (by omega) (by simp only [maxLen]; omega) b2 (hM.get 0 rfl)
  (try simp only [List.append_assoc] at hS1)
  obtain ⟨AC2, cC2, rfl⟩ := hq1.slice
  have HQC2 := Lib.hid hq1
  have hS2 : Rw w V2b ((b2, .cells #[.int .i64 (-71), .int .i64 (-72)] 3 (0, 0)) :: (q, ndRow n.kind (.slice AE2 (n.ents.length + 2) cE2) (.slice AC n.chs.length cC) (.slice AK n.keys.length cK) (.slice AD n.kids.length cD) n.next n.data) :: (r, ndRow 0 nilV nilV nilV nilV 0 ⟨#[]⟩) :: (p, ndRow n.kind (.slice A1 n.ents.length c1) (.slice A2 n.chs.length c2) (.slice A3 n.keys.length c3) (.slice A4 n.kids.length c4) n.next n.data) :: (Q1 ++ (Q2 ++ (QK ++ (QD ++ []))))) := hS1
  have HS2b := Lib.hid (show Rw w V2b ((q, ndRow n.kind (.slice AE2 (n.ents.length + 2) cE2) (.slice AC n.chs.length cC) (.slice AK n.keys.length cK) (.slice AD n.kids.length cD) n.next n.data) :: (r, ndRow 0 nilV nilV nilV nilV 0 ⟨#[]⟩) :: (p, ndRow n.kind (.slice A1 n.ents.length c1) (.slice A2 n.chs.length c2) (.slice A3 n.keys.length c3) (.slice A4 n.kids.length c4) n.next n.data) :: (Q1 ++ (Q2 ++ (QK ++ (QD ++ []))))) from hS2.sub (List.sublist_cons_self _ _))
  rw [hV2a, hb2] at hrun
  have HRUN := Lib.hid hrun
  clear hM h9 hS1 hS2 hq1 hrun hV2a hb2 hiF
  have c7 := cell7 (n := ⟨n.kind, [], [], [], [], n.next, n.data⟩) (HS1c.out.get 0 rfl)
  dsimp only at c7
  have e7 := cell7 (n := ⟨n.kind, [], [], [], [], n.next, n.data⟩) (HS2b.out.get 0 rfl)
  dsimp only at e7
  have f7 := free7 (HS2b.out.get 0 rfl)
  obtain ⟨W2c, hWc⟩ : ∃ V, V = V2b.setCell ⟨q, 2, none⟩ (.slice AC2 (n.chs.length + 2) cC2) := ⟨_, rfl⟩
  have HS2c := Lib.hid (show Rw w W2c ((q, ndRow n.kind (.slice AE2 (n.ents.length + 2) cE2) (.slice AC2 (n.chs.length + 2) cC2) (.slice AK n.keys.length cK) (.slice AD n.kids.length cD) n.next n.data) :: (r, ndRow 0 nilV nilV nilV nilV 0 ⟨#[]⟩) :: (p, ndRow n.kind (.slice A1 n.ents.length c1) (.slice A2 n.chs.length c2) (.slice A3 n.keys.length c3) (.slice A4 n.kids.length c4) n.next n.data) :: (Q1 ++ (Q2 ++ (QK ++ (QD ++ []))))) by rw [hWc]; exact HS2b.out.store 0 rfl 2 _)
  go_upto_region 4 with (at_builtin; refine wpl_app _ _ rfl rfl rfl rfl HRUN.out ?_; clear HRUN c7)
  rw [← hWc]
  clear hWc e7 f7
  obtain ⟨iF, hiF⟩ := info_str_parts
  obtain ⟨b3, hb3⟩ : ∃ b, b = W2c.heap.size := ⟨_, rfl⟩
  obtain ⟨V3a, hV3a⟩ : ∃ V, V = W2c.alloc (.cells #[.string ⟨#[109, 97, 114, 107]⟩, .string ⟨#[107, 114, 97, 109]⟩] 9) := ⟨_, rfl⟩
  have hM : Rw w V3a ((b3, .cells #[.string ⟨#[109, 97, 114, 107]⟩, .string ⟨#[107, 114, 97, 109]⟩] 9 (0, 0)) :: (q, ndRow n.kind (.slice AE2 (n.ents.length + 2) cE2) (.slice AC2 (n.chs.length + 2) cC2) (.slice AK n.keys.length cK) (.slice AD n.kids.length cD) n.next n.data) :: (r, ndRow 0 nilV nilV nilV nilV 0 ⟨#[]⟩) :: (p, ndRow n.kind (.slice A1 n.ents.length c1) (.slice A2 n.chs.length c2) (.slice A3 n.keys.length c3) (.slice A4 n.kids.length c4) n.next n.data) :: (Q1 ++ (Q2 ++ (QK ++ (QD ++ []))))) := by rw [hV3a, hb3]; exact HS2c.out.made _
  have h9 : Rw w V3a ((([(b3, .cells #[.string ⟨#[109, 97, 114, 107]⟩, .string ⟨#[107, 114, 97, 109]⟩] 9 (0, 0)), (q, ndRow n.kind (.slice AE2 (n.ents.length + 2) cE2) (.slice AC2 (n.chs.length + 2) cC2) (.slice AK n.keys.length cK) (.slice AD n.kids.length cD) n.next n.data), (r, ndRow 0 nilV nilV nilV nilV 0 ⟨#[]⟩), (p, ndRow n.kind (.slice A1 n.ents.length c1) (.slice A2 n.chs.length c2) (.slice A3 n.keys.length c3) (.slice A4 n.kids.length c4) n.next n.data)] ++ Q1) ++ Q2) ++ (QK ++ (QD ++ []))) := by (try simp only [List.append_assoc]); exact hM
  obtain ⟨v3, V3b, Q3, hrun, hq1, hS1⟩ := Rw.run_appQm Try.underlying24 hiF.1 hiF.2.1 hiF.2.2.1 hiF.2.2.2 rfl (by decide) 24 2 (by decide) h9 HQK.out [.string ⟨#[109, 97, 114, 107]⟩, .string ⟨#[107, 114, 97, 109]⟩] rfl (by intro u hu; simp at hu; rcases hu with rfl | rfl <;> rfl) (by omega) (by simp only [maxLen]; omega) b3 (hM.get 0 rfl)
  (try simp only [List.append_assoc] at hS1)
  obtain ⟨AK2, cK2, rfl⟩ := hq1.slice
  have HQK2 := Lib.hid hq1
  have hS2 : Rw w V3b ((b3, .cells #[.string ⟨#[109, 97, 114, 107]⟩, .string ⟨#[107, 114, 97, 109]⟩] 9 (0, 0)) :: (q, ndRow n.kind (.slice AE2 (n.ents.length + 2) cE2) (.slice AC2 (n.chs.length + 2) cC2) (.slice AK n.keys.length cK) (.slice AD n.kids.length cD) n.next n.data) :: (r, ndRow 0 nilV nilV nilV nilV 0 ⟨#[]⟩) :: (p, ndRow n.kind (.slice A1 n.ents.length c1) (.slice A2 n.chs.length c2) (.slice A3 n.keys.length c3) (.slice A4 n.kids.length c4) n.next n.data) :: (Q1 ++ (Q2 ++ (Q3 ++ (QD ++ []))))) := hS1
  have HS3b := Lib.hid (show Rw w V3b ((q, ndRow n.kind (.slice AE2 (n.ents.length + 2) cE2) (.slice AC2 (n.chs.length + 2) cC2) (.slice AK n.keys.length cK) (.slice AD n.kids.length cD) n.next n.data) :: (r, ndRow 0 nilV nilV nilV nilV 0 ⟨#[]⟩) :: (p, ndRow n.kind (.slice A1 n.ents.length c1) (.slice A2 n.chs.length c2) (.slice A3 n.keys.length c3) (.slice A4 n.kids.length c4) n.next n.data) :: (Q1 ++ (Q2 ++ (Q3 ++ (QD ++ []))))) from hS2.sub (List.sublist_cons_self _ _))
  rw [hV3a, hb3] at hrun
  have HRUN := Lib.hid hrun
  clear hM h9 hS1 hS2 hq1 hrun hV3a hb3 hiF
  have c7 := cell7 (n := ⟨n.kind, [], [], [], [], n.next, n.data⟩) (HS2c.out.get 0 rfl)
  dsimp only at c7
  have e7 := cell7 (n := ⟨n.kind, [], [], [], [], n.next, n.data⟩) (HS3b.out.get 0 rfl)
  dsimp only at e7
  have f7 := free7 (HS3b.out.get 0 rfl)
  obtain ⟨W3c, hWc⟩ : ∃ V, V = V3b.setCell ⟨q, 3, none⟩ (.slice AK2 (n.keys.length + 2) cK2) := ⟨_, rfl⟩
  have HS3c := Lib.hid (show Rw w W3c ((q, ndRow n.kind (.slice AE2 (n.ents.length + 2) cE2) (.slice AC2 (n.chs.length + 2) cC2) (.slice AK2 (n.keys.length + 2) cK2) (.slice AD n.kids.length cD) n.next n.data) :: (r, ndRow 0 nilV nilV nilV nilV 0 ⟨#[]⟩) :: (p, ndRow n.kind (.slice A1 n.ents.length c1) (.slice A2 n.chs.length c2) (.slice A3 n.keys.length c3) (.slice A4 n.kids.length c4) n.next n.data) :: (Q1 ++ (Q2 ++ (Q3 ++ (QD ++ []))))) by rw [hWc]; exact HS3b.out.store 0 rfl 3 _)
  go_upto_region 5 with (at_builtin; refine wpl_app _ _ rfl rfl rfl rfl HRUN.out ?_; clear HRUN c7)
  rw [← hWc]
  clear hWc e7 f7
  obtain ⟨iF, hiF⟩ := info_int_parts
  obtain ⟨b4, hb4⟩ : ∃ b, b = W3c.heap.size := ⟨_, rfl⟩
  obtain ⟨V4a, hV4a⟩ : ∃ V, V = W3c.alloc (.cells #[.int .i64 (-73), .int .i64 (-74)] 3) := ⟨_, rfl⟩
  have hM : Rw w V4a ((b4, .cells #[.int .i64 (-73), .int .i64 (-74)] 3 (0, 0)) :: (q, ndRow n.kind (.slice AE2 (n.ents.length + 2) cE2) (.slice AC2 (n.chs.length + 2) cC2) (.slice AK2 (n.keys.length + 2) cK2) (.slice AD n.kids.length cD) n.next n.data) :: (r, ndRow 0 nilV nilV nilV nilV 0 ⟨#[]⟩) :: (p, ndRow n.kind (.slice A1 n.ents.length c1) (.slice A2 n.chs.length c2) (.slice A3 n.keys.length c3) (.slice A4 n.kids.length c4) n.next n.data) :: (Q1 ++ (Q2 ++ (Q3 ++ (QD ++ []))))) := by rw [hV4a, hb4]; exact HS3c.out.made _
  have h9 : Rw w V4a (((([(b4, .cells #[.int .i64 (-73), .int .i64 (-74)] 3 (0, 0)), (q, ndRow n.kind (.slice AE2 (n.ents.length + 2) cE2) (.slice AC2 (n.chs.length + 2) cC2) (.slice AK2 (n.keys.length + 2) cK2) (.slice AD n.kids.length cD) n.next n.data), (r, ndRow 0 nilV nilV nilV nilV 0 ⟨#[]⟩), (p, ndRow n.kind (.slice A1 n.ents.length c1) (.slice A2 n.chs.length c2) (.slice A3 n.keys.length c3) (.slice A4 n.kids.length c4) n.next n.data)] ++ Q1) ++ Q2) ++ Q3) ++ (QD ++ [])) := by (try simp only [List.append_assoc]); exact hM
  obtain ⟨v4, V4b, Q4, hrun, hq1, hS1⟩ := Rw.run_appQm Try.underlying23 hiF.1 hiF.2.1 hiF.2.2.1 hiF.2.2.2 rfl (by decide) 23 2 (by decide) h9 HQD.out [.int .i64 (-73), .int .i64 (-74)] rfl (by intro u hu; simp at hu; rcases hu with rfl | rfl <;> rfl) (by omega) (by simp only [maxLen]; omega) b4 (hM.get 0 rfl)
  (try simp only [List.append_assoc] at hS1)
  obtain ⟨AD2, cD2, rfl⟩ := hq1.slice
  have HQD2 := Lib.hid hq1
  have hS2 : Rw w V4b ((b4, .cells #[.int .i64 (-73), .int .i64 (-74)] 3 (0, 0)) :: (q, ndRow n.kind (.slice AE2 (n.ents.length + 2) cE2) (.slice AC2 (n.chs.length + 2) cC2) (.slice AK2 (n.keys.length + 2) cK2) (.slice AD n.kids.length cD) n.next n.data) :: (r, ndRow 0 nilV nilV nilV nilV 0 ⟨#[]⟩) :: (p, ndRow n.kind (.slice A1 n.ents.length c1) (.slice A2 n.chs.length c2) (.slice A3 n.keys.length c3) (.slice A4 n.kids.length c4) n.next n.data) :: (Q1 ++ (Q2 ++ (Q3 ++ (Q4 ++ []))))) := hS1
  have HS4b := Lib.hid (show Rw w V4b ((q, ndRow n.kind (.slice AE2 (n.ents.length + 2) cE2) (.slice AC2 (n.chs.length + 2) cC2) (.slice AK2 (n.keys.length + 2) cK2) (.slice AD n.kids.length cD) n.next n.data) :: (r, ndRow 0 nilV nilV nilV nilV 0 ⟨#[]⟩) :: (p, ndRow n.kind (.slice A1 n.ents.length c1) (.slice A2 n.chs.length c2) (.slice A3 n.keys.length c3) (.slice A4 n.kids.length c4) n.next n.data) :: (Q1 ++ (Q2 ++ (Q3 ++ (Q4 ++ []))))) from hS2.sub (List.sublist_cons_self _ _))
  rw [hV4a, hb4] at hrun
  have HRUN := Lib.hid hrun
  clear hM h9 hS1 hS2 hq1 hrun hV4a hb4 hiF
  have c7 := cell7 (n := ⟨n.kind, [], [], [], [], n.next, n.data⟩) (HS3c.out.get 0 rfl)
  dsimp only at c7
  have e7 := cell7 (n := ⟨n.kind, [], [], [], [], n.next, n.data⟩) (HS4b.out.get 0 rfl)
  dsimp only at e7
  have f7 := free7 (HS4b.out.get 0 rfl)
  obtain ⟨W4c, hWc⟩ : ∃ V, V = V4b.setCell ⟨q, 4, none⟩ (.slice AD2 (n.kids.length + 2) cD2) := ⟨_, rfl⟩
  have HS4c := Lib.hid (show Rw w W4c ((q, ndRow n.kind (.slice AE2 (n.ents.length + 2) cE2) (.slice AC2 (n.chs.length + 2) cC2) (.slice AK2 (n.keys.length + 2) cK2) (.slice AD2 (n.kids.length + 2) cD2) n.next n.data) :: (r, ndRow 0 nilV nilV nilV nilV 0 ⟨#[]⟩) :: (p, ndRow n.kind (.slice A1 n.ents.length c1) (.slice A2 n.chs.length c2) (.slice A3 n.keys.length c3) (.slice A4 n.kids.length c4) n.next n.data) :: (Q1 ++ (Q2 ++ (Q3 ++ (Q4 ++ []))))) by rw [hWc]; exact HS4b.out.store 0 rfl 4 _)
  go_upto_region 6 with (at_builtin; refine wpl_app _ _ rfl rfl rfl rfl HRUN.out ?_; clear HRUN c7)
  rw [← hWc]
  clear hWc e7 f7
  have c7 := cell7 (n := ⟨n.kind, [], [], [], [], n.next, n.data⟩) (HS4c.out.get 0 rfl)
  dsimp only at c7
  have b7 := bad_end HS4c.out (i := 1) rfl
  have d7 := b7.1
  have f7 := b7.2.1
  clear b7
  obtain ⟨W26, hW26⟩ : ∃ W26, W26 = ((((((W4c.setCell ⟨r, 0, none⟩ (.int .i64 n.kind)).setCell ⟨r, 1, none⟩ (.slice AE2 (n.ents.length + 2) cE2)).setCell ⟨r, 2, none⟩ (.slice AC2 (n.chs.length + 2) cC2)).setCell ⟨r, 3, none⟩ (.slice AK2 (n.keys.length + 2) cK2)).setCell ⟨r, 4, none⟩ (.slice AD2 (n.kids.length + 2) cD2)).setCell ⟨r, 5, none⟩ (.int .i64 n.next)).setCell ⟨r, 6, none⟩ (.string n.data) := ⟨_, rfl⟩
  have hp7 : put7 W4c r (mkN n) (.slice AE2 (n.ents.length + 2) cE2) (.slice AC2 (n.chs.length + 2) cC2) (.slice AK2 (n.keys.length + 2) cK2) (.slice AD2 (n.kids.length + 2) cD2) = W26 := by rw [hW26]; rfl
  have HS26 := Lib.hid (show Rw w W26 ((q, ndRow n.kind (.slice AE2 (n.ents.length + 2) cE2) (.slice AC2 (n.chs.length + 2) cC2) (.slice AK2 (n.keys.length + 2) cK2) (.slice AD2 (n.kids.length + 2) cD2) n.next n.data) :: (r, .cells (ndC (mkN n) (.slice AE2 (n.ents.length + 2) cE2) (.slice AC2 (n.chs.length + 2) cC2) (.slice AK2 (n.keys.length + 2) cK2) (.slice AD2 (n.kids.length + 2) cD2)) 26 (0, 0)) :: (p, ndRow n.kind (.slice A1 n.ents.length c1) (.slice A2 n.chs.length c2) (.slice A3 n.keys.length c3) (.slice A4 n.kids.length c4) n.next n.data) :: (Q1 ++ (Q2 ++ (Q3 ++ (Q4 ++ []))))) by rw [← hp7]; exact HS4c.out.upd 1 rfl only7 (row7 (n := zNd) (m := (mkN n)) (HS4c.out.get 1 rfl)))
  clear hp7
  unfold nilV at d7
  go_wp2
  rw [← hW26]
  clear hW26 c7 d7 f7
  have hrow := HS26.out.get 1 rfl
  refine bodyPost_ret (results_cell_row rfl _ _ r 26 (ndC (mkN n) (.slice AE2 (n.ents.length + 2) cE2) (.slice AC2 (n.chs.length + 2) cC2) (.slice AK2 (n.keys.length + 2) cK2) (.slice AD2 (n.kids.length + 2) cD2)) (0, 0) _ rfl hrow Try.underlying26 rfl sz_nd) rfl ?_
  have hall := HS26.out.all
  have hge := HS26.out.ge
  refine ⟨_, _, _, _, _, _, _, _, rfl, ⟨?_, ?_, ?_, ?_⟩, HS26.out.bl⟩
  · have h1 := HQE2.out.ownsB (w := W26) (base := w.heap.size) (fun p hp => hall p (by simp [hp])) (fun p hp => hge p (by simp [hp]))
    unfold OwnE mkN; dsimp only; rw [ev_append, List.length_append]; exact h1
  · have h1 := HQC2.out.ownsB (w := W26) (base := w.heap.size) (fun p hp => hall p (by simp [hp])) (fun p hp => hge p (by simp [hp]))
    unfold OwnI mkN; dsimp only; rw [iv_append, List.length_append]; exact h1
  · have h1 := HQK2.out.ownsB (w := W26) (base := w.heap.size) (fun p hp => hall p (by simp [hp])) (fun p hp => hge p (by simp [hp]))
    unfold OwnT mkN; dsimp only; rw [tv_append, List.length_append]; exact h1
  · have h1 := HQD2.out.ownsB (w := W26) (base := w.heap.size) (fun p hp => hall p (by simp [hp])) (fun p hp => hge p (by simp [hp]))
    unfold OwnI mkN; dsimp only; rw [iv_append, List.length_append]; exact h1
end Go.Proofs.Ytlandlgjhnnaiaa
