/- The laws' fixed: the document's first example. -/
import Derived.Test.YtlandlgjhnnaiaaPg21
import Derived.Test.YtlandlgjhnnaiaaPg22
import Derived.Test.YtlandlgjhnnaiaaPgM2
set_option linter.unusedVariables false
set_option linter.unusedSimpArgs false
set_option maxRecDepth 100000
namespace Go.Proofs.Ytlandlgjhnnaiaa
open Go.RowKit SumMath
def fixE : En := ⟨⟨#[107]⟩, ⟨#[118, 119]⟩⟩
def fixN : Nd := ⟨1, [fixE], [0], [], [], 0, noS⟩
theorem fix_leaf : isLeafN fixN = true := by
  have h1 : leafGo noS [fixE] [0] = true := by
    rw [leafGo, leafGo, entOk_val, leS_first _ (by decide)]
    rfl
  show (_ && leafGo noS [fixE] [0]) = true
  rw [h1]; rfl
theorem fix_size : sizeN fixN = 13 := by
  unfold sizeN
  rw [if_pos ⟨rfl, fix_leaf⟩]; rfl
theorem fix_fits : fitsN fixN = true := by unfold fitsN; rw [fix_size]; rfl
theorem fix_dec : decN (encN fixN) = (fixN, 0) := by
  unfold decN
  rw [if_pos (pageL_enc fixN fix_fits), pNd_enc fixN fix_fits]
theorem fix_head : (encN fixN).take 4 = [181, 1, 1, 0] := by
  rw [encN_eq, List.append_assoc]
  exact List.take_left' rfl
theorem fix_body : ((encN fixN).drop 8).take 5 = [1, 2, 107, 118, 119] := by
  rw [encN_eq, List.drop_left' (by rw [List.length_append, leB_len]; rfl)]
  exact List.take_left' rfl
set_option maxHeartbeats 4000000 in
theorem l9_fixed (w : World) : Calls Try.prog 10 #[] w fun e w' => e = .returned (.bool true) ∧ Below w.heap.size w w' := by
  obtain ⟨b0, hb0⟩ : ∃ b, b = w.heap.size := ⟨_, rfl⟩
  obtain ⟨W0, hW0⟩ : ∃ V, V = w.alloc (.cells #[.string ⟨#[107]⟩, .string ⟨#[118, 119]⟩] 46) := ⟨_, rfl⟩
  have HS0 := Lib.hid (show Rw w W0 [(b0, .cells #[.string ⟨#[107]⟩, .string ⟨#[118, 119]⟩] 46)] by rw [hW0, hb0]; exact (Rw.start w).made _)
  obtain ⟨b1, hb1⟩ : ∃ b, b = W0.heap.size := ⟨_, rfl⟩
  obtain ⟨W1, hW1⟩ : ∃ V, V = W0.alloc (.cells #[.int .i64 0] 3) := ⟨_, rfl⟩
  have HS1 := Lib.hid (show Rw w W1 [(b1, .cells #[.int .i64 0] 3), (b0, .cells #[.string ⟨#[107]⟩, .string ⟨#[118, 119]⟩] 46)] by rw [hW1, hb1]; exact HS0.out.made _)
  obtain ⟨q, hq⟩ : ∃ b, b = W1.heap.size := ⟨_, rfl⟩
  obtain ⟨W2, hW2⟩ : ∃ V, V = W1.alloc (ndRow 1 (.slice (some ⟨b0, 0, none⟩) 1 1) (.slice (some ⟨b1, 0, none⟩) 1 1) nilV nilV 0 ⟨#[]⟩) := ⟨_, rfl⟩
  have HS2 := Lib.hid (show Rw w W2 [(q, ndRow 1 (.slice (some ⟨b0, 0, none⟩) 1 1) (.slice (some ⟨b1, 0, none⟩) 1 1) nilV nilV 0 ⟨#[]⟩), (b1, .cells #[.int .i64 0] 3), (b0, .cells #[.string ⟨#[107]⟩, .string ⟨#[118, 119]⟩] 46)] by rw [hW2, hq]; exact HS1.out.made _)
  have HN2 := Lib.hid (show NdR W2 fixN (.slice (some ⟨b0, 0, none⟩) 1 1) (.slice (some ⟨b1, 0, none⟩) 1 1) nilV nilV from
    ⟨⟨_, _, rfl, rfl, Nat.le_refl _, by decide, fun _ => ⟨b0, 0, rfl, fun j hj => by
      obtain rfl : j = 0 := by have : j < 1 := hj; omega
      exact ⟨cell_of_row _ b0 0 _ _ _ (HS2.out.get 2 rfl), cell_of_row _ b0 1 _ _ _ (HS2.out.get 2 rfl)⟩⟩⟩,
     ⟨_, _, rfl, rfl, Nat.le_refl _, by decide, fun _ => ⟨b1, 0, rfl, by simp, fun j hj => by
      obtain rfl : j = 0 := by have : j < 1 := hj; omega
      exact cell_of_row _ b1 0 _ _ _ (HS2.out.get 1 rfl)⟩⟩, ⟨none, 0, rfl, RdT.nil _⟩, ⟨none, 0, rfl, RdI.nil _ _⟩⟩)
  have hb1' : b1 = w.heap.size + 1 := by rw [hb1, hW0]; simp
  have hq' : q = w.heap.size + 1 + 1 := by rw [hq, hW1, World.size_alloc, ← hb1, hb1']
  rw [hW1, hW0] at hW2
  unfold ndRow nilV at hW2
  clear hW0 hW1 hb1 hq
  have HE := Lib.hid (pg_Encode fixN _ _ _ _ W2 HN2.out fix_fits)
  unfold ndC fixN nilV at HE
  dsimp only at HE
  go_enter Try.func10, Try.ntmps10
  go_wp2_with fail
  (try rw [← hq'])
  (try rw [← hb1'])
  (try rw [← hb0])
  rw [← hW2]
  clear hW2 hq' hb1' hb0
  refine HE.out.mono ?_
  rintro e W3 ⟨g, rfl, hg, hB, hb⟩
  have HM3 := Lib.hid (show BkAt W3 g (encN fixN) 8 from hB)
  have HS3 := Lib.hid (HS2.out.below hb)
  have HN3 := Lib.hid (HN2.out.ext hb)
  have HDC := Lib.hid (pg_Decode (some ⟨g, 0, none⟩) 512 (encN fixN) W3 HM3.out.rd)
  clear hB hb hg HE
  go_wp2_with fail
  refine HDC.out.mono ?_
  rintro e W4 ⟨vE, vC, vK, vD, rfl, hNO, hb⟩
  rw [fix_dec] at hNO
  obtain ⟨AE, cE, rfl⟩ : ∃ A c, vE = .slice A 1 c := hNO.e.slice
  obtain ⟨AC, cC, rfl⟩ : ∃ A c, vC = .slice A 1 c := hNO.c.slice
  obtain ⟨AK, cK, rfl⟩ : ∃ A c, vK = .slice A 0 c := hNO.k.slice
  obtain ⟨AD, cD, rfl⟩ : ∃ A c, vD = .slice A 0 c := hNO.d.slice
  have HM4 := Lib.hid (HM3.out.ext hb)
  have HS4 := Lib.hid (HS3.out.below hb)
  have HN4 := Lib.hid (HN3.out.ext hb)
  have HV4 := Lib.hid (hNO.rd (by decide) (by decide) (by decide) (by decide))
  rw [fix_dec]
  unfold ndC fixN
  dsimp only
  clear hNO hb HDC
  obtain ⟨m, hm⟩ : ∃ m, m = W4.heap.size := ⟨_, rfl⟩
  obtain ⟨W5, hW5⟩ : ∃ V, V = W4.alloc (ndRow 1 (.slice AE 1 cE) (.slice AC 1 cC) (.slice AK 0 cK) (.slice AD 0 cD) 0 noS) := ⟨_, rfl⟩
  have HB45 := Lib.hid (show Below W4.heap.size W4 W5 by rw [hW5]; exact (Below.refl _ _).alloc (Nat.le_refl _) _)
  have HS5 := Lib.hid (show Rw w W5 ((m, ndRow 1 (.slice AE 1 cE) (.slice AC 1 cC) (.slice AK 0 cK) (.slice AD 0 cD) 0 noS) :: _) by rw [hW5, hm]; exact HS4.out.made _)
  have HM5 := Lib.hid (HM4.out.ext HB45.out)
  have HN5 := Lib.hid (HN4.out.ext HB45.out)
  have HV5 := Lib.hid (HV4.out.ext HB45.out)
  have HSN := Lib.hid (l9_sameNode fixN fixN _ _ _ _ _ _ _ _ W5 HV5.out HN5.out)
  rw [decide_eq_true rfl] at HSN
  unfold ndC fixN at HSN
  dsimp only at HSN
  have e4 : (convert 31 9 (.slice (some ⟨g, 0, none⟩) 4 512)).run Try.prog W5 = .ok (.string ⟨#[181, 1, 1, 0]⟩) W5 := by
    have h9 := (HM5.out.rd.take 4 (by decide)).str
    rw [fix_head] at h9
    exact h9
  have e5 : (convert 31 9 (.slice (some ⟨g, 8, none⟩) 5 504)).run Try.prog W5 = .ok (.string ⟨#[1, 2, 107, 118, 119]⟩) W5 := by
    have h9 := (HM5.out.from 8 5 (by decide)).str
    unfold seg at h9
    rw [fix_body] at h9
    exact h9
  have c7 := cell7 (n := fixN) (vE := .slice AE 1 cE) (vC := .slice AC 1 cC) (vK := .slice AK 0 cK) (vD := .slice AD 0 cD) (HS5.out.get 0 rfl)
  have d7 := cell7 (n := fixN) (vE := .slice (some ⟨b0, 0, none⟩) 1 1) (vC := .slice (some ⟨b1, 0, none⟩) 1 1) (vK := nilV) (vD := nilV) (HS5.out.get 1 rfl)
  unfold fixN at c7 d7
  unfold nilV at d7
  dsimp only at c7 d7
  unfold ndRow at hW5
  unfold nilV at HSN
  go_upto_region 4 with fail
  (try rw [← hm])
  rw [← hW5]
  clear hW5 hm
  go_wp2_with fail
  clear e4 e5 c7 d7
  refine HSN.out.mono ?_
  rintro e W6 ⟨rfl, hb⟩
  have HS6 := Lib.hid (HS5.out.below hb)
  have HN6 := Lib.hid (HN5.out.ext hb)
  have HSZ := Lib.hid (pg_Size fixN _ _ _ _ W6 HN6.out)
  rw [fix_size] at HSZ
  unfold ndC fixN nilV at HSZ
  dsimp only at HSZ
  have d7 := cell7 (n := fixN) (vE := .slice (some ⟨b0, 0, none⟩) 1 1) (vC := .slice (some ⟨b1, 0, none⟩) 1 1) (vK := nilV) (vD := nilV) (HS6.out.get 1 rfl)
  unfold fixN nilV at d7
  dsimp only at d7
  clear hb HSN
  go_wp2_with fail
  clear d7
  refine HSZ.out.mono ?_
  rintro e W7 ⟨rfl, hb⟩
  have HS7 := Lib.hid (HS6.out.below hb)
  have HN7 := Lib.hid (HN6.out.ext hb)
  have HFT := Lib.hid (pg_Fits fixN _ _ _ _ W7 HN7.out)
  rw [fix_fits] at HFT
  unfold ndC fixN nilV at HFT
  dsimp only at HFT
  have d7 := cell7 (n := fixN) (vE := .slice (some ⟨b0, 0, none⟩) 1 1) (vC := .slice (some ⟨b1, 0, none⟩) 1 1) (vK := nilV) (vD := nilV) (HS7.out.get 1 rfl)
  unfold fixN nilV at d7
  dsimp only at d7
  clear hb HSZ
  go_wp2_with fail
  clear d7
  refine HFT.out.mono ?_
  rintro e W8 ⟨rfl, hb⟩
  have HS8 := Lib.hid (HS7.out.below hb)
  clear hb HFT
  go_wp2
  go_ret
  exact ⟨rfl, HS8.out.bl⟩
end Go.Proofs.Ytlandlgjhnnaiaa
