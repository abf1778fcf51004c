/- SpacePlays: the walk. -/
import Derived.Test.YtodondpggkohjaaSpQ8
import Derived.Test.YtodondpggkohjaaSpM
import Derived.Deep.DeepCutAuto
import Derived.Deep.RegionLaw
set_option linter.unusedVariables false
set_option linter.unusedSimpArgs false
set_option maxRecDepth 100000
namespace Go.Proofs.Ytodondpggkohjaa
open Go.RowKit
set_option maxHeartbeats 16000000 in
theorem walk_SpacePlays (x1 y1 : Int) (A1 : Option Addr) (n1 c1 : Nat) (l1 : List Int) (x2 y2 : Int) (A2 : Option Addr) (n2 c2 : Nat) (l2 : List Int) (A : Option Addr) (n c : Nat) (l : List OpV) (w : World) (hr1 : RdI [] w A1 n1 c1 l1) (hz1 : n1 ≤ 17592186044415) (hr2 : RdI [] w A2 n2 c2 l2) (hz2 : n2 ≤ 17592186044415) (hr : RdO w A n c l) :
    Calls Try.prog 4 #[.agg #[.int .i64 x1, .int .i64 y1, .slice A1 n1 c1], .agg #[.int .i64 x2, .int .i64 y2, .slice A2 n2 c2], .slice A n c] w fun e w' => e = .returned (.bool true) ∧ Below w.heap.size w w' := by
  have HR1 := Lib.hid hr1
  have HR2 := Lib.hid hr2
  have HR := Lib.hid hr
  have hmx := hr.max
  have HL1 := Lib.hid hr1.len
  have HL2 := Lib.hid hr2.len
  clear hr1 hr2 hr
  obtain ⟨qa, hqa⟩ : ∃ q, q = w.heap.size := ⟨_, rfl⟩
  obtain ⟨W0, hW0⟩ : ∃ W, W = (w.alloc (.cells #[.int .i64 x1, .int .i64 y1, .slice A1 n1 c1] 36)).alloc (.cells #[.int .i64 x2, .int .i64 y2, .slice A2 n2 c2] 36) := ⟨_, rfl⟩
  have HBW0 := Lib.hid (show Below w.heap.size w W0 by rw [hW0]; exact ((Below.refl _ w).alloc (Nat.le_refl _) _).alloc (by rw [World.size_alloc]; omega) _)
  have HX1 := Lib.hid (show W0.heap[qa]? = some (.cells #[.int .i64 x1, .int .i64 y1, .slice A1 n1 c1] 36 (0, 0)) by rw [hW0, hqa]; exact heap_alloc2_old w _ _)
  have HX2 := Lib.hid (show W0.heap[qa + 1]? = some (.cells #[.int .i64 x2, .int .i64 y2, .slice A2 n2 c2] 36 (0, 0)) by rw [hW0, hqa, ← World.size_alloc w (.cells #[.int .i64 x1, .int .i64 y1, .slice A1 n1 c1] 36)]; exact heap_alloc_new _ _)
  have HQA := Lib.hid hqa
  have HW0 := Lib.hid hW0
  clear hqa hW0
  go_enter Try.func4, Try.ntmps4
  go_upto_region 1 with (fail)
  rw [← HW0.out, ← HQA.out]
  have d0 := op3 HX1.out
  have HY1 := Lib.hid (HR1.out.ext HBW0.out)
  go_cut [7, 8] (fun v7 v8 wx => Below W0.heap.size W0 wx ∧ (SzOk x1 y1 l1 n1 → ∃ b, (v7 = .pointer (some ⟨b + 1, 0, none⟩) ∧ v8 = .int .i64 0) ∧ IsSp wx (b + 1) b y1.toNat (nk l1 y1.toNat (x1.toNat - y1.toNat) n1) ∧ W0.heap.size ≤ b) ∧ (¬ SzOk x1 y1 l1 n1 → v7 = .pointer none ∧ v8 = .int .i64 1))
  case first =>
    have hds : ∀ W : World, Below W0.heap.size W0 W → W.cell? ⟨qa, 0, none⟩ = some (.int .i64 x1) ∧ W.cell? ⟨qa, 1, none⟩ = some (.int .i64 y1) ∧ W.cell? ⟨qa, 2, none⟩ = some (.slice A1 n1 c1) := fun W hB => op3 ((hB.block _ (lt_of_block HX1.out)).trans HX1.out)
    have HDS := Lib.hid hds
    clear hds
    go_region_law (first | (refine step_appI (D := []) (w0 := W0) W0.heap.size (OwnI.nil _ _) (by exact HY1.out.only ((Only.refl [] W0).drew) (by simp)) (by exact (Below.refl _ W0).drew) (by exact Nat.le_refl _) (by omega) _ _ rfl rfl rfl rfl ?_; intro v3 w3 hO3 hB3 hG3 hat3; clear hG3 hat3; obtain ⟨A3, c3, rfl⟩ := hO3.slice; rw [Nat.zero_add, List.nil_append] at hO3; have HO3 := Lib.hid hO3; have HB3 := Lib.hid hB3; have e3 := HDS.out w3 hB3; clear hO3 hB3) | (go_simp; go_at_call 11; refine (sp_NewG x1 y1 _ n1 _ l1 w3 (HO3.out.rdA [] (by omega) (by simp))).mono ?_; rintro e w4 ⟨pa, ea, rfl, hB4, hok4, hno4⟩; have HB4 := Lib.hid (HB3.out.trans (hB4.mono HB3.out.size)); have HOK4 := Lib.hid hok4; have HNO4 := Lib.hid hno4; clear hB4 hok4 hno4))
    all_goals (go_wp2_with fail; go_meet; exact ⟨HB4.out, fun hs => ⟨w3.heap.size, ⟨by rw [(HOK4.out hs).1.1], by rw [(HOK4.out hs).1.2]⟩, (HOK4.out hs).2, HB3.out.size⟩, fun hs => ⟨by rw [(HNO4.out hs).1], by rw [(HNO4.out hs).2]⟩⟩)
  case rest =>
    obtain ⟨W1, hWc⟩ : ∃ W, W = wc := ⟨_, rfl⟩
    rw [← hWc] at hcut ⊢
    clear hWc wc
    obtain ⟨hBc, hok, hno⟩ := hcut
    have HOK1 := Lib.hid hok
    have HNO1 := Lib.hid hno
    have HBW1 := Lib.hid (HBW0.out.trans (hBc.mono HBW0.out.size))
    have HBB1 := Lib.hid hBc
    have d1 := op3 ((hBc.block (qa) (lt_of_block HX1.out)).trans HX1.out)
    clear hok hno hBc HY1 d0
    obtain ⟨p1, hp1⟩ : ∃ p, u7 = .pointer p := by
      by_cases hs : SzOk x1 y1 l1 n1
      · obtain ⟨b, ⟨h1, _⟩, _⟩ := HOK1.out hs; exact ⟨_, h1⟩
      · exact ⟨_, (HNO1.out hs).1⟩
    obtain ⟨e1, he1⟩ : ∃ e, u8 = .int .i64 e := by
      by_cases hs : SzOk x1 y1 l1 n1
      · obtain ⟨b, ⟨_, h1⟩, _⟩ := HOK1.out hs; exact ⟨_, h1⟩
      · exact ⟨_, (HNO1.out hs).2⟩
    subst hp1 he1
    go_wp2_with fail
    refine (rs_NewG (List.range W1.heap.size) x1 y1 A1 n1 c1 l1 W1 (HR1.out.ext HBW1.out) (by omega) (fun k hk => List.mem_range.1 hk)).mono ?_
    rintro e W2 ⟨pr1, er1, rfl, hB, hok, hno⟩
    have HBW2 := Lib.hid (HBW1.out.trans (hB.mono HBW1.out.size))
    have HBR1 := Lib.hid hB
    have HOR1 := Lib.hid hok
    have HNR1 := Lib.hid hno
    clear hB hok hno d1
    have hx2 := (HBB1.out.trans (HBR1.out.mono HBB1.out.size)).block (qa + 1) (lt_of_block HX2.out)
    have HX2b := Lib.hid (hx2.trans HX2.out)
    clear hx2 HX2
    have HX2 := HX2b
    have d0 := op3 HX2.out
    go_upto_region 3 with (fail)
    have HY2 := Lib.hid (HR2.out.ext HBW2.out)
    go_cut [11, 12] (fun v7 v8 wx => Below W2.heap.size W2 wx ∧ (SzOk x2 y2 l2 n2 → ∃ b, (v7 = .pointer (some ⟨b + 1, 0, none⟩) ∧ v8 = .int .i64 0) ∧ IsSp wx (b + 1) b y2.toNat (nk l2 y2.toNat (x2.toNat - y2.toNat) n2) ∧ W2.heap.size ≤ b) ∧ (¬ SzOk x2 y2 l2 n2 → v7 = .pointer none ∧ v8 = .int .i64 1))
    case first =>
      have hds : ∀ W : World, Below W2.heap.size W2 W → W.cell? ⟨qa + 1, 0, none⟩ = some (.int .i64 x2) ∧ W.cell? ⟨qa + 1, 1, none⟩ = some (.int .i64 y2) ∧ W.cell? ⟨qa + 1, 2, none⟩ = some (.slice A2 n2 c2) := fun W hB => op3 ((hB.block _ (lt_of_block HX2.out)).trans HX2.out)
      have HDS := Lib.hid hds
      clear hds
      go_region_law (first | (refine step_appI (D := []) (w0 := W2) W2.heap.size (OwnI.nil _ _) (by exact HY2.out.only ((Only.refl [] W2).drew) (by simp)) (by exact (Below.refl _ W2).drew) (by exact Nat.le_refl _) (by omega) _ _ rfl rfl rfl rfl ?_; intro v3 w3 hO3 hB3 hG3 hat3; clear hG3 hat3; obtain ⟨A3, c3, rfl⟩ := hO3.slice; rw [Nat.zero_add, List.nil_append] at hO3; have HO3 := Lib.hid hO3; have HB3 := Lib.hid hB3; have e3 := HDS.out w3 hB3; clear hO3 hB3) | (go_simp; go_at_call 11; refine (sp_NewG x2 y2 _ n2 _ l2 w3 (HO3.out.rdA [] (by omega) (by simp))).mono ?_; rintro e w4 ⟨pa, ea, rfl, hB4, hok4, hno4⟩; have HB4 := Lib.hid (HB3.out.trans (hB4.mono HB3.out.size)); have HOK4 := Lib.hid hok4; have HNO4 := Lib.hid hno4; clear hB4 hok4 hno4))
      all_goals (go_wp2_with fail; go_meet; exact ⟨HB4.out, fun hs => ⟨w3.heap.size, ⟨by rw [(HOK4.out hs).1.1], by rw [(HOK4.out hs).1.2]⟩, (HOK4.out hs).2, HB3.out.size⟩, fun hs => ⟨by rw [(HNO4.out hs).1], by rw [(HNO4.out hs).2]⟩⟩)
    case rest =>
      obtain ⟨W3, hWc⟩ : ∃ W, W = wc := ⟨_, rfl⟩
      rw [← hWc] at hcut ⊢
      clear hWc wc
      obtain ⟨hBc, hok, hno⟩ := hcut
      have HOK2 := Lib.hid hok
      have HNO2 := Lib.hid hno
      have HBW3 := Lib.hid (HBW2.out.trans (hBc.mono HBW2.out.size))
      have HBB2 := Lib.hid hBc
      have d2 := op3 ((hBc.block (qa + 1) (lt_of_block HX2.out)).trans HX2.out)
      clear hok hno hBc HY2 d0
      obtain ⟨p2, hp2⟩ : ∃ p, u11 = .pointer p := by
        by_cases hs : SzOk x2 y2 l2 n2
        · obtain ⟨b, ⟨h1, _⟩, _⟩ := HOK2.out hs; exact ⟨_, h1⟩
        · exact ⟨_, (HNO2.out hs).1⟩
      obtain ⟨e2, he2⟩ : ∃ e, u12 = .int .i64 e := by
        by_cases hs : SzOk x2 y2 l2 n2
        · obtain ⟨b, ⟨_, h1⟩, _⟩ := HOK2.out hs; exact ⟨_, h1⟩
        · exact ⟨_, (HNO2.out hs).2⟩
      subst hp2 he2
      go_wp2_with fail
      refine (rs_NewG (List.range W3.heap.size) x2 y2 A2 n2 c2 l2 W3 (HR2.out.ext HBW3.out) (by omega) (fun k hk => List.mem_range.1 hk)).mono ?_
      rintro e W4 ⟨pr2, er2, rfl, hB, hok, hno⟩
      have HBW4 := Lib.hid (HBW3.out.trans (hB.mono HBW3.out.size))
      have HBR2 := Lib.hid hB
      have HOR2 := Lib.hid hok
      have HNR2 := Lib.hid hno
      clear hB hok hno d2
      by_cases hs1 : SzOk x1 y1 l1 n1
      · by_cases hs2 : SzOk x2 y2 l2 n2
        · obtain ⟨b1, ⟨hp, he⟩, hI1, hb1⟩ := HOK1.out hs1
          injection hp with hp
          injection he with _ he
          subst hp he
          obtain ⟨r1, ⟨hp, he⟩, hra1, hrb1, hR1⟩ := HOR1.out hs1
          subst hp he
          obtain ⟨b2, ⟨hp, he⟩, hI2, hb2⟩ := HOK2.out hs2
          injection hp with hp
          injection he with _ he
          subst hp he
          obtain ⟨r2, ⟨hp, he⟩, hra2, hrb2, hR2⟩ := HOR2.out hs2
          subst hp he
          have h24 : Below W2.heap.size W2 W4 := HBB2.out.trans (HBR2.out.mono HBB2.out.size)
          have h14 : Below W1.heap.size W1 W4 := HBR1.out.trans (h24.mono HBR1.out.size)
          have n1' := lt_of_block hI1.st
          have n2' := lt_of_block hI2.st
          have s1 := HBR1.out.size
          have s2 := HBB2.out.size
          have s3 := HBR2.out.size
          have s0 := HBB1.out.size
          have sw := HBW0.out.size
          have HPA := Lib.hid (pr_made (D := [b1 + 1, b1, r1, b2 + 1, b2, r2]) hs1 HL1.out (hI1.ext h14) (((hR1.add (E := [b2 + 1, b2, r2]) (by intro k hk; simp only [List.mem_cons, List.not_mem_nil, or_false] at hk; omega)).ext h24).mono (by intro k hk; simp only [List.mem_cons, List.not_mem_nil, or_false, List.mem_append, List.mem_range] at hk ⊢; omega)) (by simp) (by simp) (by simp) (by intro k hk; simp only [List.mem_cons, List.not_mem_nil, or_false] at hk; omega) (by omega) (by omega))
          have HPB := Lib.hid (pr_made (D := [b1 + 1, b1, r1, b2 + 1, b2, r2]) hs2 HL2.out (hI2.ext HBR2.out) (hR2.mono (by intro k hk; simp only [List.mem_cons, List.not_mem_nil, or_false, List.mem_range] at hk ⊢; omega)) (by simp) (by simp) (by simp) (by intro k hk; simp only [List.mem_cons, List.not_mem_nil, or_false] at hk; omega) (by omega) (by omega))
          have HN4 := Lib.hid (show x1.toNat ≤ 4096 ∧ x2.toNat ≤ 4096 by have := hs1.1; have := hs2.1; omega)
          have HNU := Lib.hid (show (w.heap.size ≤ b1 ∧ w.heap.size ≤ r1 ∧ w.heap.size ≤ b2 ∧ w.heap.size ≤ r2) ∧ b1 + 1 < r1 ∧ r1 < b2 ∧ b2 + 1 < r2 by omega)
          clear n1' n2' s1 s2 s3 s0 sw hI1 hI2 hR1 hR2 h24 h14 hb1 hb2 hra1 hra2 hrb1 hrb2 hs1 hs2
          go_upto_region 10 with (fail)
          go_loopg [15, 16] n (fun k x _ wx => ∃ i : Nat, ∃ ia ib, k + i = n ∧ x = .int .i64 i ∧ Pr [b1 + 1, b1, r1, b2 + 1, b2, r2] wx (b1 + 1) b1 r1 y1.toNat x1.toNat ia ∧ Pr [b1 + 1, b1, r1, b2 + 1, b2, r2] wx (b2 + 1) b2 r2 y2.toNat x2.toNat ib ∧ Below w.heap.size w wx)
          case atStart => exact ⟨0, _, _, by omega, rfl, HPA.out, HPB.out, HBW4.out⟩
          case round =>
            obtain ⟨i, ia, ib, hk, rfl, hPA, hPB, hBw⟩ := hrel
            have HA := Lib.hid hPA
            have HB := Lib.hid hPB
            have HBW := Lib.hid hBw
            have hin0 : i ≤ n := by omega
            have HK := Lib.hid hk
            clear hPA hPB hBw hk HPA HPB
            by_cases hin : i < n
            · obtain ⟨bb, oo, rfl, hca⟩ := HR.out.at_ (by omega)
              have hii : (0 : Int) ≤ (i : Int) ∧ (i : Int) < (n : Int) := by omega
              obtain ⟨q0, q1, q2⟩ := hca i hin
              have HOKo := Lib.hid (show (l.getD i default).ok from HR.out.ok _ (by rw [List.getD_eq_getElem?_getD, List.getElem?_eq_getElem (by rw [HR.out.len]; exact hin)]; exact List.getElem_mem _))
              obtain ⟨x, hx⟩ : ∃ x, x = l.getD i default := ⟨_, rfl⟩
              rw [← hx] at q0 q1 q2 HOKo
              obtain ⟨two, kd, blk⟩ := x
              dsimp only at q0 q1 q2
              have z0 := cell_ext HBW.out q0
              have z1 := cell_ext HBW.out q1
              have z2 := cell_ext HBW.out q2
              clear hca hx q0 q1 q2
              go_upto_region 13 with (fail)
              obtain ⟨q8, hq8⟩ : ∃ q, q = wr.heap.size := ⟨_, rfl⟩
              obtain ⟨W8, hW8⟩ : ∃ W, W = wr.alloc (.cells #[.bool two, .int .i64 kd, .int .i64 blk] 42) := ⟨_, rfl⟩
              have hB8 : Below wr.heap.size wr W8 := by rw [hW8]; exact (Below.refl _ wr).alloc (Nat.le_refl _) _
              have hc8 : W8.heap[q8]? = some (.cells #[.bool two, .int .i64 kd, .int .i64 blk] 42 (0, 0)) := by rw [hW8, hq8]; exact heap_alloc_new wr _
              have HC8 := Lib.hid hc8
              have HA8 := Lib.hid (HA.out.ext hB8)
              have HB8 := Lib.hid (HB.out.ext hB8)
              have HBW8 := Lib.hid (HBW.out.trans (hB8.mono HBW.out.size))
              have HQ8 := Lib.hid (show q8 ≠ b1 + 1 ∧ q8 ≠ b1 ∧ q8 ≠ r1 ∧ q8 ≠ b2 + 1 ∧ q8 ≠ b2 ∧ q8 ≠ r2 by
                have h1 := HA.out.lt b1 HA.out.dg; have h2 := HA.out.lt (b1 + 1) HA.out.db; have h3 := HA.out.lt r1 HA.out.dr
                have h4 := HB.out.lt b2 HB.out.dg; have h5 := HB.out.lt (b2 + 1) HB.out.db; have h6 := HB.out.lt r2 HB.out.dr
                omega)
              rw [← hW8, ← hq8]
              have d8 := op3 hc8
              clear hW8 hq8 hB8 hc8 z0 z1 z2
              cases two
              · have HPL := Lib.hid (l8_plays HA8.out HN4.out.1 ⟨false, kd, blk⟩ HOKo.out)
                unfold OpV.val at HPL
                dsimp only at HPL
                go_wp2_with fail
                refine HPL.out.mono ?_
                rintro E w9 ⟨rfl, ia', hP, hO⟩
                have HP := Lib.hid hP
                have HPX := Lib.hid (HB8.out.only hO (by simp) (by have := HNU.out; simp; omega) (by have := HNU.out; simp; omega) (by have := HNU.out; simp; omega))
                have HBX := Lib.hid (HBW8.out.trans (hO.below HBW8.out.size (by have := HNU.out; intro k hk; simp only [List.mem_cons, List.not_mem_nil, or_false] at hk; omega)))
                clear hP hO d8
                go_wp2
                go_roundg (n - (i + 1))
                case measure => have := HK.out; omega
                case rel => exact ⟨i + 1, ia', ib, by omega, by go_num, HP.out, HPX.out, HBX.out⟩
              · have HPL := Lib.hid (l8_plays HB8.out HN4.out.2 ⟨true, kd, blk⟩ HOKo.out)
                unfold OpV.val at HPL
                dsimp only at HPL
                go_wp2_with fail
                refine HPL.out.mono ?_
                rintro E w9 ⟨rfl, ib', hP, hO⟩
                have HP := Lib.hid hP
                have HPX := Lib.hid (HA8.out.only hO (by simp) (by have := HNU.out; simp; omega) (by have := HNU.out; simp; omega) (by have := HNU.out; simp; omega))
                have HBX := Lib.hid (HBW8.out.trans (hO.below HBW8.out.size (by have := HNU.out; intro k hk; simp only [List.mem_cons, List.not_mem_nil, or_false] at hk; omega)))
                clear d8
                have d8 := op3 ((hO.blk q8 (lt_of_block HC8.out) (by have := HQ8.out; simp; omega)).trans HC8.out)
                clear hP hO
                go_wp2
                go_roundg (n - (i + 1))
                case measure => have := HK.out; omega
                case rel => exact ⟨i + 1, ia, ib', by omega, by go_num, HPX.out, HP.out, HBX.out⟩
            · obtain rfl : i = n := by omega
              have HPL := Lib.hid (l8_plays HA.out HN4.out.1 ⟨false, 5, 0⟩ (by show -9223372036854775808 ≤ (0 : Int) ∧ (0 : Int) < 9223372036854775808; omega))
              unfold OpV.val at HPL
              dsimp only at HPL
              go_wp2_with fail
              refine HPL.out.mono ?_
              rintro E w9 ⟨rfl, ia', hP, hO⟩
              have HPX := Lib.hid (HB.out.only hO (by simp) (by have := HNU.out; simp; omega) (by have := HNU.out; simp; omega) (by have := HNU.out; simp; omega))
              have HBX := Lib.hid (HBW.out.trans (hO.below HBW.out.size (by have := HNU.out; intro k hk; simp only [List.mem_cons, List.not_mem_nil, or_false] at hk; omega)))
              have HPM := Lib.hid (l8_plays HPX.out HN4.out.2 ⟨false, 5, 0⟩ (by show -9223372036854775808 ≤ (0 : Int) ∧ (0 : Int) < 9223372036854775808; omega))
              unfold OpV.val at HPM
              dsimp only at HPM
              clear hP hO
              go_wp2_with fail
              refine HPM.out.mono ?_
              rintro E w10 ⟨rfl, ib', hP, hO⟩
              have HBY := Lib.hid (HBX.out.trans (hO.below HBX.out.size (by have := HNU.out; intro k hk; simp only [List.mem_cons, List.not_mem_nil, or_false] at hk; omega)))
              clear hP hO
              go_wp2
              go_ret
              exact ⟨rfl, HBY.out⟩
        · obtain ⟨b1, ⟨hp, he⟩, hI1, hb1⟩ := HOK1.out hs1
          injection hp with hp
          injection he with _ he
          subst hp he
          obtain ⟨r1, ⟨hp, he⟩, hra1, hrb1, hR1⟩ := HOR1.out hs1
          subst hp he
          obtain ⟨hp, he⟩ := HNO2.out hs2
          injection hp with hp
          injection he with _ he
          subst hp he
          obtain ⟨hp, he⟩ := HNR2.out hs2
          subst hp he
          go_wp2
          go_ret
          exact ⟨rfl, HBW4.out⟩
      · by_cases hs2 : SzOk x2 y2 l2 n2
        · obtain ⟨hp, he⟩ := HNO1.out hs1
          injection hp with hp
          injection he with _ he
          subst hp he
          obtain ⟨hp, he⟩ := HNR1.out hs1
          subst hp he
          obtain ⟨b2, ⟨hp, he⟩, hI2, hb2⟩ := HOK2.out hs2
          injection hp with hp
          injection he with _ he
          subst hp he
          obtain ⟨r2, ⟨hp, he⟩, hra2, hrb2, hR2⟩ := HOR2.out hs2
          subst hp he
          go_wp2
          go_ret
          exact ⟨rfl, HBW4.out⟩
        · obtain ⟨hp, he⟩ := HNO1.out hs1
          injection hp with hp
          injection he with _ he
          subst hp he
          obtain ⟨hp, he⟩ := HNR1.out hs1
          subst hp he
          obtain ⟨hp, he⟩ := HNO2.out hs2
          injection hp with hp
          injection he with _ he
          subst hp he
          obtain ⟨hp, he⟩ := HNR2.out hs2
          subst hp he
          go_wp2
          go_ret
          exact ⟨rfl, HBW4.out⟩
end Go.Proofs.Ytodondpggkohjaa
