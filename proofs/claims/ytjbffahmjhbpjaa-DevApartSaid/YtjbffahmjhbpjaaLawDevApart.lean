/- The walk of DevApart. -/
import Derived.Test.YtjbffahmjhbpjaaDvp1
set_option linter.unusedVariables false
set_option linter.unusedSimpArgs false
set_option maxRecDepth 100000
namespace Go.Proofs.Ytjbffahmjhbpjaa
open Go.RowKit
theorem ap_L (c : UInt8) : (List.replicate 512 c ++ [171, 172]).take 512 = apF c ∧ (List.replicate 512 c ++ [171, 172]).getD 512 0 = 171 ∧ (List.replicate 512 c ++ [171, 172]).getD 513 0 = 172 :=
  ⟨by rw [List.take_left' (by simp)]; rfl, by rw [List.getD_eq_getElem?_getD, List.getElem?_append_right (by simp)]; simp, by rw [List.getD_eq_getElem?_getD, List.getElem?_append_right (by simp)]; simp⟩
theorem Own.lit {w : World} {base n : Nat} (l : List UInt8) (hl : l.length = n) (hm : n ≤ 140737490452480) (hb : base ≤ w.heap.size) : Own (w.alloc (.cells (bv l).toArray 5)) base (.slice (some ⟨w.heap.size, 0, none⟩) n n) n l :=
  Own.row hb hl hm (heap_alloc_new w _)
theorem Rd.lit2 (w : World) (o : Obj) (l : List UInt8) (n : Nat) (hn : l.length = n) (hm : n ≤ 140737490452480) : Rd ((w.alloc o).alloc (.cells (bv l).toArray 5)) (some ⟨w.heap.size + 1, 0, none⟩) n n l := by
  have h := Rd.lit (w.alloc o) l n hn hm
  rwa [show (w.alloc o).heap.size = w.heap.size + 1 by simp] at h
set_option maxHeartbeats 4000000 in
theorem walk_DevApart (fill at_ : Int) (w : World) (hf : 0 ≤ fill ∧ fill < 256) (ha : -9223372036854775808 ≤ at_ ∧ at_ < 9223372036854775808) :
    Calls Try.prog 4 #[.int .u8 fill, .int .i64 at_] w fun e w' => e = .returned (.bool true) ∧ Below w.heap.size w w' := by
  obtain ⟨c, rfl⟩ : ∃ c : UInt8, fill = (c.toNat : Int) := ⟨UInt8.ofNat fill.toNat, by rw [UInt8.toNat_ofNat']; omega⟩
  obtain ⟨k, hk, hka, hkm⟩ := i64_and63 at_
  obtain ⟨k2, hk2, hk2a, hk2m⟩ := i64_and63 ((k : Int) + 1)
  have HNE := Lib.hid (show k ≠ k2 by omega)
  have hkk : (0 : Int) ≤ (k : Int) ∧ (k : Int) < 64 := by omega
  clear hf ha hkm hk2m
  have hp1 : IntKind.u8.wrap ((c.toNat : Int) + 1) = ((c + 1).toNat : Int) := u8_plus c 1 (by omega)
  have hp2 : IntKind.u8.wrap ((c.toNat : Int) + 2) = ((c + 2).toNat : Int) := u8_plus c 2 (by omega)
  have hp3 : IntKind.u8.wrap ((c.toNat : Int) + 3) = ((c + 3).toNat : Int) := u8_plus c 3 (by omega)
  have hp4 : IntKind.u8.wrap ((c.toNat : Int) + 4) = ((c + 4).toNat : Int) := u8_plus c 4 (by omega)
  go_enter Try.func4, Try.ntmps4
  go_wp2_with fail
  refine (st_lives w).mono ?_
  rintro e w1 ⟨b, g, vc, rfl, hT⟩
  have HT1 := Lib.hid hT
  clear hT
  go_wp2_with fail
  refine (l6_full c w1).mono ?_
  rintro e w2 ⟨u2, rfl, kf, rfl, hO2, hB2⟩
  have HO2 := Lib.hid hO2
  have HB2 := Lib.hid hB2
  clear hO2 hB2
  go_wp2_with (at_builtin; refine wp_app (w0 := w1) w1.heap.size (HO2.out.alloc _) (Rd.lit w2 [171, 172] 2 rfl (by decide)) (HB2.out.alloc HB2.out.size _) ?hq1 (by omega) _ _ rfl rfl rfl rfl ?_; (case hq1 => (have := HB2.out.size; simp; omega)); intro v3 w3 hO3 hB3 hG3 hA3; have HO3 := Lib.hid hO3; have HB3 := Lib.hid hB3; clear hO3 hB3 hG3 hA3)
  obtain ⟨L, hL⟩ : ∃ L, L = List.replicate 512 c ++ [171, 172] := ⟨_, rfl⟩
  obtain ⟨hLt, hL0, hL1⟩ := ap_L c
  rw [← hL] at HO3 hLt hL0 hL1
  obtain ⟨kr, cr, or, rfl, hrow, hT3⟩ := HT1.out.newB HO3.out HB3.out (by omega)
  have hcr := hrow.cap
  have HR3 := Lib.hid hrow
  have HT3 := Lib.hid hT3
  have HLt := Lib.hid hLt
  have cellR : ∀ (W : World) (v D R), St w W b g v D ((kr, or) :: R) → W.cell? ⟨kr, 512, none⟩ = some (.int .u8 171) ∧ W.cell? ⟨kr, 513, none⟩ = some (.int .u8 172) := fun W v D R h => by
    have h1 := h.cell 0 rfl HR3.out 512 (by omega)
    have h2 := h.cell 0 rfl HR3.out 513 (by omega)
    rw [hL0] at h1
    rw [hL1] at h2
    exact ⟨h1, h2⟩
  have r0 := cellR _ _ _ _ HT3.out
  have HCR := Lib.hid cellR
  have HW3 := Lib.hid (st_Write 0 k 512 (HT3.out.drewN 1) rfl HR3.out (by omega) (by decide) (by decide) (by decide) (by decide))
  rw [hLt, ap_wr c k hk] at HW3
  clear cellR hL hLt hL0 hL1 hrow hT3
  have hq512 : (512 : Int) ≤ (cr : Int) ∧ 512 ≤ cr := by omega
  go_region_held3 (fun w' => w'.cell? ⟨kr, 512, none⟩ = some (.int .u8 171) ∧ w'.cell? ⟨kr, 513, none⟩ = some (.int .u8 172))
    (first | exact r5 | exact r4 | exact r0)
    (first | (go_at_call 17; refine (l6_same (some ⟨kr, 0, none⟩) (some ⟨k5, 0, none⟩) 512 cr 512 512 (apF c) (apF c) _ ?hq1 ?hq2).mono ?_; (case hq1 => (have h9 := (HT5.out.rd 1 rfl HR3.out (by omega)).take 512 (by omega); rwa [HLt.out] at h9)); (case hq2 => exact HT5.out.rd 0 rfl HR5.out (by omega)); rintro e w6 ⟨rfl, rfl⟩; rw [decide_eq_true rfl])
           | (go_at_call 15; refine (st_full c HT4.out).mono ?_; rintro e w5 ⟨k5, o5, rfl, hr5, hT5⟩; have HR5 := Lib.hid hr5; have HT5 := Lib.hid hT5; have r5 := HCR.out _ _ _ _ (hT5.sub (List.sublist_cons_self _ _)); clear hT5 hr5)
           | (go_at_call 16; refine HW3.out.mono ?_; rintro e w4 ⟨rfl, vc4, hT4⟩; have HT4 := Lib.hid hT4; have r4 := HCR.out _ _ _ _ hT4; clear hT4))
  rename_i hHeld
  clear hHeld r0 r4 r5 HW3 HCR
  have HT6 := Lib.hid (HT5.out.sub (List.sublist_cons_self _ _))
  have HOe := Lib.hid ((Own.lit (w := w6) (base := w6.heap.size) (n := 2) [c, c] rfl (by omega) (Nat.le_refl _)).alloc (.cells (bv [173]).toArray 5))
  have HRe := Lib.hid (Rd.lit2 w6 (.cells (bv [c, c]).toArray 5) [173] 1 rfl (by omega))
  have HBe := Lib.hid (((Below.refl _ w6).alloc (Nat.le_refl _) (.cells (bv [c, c]).toArray 5)).alloc (by simp) (.cells (bv [173]).toArray 5))
  go_wp2_with (at_builtin; refine wp_app (w0 := w6) w6.heap.size HOe.out HRe.out HBe.out (by simp; omega) (by omega) _ _ rfl rfl rfl rfl ?_; intro v7 w7 hO7 hB7 hG7 hA7; have HO7 := Lib.hid hO7; have HB7 := Lib.hid hB7; clear hO7 hB7 hG7 hA7)
  obtain ⟨ke, ce, oe, rfl, hrow, hT7⟩ := HT6.out.newB HO7.out HB7.out (by omega)
  have hce := hrow.cap
  have HR7 := Lib.hid hrow
  have HE7 := Lib.hid (st_Edit 0 k2 510 2 hT7 rfl hrow (by omega) (by omega) (by omega))
  rw [show ([c, c] ++ [173] : List UInt8).take 2 = [c, c] from rfl, ap_ed c k k2 hk2] at HE7
  have hq2 : (2 : Int) ≤ (ce : Int) ∧ 2 ≤ ce := by omega
  clear hrow hT7 HOe HRe HBe
  go_wp2_with fail
  refine HE7.out.mono ?_
  rintro e w8 ⟨rfl, hT8⟩
  have e2 : w8.cell? ⟨ke, 2, none⟩ = some (.int .u8 173) := hT8.cell 0 rfl HR7.out 2 (by omega)
  have e0 : w8.cell? ⟨ke, 0, none⟩ = some (.int .u8 (c.toNat : Int)) := hT8.cell 0 rfl HR7.out 0 (by omega)
  have HT8 := Lib.hid hT8
  clear hT8 HE7
  go_wp2_with fail
  clear e2 e0
  go_loopw [8] (fun x wx => ∃ j : Nat, ∃ o' L', j ≤ 512 ∧ x = .int .i64 j ∧ RowB o' 514 cr L' ∧ St w wx b g vc4 (apD2 c k k2 0) [(ke, oe), (kr, o')]) (fun x _ => 512 - (intOf x).toNat)
  case atStart => exact ⟨0, or, L, by omega, rfl, HR3.out, HT8.out⟩
  case round =>
    obtain ⟨j, o', L', hj, rfl, hr, hT⟩ := hrel
    have HR := Lib.hid hr
    have HT := Lib.hid hT
    by_cases hj2 : j < 512
    · have hcell := hT.cell 1 rfl hr j (by omega)
      have hfree := hr.free (hT.get 1 rfl) j
      obtain ⟨o2, ho2, hr2⟩ := hr.store (hT.get 1 rfl) j (c + 1)
      have HN := Lib.hid (And.intro hr2 (hT.store 1 j _ rfl ho2))
      generalize L'.getD j 0 = y at hcell
      clear hr hT ho2 hr2
      go_wp2
      go_roundw
      case rel => exact ⟨j + 1, o2, _, by omega, by go_num, HN.out.1, HN.out.2⟩
      case measure => simp [intOf]; omega
    · obtain rfl : j = 512 := by omega
      have hcell := hT.cell 0 rfl HR7.out 0 (by omega)
      have hfree := HR7.out.free (hT.get 0 rfl) 0
      obtain ⟨o9, ho9, hr9⟩ := HR7.out.store (hT.get 0 rfl) 0 (c + 1)
      have HT9 := Lib.hid (hT.store 0 0 _ rfl ho9)
      clear hr hT ho9
      go_wp2_with fail
      refine (ap_Read2 (rd := 0) (by omega) hk HT9.out).mono ?_
      rintro e w10 ⟨ja, oa, rfl, hra, hT10⟩
      have HRa := Lib.hid hra
      have HT10 := Lib.hid hT10
      clear hra hT10 hcell hfree
      go_wp2_with fail
      refine (ap_Read2 (rd := 1) (by omega) hk HT10.out).mono ?_
      rintro e w11 ⟨jb, ob, rfl, hrb, hT11⟩
      have HRb := Lib.hid hrb
      have HT11 := Lib.hid hT11
      clear hrb hT11
      go_wp2_with fail
      refine (ap_Pend2 HT11.out).mono ?_
      rintro e w12 ⟨jp, cp, op, rfl, hrp, hT12⟩
      have HRp := Lib.hid hrp
      have HT12 := Lib.hid hT12.back
      clear hrp hT12
      go_wp2_with fail
      refine (ap_Pend2 HT12.out).mono ?_
      rintro e w13 ⟨jq, cq, oq, rfl, hrq, hT13⟩
      have HRq := Lib.hid hrq
      have HT13 := Lib.hid hT13
      clear hrq hT13
      go_wp2_with fail
      go_loopw [15] (fun x wx => ∃ j : Nat, ∃ o2, j ≤ 512 ∧ x = .int .i64 j ∧ RowB o2 512 512 (List.replicate j (c + 2) ++ (apF c).drop j) ∧ St w wx b g vc4 (apD2 c k k2 2) [(jq, oq), (jb, ob), (ja, o2), (ke, o9), (kr, o'), (jp, op)]) (fun x _ => 512 - (intOf x).toNat)
      case atStart => exact ⟨0, oa, by omega, rfl, HRa.out, HT13.out⟩
      case round =>
        obtain ⟨j, o2, hj, rfl, hr, hT⟩ := hrel
        have HR2 := Lib.hid hr
        have HT2 := Lib.hid hT
        by_cases hj2 : j < 512
        · have hcell := hT.cell 2 rfl hr j (by omega)
          have hfree := hr.free (hT.get 2 rfl) j
          obtain ⟨o3, ho3, hr3⟩ := hr.store (hT.get 2 rfl) j (c + 2)
          rw [fillO_step (apF c) j (c + 2) (by rw [apF_len]; exact hj2)] at hr3
          have HN := Lib.hid (And.intro hr3 (hT.store 2 j _ rfl ho3))
          generalize (List.replicate j (c + 2) ++ (apF c).drop j).getD j 0 = y at hcell
          clear hr hT ho3 hr3
          go_wp2
          go_roundw
          case rel => exact ⟨j + 1, o3, by omega, by go_num, HN.out.1, HN.out.2⟩
          case measure => simp [intOf]; omega
        · obtain rfl : j = 512 := by omega
          rw [fillO_end _ _ _ (apF_len c)] at hr
          have HRa2 := Lib.hid hr
          have hcell : wr.cell? ⟨jp, 0, none⟩ = some (.int .i64 (k : Int)) := RowT.cell HRp.out (hT.get 5 rfl) 0 (by omega)
          have hfree := RowT.free HRp.out (hT.get 5 rfl) 0
          obtain ⟨op2, hop2, hrp2⟩ := RowN.store HRp.out (hT.get 5 rfl) 0 99
          have HRp2 := Lib.hid (show RowN op2 1 cp [99] from hrp2)
          have HT26 := Lib.hid (hT.store 5 0 _ rfl hop2)
          have HOg := Lib.hid ((hr.own (HT26.out.get 2 rfl)).alloc (.cells (bv [1]).toArray 5))
          have HRg := Lib.hid (show Rd ((wr.setCell ⟨jp, 0, none⟩ (.int .i64 99)).alloc (.cells (bv [1]).toArray 5)) (some ⟨wr.heap.size, 0, none⟩) 1 1 [1] from by
            have h9 := Rd.lit (wr.setCell ⟨jp, 0, none⟩ (.int .i64 99)) [1] 1 rfl (by omega)
            rwa [show (wr.setCell ⟨jp, 0, none⟩ (.int .i64 99)).heap.size = wr.heap.size by simp] at h9)
          clear hr hT hop2 hrp2
          go_upto_region 28 with (at_builtin; refine wp_app_keep (w0 := (wr.setCell ⟨jp, 0, none⟩ (.int .i64 99)).alloc (.cells (bv [1]).toArray 5)) 0 HOg.out HRg.out (Below.refl _ _) (Nat.zero_le _) (by omega) (by omega) _ _ rfl rfl rfl rfl ?_; intro v27 w27 hO27 hO27a hB27 hG27; have HO27 := Lib.hid hO27; have HO27a := Lib.hid hO27a; have HG27 := Lib.hid hG27; clear hO27 hO27a hB27 hG27)
          clear hcell hfree
          obtain ⟨Ag, cg, oa2, rfl, hra2, hT27⟩ := (HT26.out.alloc _).appK (i := 2) rfl HO27.out (by omega) HO27a.out (by omega) HG27.out
          have HRa3 := Lib.hid hra2
          have HT27 := Lib.hid hT27
          clear hra2 hT27
          go_wp2_with (at_builtin; refine wp_appI1_keep 99 98 (HT27.out.get 5 rfl) HRp2.out _ _ rfl rfl rfl rfl ?_; intro w28 jh ch oh op3 hoh hrh hop3 hrp3 hon hch; have HH28 := Lib.hid (And.intro hoh (And.intro hrh (And.intro hop3 (And.intro hrp3 (And.intro hon hch))))); clear hoh hrh hop3 hrp3 hon hch)
          obtain ⟨hoh, hrh, hop3, hrp3, hon, hch⟩ := HH28.out
          obtain ⟨Rh, hT28, hmh, hmp⟩ := St.growH (R0 := [(jq, oq), (jb, ob), (ja, oa2), (ke, o9), (kr, o')]) (HT27.out.alloc _) hon hop3 hoh hch
          have HRh := Lib.hid hrh
          have HRp3 := Lib.hid hrp3
          have HT28 := Lib.hid (show St w w28 b g vc4 (apD2 c k k2 2) ((jq, oq) :: (jb, ob) :: (ja, oa2) :: (ke, o9) :: (kr, o') :: Rh) from hT28)
          have HMH := Lib.hid hmh
          have HMP := Lib.hid hmp
          clear hoh hrh hop3 hrp3 hon hch hT28 hmh hmp HH28
          refine (ap_Pend2 HT28.out).mono ?_
          rintro e w29 ⟨jr, c29, o29, rfl, hr29, hT29⟩
          have HR29 := Lib.hid hr29
          have HT29 := Lib.hid hT29
          have g0 : w29.cell? ⟨jr, 0, none⟩ = some (.int .i64 (k : Int)) := RowT.cell hr29 (hT29.get 0 rfl) 0 (by omega)
          have g1 : w29.cell? ⟨jp, 0, none⟩ = some (.int .i64 99) := RowT.cell HRp3.out (hT29.mem (by simp [HMP.out])) 0 (by omega)
          clear hr29 hT29
          go_wp2_with fail
          refine (st_full c HT29.out).mono ?_
          rintro e w30 ⟨jf, of, rfl, hrf, hT30⟩
          have HT30 := Lib.hid hT30
          have HSM := Lib.hid (l6_same _ _ 512 512 512 512 _ _ w30 (hT30.rd 3 rfl HRb.out (by omega)) (hT30.rd 0 rfl hrf (by omega)))
          rw [decide_eq_true (show apF c = List.replicate 512 c from rfl)] at HSM
          have g2 : w30.cell? ⟨jq, 0, none⟩ = some (.int .i64 (k : Int)) := RowT.cell HRq.out (hT30.get 2 rfl) 0 (by omega)
          clear hrf hT30 g0 g1
          go_wp2_with fail
          refine HSM.out.mono ?_
          rintro e w31 ⟨rfl, rfl⟩
          go_wp2_with fail
          refine (ap_Flush2 HT30.out).mono ?_
          rintro e w33 ⟨rfl, vc5, hT33⟩
          have HT33 := Lib.hid (hT33.sub (List.sublist_cons_self _ _))
          clear hT33 g2 HSM
          go_wp2_with fail
          refine (ap_Raw5 hk hk2 HT33.out).mono ?_
          rintro e w34 ⟨jx, ox, rfl, hrx, hT34⟩
          have HRx := Lib.hid hrx
          have HT34 := Lib.hid hT34
          clear hrx hT34
          go_wp2_with fail
          refine (ap_Raw5 hk hk2 HT34.out).mono ?_
          rintro e w35 ⟨jy, oy, rfl, hry, hT35⟩
          have HRy := Lib.hid hry
          have HT35 := Lib.hid hT35
          clear hry hT35
          go_wp2_with fail
          refine (ap_Raw5z hk2 HT35.out).mono ?_
          rintro e w36 ⟨jz, oz, rfl, hrz, hT36⟩
          have HRz := Lib.hid hrz
          have HT36 := Lib.hid hT36
          clear hrz hT36
          go_wp2_with fail
          go_loopw [25] (fun x wx => ∃ j : Nat, ∃ o2, j ≤ 512 ∧ x = .int .i64 j ∧ RowB o2 512 512 (List.replicate j (c + 3) ++ (apF c).drop j) ∧ St w wx b g vc5 (apD5 c k k2 2) ((jz, oz) :: (jy, oy) :: (jx, o2) :: (jr, o29) :: (jq, oq) :: (jb, ob) :: (ja, oa2) :: (ke, o9) :: (kr, o') :: Rh)) (fun x _ => 512 - (intOf x).toNat)
          case atStart => exact ⟨0, ox, by omega, rfl, HRx.out, HT36.out⟩
          case round =>
            obtain ⟨j, o2, hj, rfl, hr, hT⟩ := hrel
            have HR2 := Lib.hid hr
            have HT2 := Lib.hid hT
            by_cases hj2 : j < 512
            · have hcell := hT.cell 2 rfl hr j (by omega)
              have hfree := hr.free (hT.get 2 rfl) j
              obtain ⟨o3, ho3, hr3⟩ := hr.store (hT.get 2 rfl) j (c + 3)
              rw [fillO_step (apF c) j (c + 3) (by rw [apF_len]; exact hj2)] at hr3
              have HN := Lib.hid (And.intro hr3 (hT.store 2 j _ rfl ho3))
              generalize (List.replicate j (c + 3) ++ (apF c).drop j).getD j 0 = y at hcell
              clear hr hT ho3 hr3
              go_wp2
              go_roundw
              case rel => exact ⟨j + 1, o3, by omega, by go_num, HN.out.1, HN.out.2⟩
              case measure => simp [intOf]; omega
            · obtain rfl : j = 512 := by omega
              rw [fillO_end _ _ _ (apF_len c)] at hr
              have HRx2 := Lib.hid hr
              have HOg := Lib.hid ((hr.own (hT.get 2 rfl)).alloc (.cells (bv [2]).toArray 5))
              have HRg := Lib.hid (Rd.lit wr [2] 1 rfl (by omega))
              clear hr hT
              go_wp2_with (at_builtin; refine wp_app_keep (w0 := wr.alloc (.cells (bv [2]).toArray 5)) 0 HOg.out HRg.out (Below.refl _ _) (Nat.zero_le _) (by omega) (by omega) _ _ rfl rfl rfl rfl ?_; intro v41 w41 hO41 hO41a hB41 hG41; have HO41 := Lib.hid hO41; have HO41a := Lib.hid hO41a; have HG41 := Lib.hid hG41; clear hO41 hO41a hB41 hG41)
              obtain ⟨Ak, ck, ox2, rfl, hrx2, hT41⟩ := (HT2.out.alloc _).appK (i := 2) rfl HO41.out (by omega) HO41a.out (by omega) HG41.out
              have HRx3 := Lib.hid hrx2
              have HT41 := Lib.hid hT41
              clear hrx2 hT41
              refine (ap_Medium5 HT41.out).mono ?_
              rintro e w42 ⟨jm, cm, om, rfl, hrm, hT42⟩
              have HRm := Lib.hid hrm
              have HT42 := Lib.hid hT42
              clear hrm hT42
              go_wp2_with fail
              refine (ap_Medium5 HT42.out).mono ?_
              rintro e w43 ⟨jn, cn, on, rfl, hrn, hT43⟩
              have HRn := Lib.hid hrn
              have HT43 := Lib.hid hT43
              clear hrn hT43
              go_wp2_with fail
              go_loopw [29] (fun x wx => ∃ j : Nat, ∃ o2, j ≤ 32768 ∧ x = .int .i64 j ∧ RowB o2 32768 cm (List.replicate j (c + 4) ++ (apM5 c k k2).drop j) ∧ St w wx b g vc5 (apD5 c k k2 2) ((jn, on) :: (jm, o2) :: (jz, oz) :: (jy, oy) :: (jx, ox2) :: (jr, o29) :: (jq, oq) :: (jb, ob) :: (ja, oa2) :: (ke, o9) :: (kr, o') :: Rh)) (fun x _ => 32768 - (intOf x).toNat)
              case atStart => exact ⟨0, om, by omega, rfl, HRm.out, HT43.out⟩
              case round =>
                obtain ⟨j, o2, hj, rfl, hr, hT⟩ := hrel
                have HR2 := Lib.hid hr
                have HT2 := Lib.hid hT
                by_cases hj2 : j < 32768
                · have hcell := hT.cell 1 rfl hr j (by omega)
                  have hfree := hr.free (hT.get 1 rfl) j
                  obtain ⟨o3, ho3, hr3⟩ := hr.store (hT.get 1 rfl) j (c + 4)
                  rw [fillO_step (apM5 c k k2) j (c + 4) (by rw [apM5_len c k k2 hk hk2]; exact hj2)] at hr3
                  have HN := Lib.hid (And.intro hr3 (hT.store 1 j _ rfl ho3))
                  generalize (List.replicate j (c + 4) ++ (apM5 c k k2).drop j).getD j 0 = y at hcell
                  have hji : (0 : Int) ≤ (j : Int) ∧ (j : Int) < 32768 := by omega
                  have HJ := Lib.hid hj2
                  clear hr hT ho3 hr3 hj hj2
                  go_wp2
                  go_roundw
                  case rel => exact ⟨j + 1, o3, HJ.out, by go_num, HN.out.1, HN.out.2⟩
                  case measure => have := HJ.out; simp [intOf]; omega
                · obtain rfl : j = 32768 := by omega
                  rw [fillO_end _ _ _ (apM5_len c k k2 hk hk2)] at hr
                  have HRm2 := Lib.hid hr
                  clear hr hT
                  go_wp2_with fail
                  refine (ap_Read5 (rd := 2) (by omega) hk hk2 HT2.out).mono ?_
                  rintro e w50 ⟨jw, ow, rfl, hrw, hT50⟩
                  have HRw := Lib.hid hrw
                  have HT50 := Lib.hid hT50
                  clear hrw hT50
                  go_wp2_with fail
                  refine (ap_Raw5 hk hk2 HT50.out).mono ?_
                  rintro e w51 ⟨j51, o51, rfl, hr51, hT51⟩
                  have HT51 := Lib.hid (hT51.sub (List.sublist_cons_self _ _))
                  have hw51 : IntKind.i64.wrap (512 * (k : Int)) = 512 * (k : Int) := IntWalk.i64_in _ (by omega)
                  clear hr51 hT51
                  go_wp2_with fail
                  go_loop [32] (fun x => ∃ j : Nat, j ≤ 512 ∧ x = .int .i64 j) (fun x => 512 - (intOf x).toNat)
                  case atStart => exact ⟨0, by omega, rfl⟩
                  case round =>
                    obtain ⟨j, hj, rfl⟩ := hrel
                    by_cases hj2 : j < 512
                    · have q1 := HT51.out.cell 9 rfl HRa3.out j (by omega)
                      have q2 := HT51.out.cell 5 rfl HRx3.out j (by omega)
                      have q3 := HT51.out.cell 2 rfl HRm2.out (512 * k + j) (by omega)
                      rw [rep_getD _ _ _ (by omega)] at q1 q2 q3
                      have hw52 : IntKind.i64.wrap (512 * (k : Int) + (j : Int)) = 512 * (k : Int) + (j : Int) := IntWalk.i64_in _ (by omega)
                      have hw53 : (0 : Int) ≤ 512 * (k : Int) + (j : Int) ∧ 512 * (k : Int) + (j : Int) < 32768 := by omega
                      have hw54 : (512 * (k : Int) + (j : Int)).toNat = 512 * k + j := by omega
                      go_wp2
                      go_round
                      case rel => exact ⟨j + 1, by omega, by go_num⟩
                      case measure => simp [intOf]; omega
                    · obtain rfl : j = 512 := by omega
                      have g1 : w51.cell? ⟨jp, 0, none⟩ = some (.int .i64 99) := RowT.cell HRp3.out (HT51.out.mem (by simp [HMP.out])) 0 (by omega)
                      obtain ⟨An, hcut, hrn⟩ := cut_mid (some ⟨jn, 0, none⟩) 32768 cn (512 * k) (512 * k + 512) (by omega) (by omega) HRn.out.cap
                      rw [show 512 * k + 512 - 512 * k = 512 by omega, show ((512 * k : Nat) : Int) = 512 * (k : Int) by omega, show ((512 * k + 512 : Nat) : Int) = 512 * (k : Int) + 512 by omega] at hcut
                      rw [show 512 * k + 512 - 512 * k = 512 by omega] at hrn
                      have HCN := Lib.hid hrn
                      have hw55 : IntKind.i64.wrap (512 * (k : Int) + 512) = 512 * (k : Int) + 512 := IntWalk.i64_in _ (by omega)
                      clear hrn
                      go_wp2_with fail
                      refine (st_full c HT51.out).mono ?_
                      rintro e w60 ⟨j60, o60, rfl, hr60, hT60⟩
                      have HSM1 := Lib.hid (l6_same _ _ 512 512 512 512 _ _ w60 (hT60.rd 5 rfl HRy.out (by omega)) (hT60.rd 0 rfl hr60 (by omega)))
                      rw [decide_eq_true (show apF c = List.replicate 512 c from rfl)] at HSM1
                      have HT60 := Lib.hid (hT60.sub (List.sublist_cons_self _ _))
                      clear hr60 hT60 g1
                      go_wp2_with fail
                      refine HSM1.out.mono ?_
                      rintro e w61 ⟨rfl, rfl⟩
                      go_wp2_with fail
                      refine (st_full c HT60.out).mono ?_
                      rintro e w62 ⟨j62, o62, rfl, hr62, hT62⟩
                      have HSM2 := Lib.hid (l6_same _ _ 512 512 512 512 _ _ w62 (hT62.rd 1 rfl HRw.out (by omega)) (hT62.rd 0 rfl hr62 (by omega)))
                      rw [decide_eq_true (show apF c = List.replicate 512 c from rfl)] at HSM2
                      have HRdn := Lib.hid (HCN.out w62 _ (hT62.rd 2 rfl HRn.out (by omega)))
                      have HSM3 := Lib.hid (l6_same _ _ 512 (cn - 512 * k) 512 512 _ _ w62 HRdn.out (hT62.rd 1 rfl HRw.out (by omega)))
                      rw [decide_eq_true (show (List.drop (512 * k) (apM5 c k k2)).take 512 = apF c by rw [Nat.mul_comm 512 k]; exact ap_raw c k k2 hk hk2)] at HSM3
                      have z0 := hT62.cell 4 rfl HRz.out 510 (by omega)
                      have z1 := hT62.cell 4 rfl HRz.out 511 (by omega)
                      rw [ap_z c k k2 510 hk hk2 HNE.out (.inl rfl)] at z0
                      rw [ap_z c k k2 511 hk hk2 HNE.out (.inr rfl)] at z1
                      have h1 : w62.cell? ⟨jh, 1, none⟩ = some (.int .i64 98) := RowT.cell HRh.out (hT62.mem (by simp [HMH.out])) 1 (by omega)
                      have HT62 := Lib.hid hT62
                      clear hr62 hT62 HSM1
                      go_wp2_with fail
                      refine HSM2.out.mono ?_
                      rintro e w63 ⟨rfl, rfl⟩
                      go_wp2_with fail
                      refine HSM3.out.mono ?_
                      rintro e w64 ⟨rfl, rfl⟩
                      go_wp2
                      go_ret
                      exact ⟨by simp, HT62.out.bl⟩
end Go.Proofs.Ytjbffahmjhbpjaa
