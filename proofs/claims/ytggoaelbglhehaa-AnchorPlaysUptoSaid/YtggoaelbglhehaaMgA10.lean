/- What counts on a device: Read of the program over a state. -/
import Derived.Test.YtggoaelbglhehaaMgA9
import Derived.Deep.RegionHeld3
/- What counts on a device: Read of the program over a state. -/
set_option linter.unusedVariables false
set_option linter.unusedSimpArgs false
set_option maxRecDepth 100000
namespace Go.Proofs.Ytggoaelbglhehaa
open Go.RowKit SumMath
/-- not wanted: it yields nothing -/
theorem wpAnyZ.takeU {P : Program} {md : Region.Mode} {ops : Array Oper} {Q : Exit → Act → World → Prop} {R T : World → Prop} {z : Nat} {i : Nat} {oi : Oper} {f : Nat} {l : Array Bool} {a : Act} {w : World} (hi : ops[i]? = some oi) (hs : Region.noSelect ops = true) (hf : Region.free md ops l i = true) (hr : (Region.ready md ops l).contains i = true) (hiz : i ≠ z)
    (hQ : ∀ c a w, Q (.panic c) (a.put oi.dst undef) w → Q (.panic c) a w)
    (hw : Region.wanted oi (yielded ops a.tmps) = false) (hRw : R w) (hTw : l.getD z true = false → T w)
    (h : wpAnyZ P md ops Q R T z f (l.setIfInBounds i true) (a.put oi.dst undef) w) : wpAnyZ P md ops Q R T z (f + 1) l a w :=
  wpAnyZ.take (U := fun _ => True) hi hs hf hr hiz hQ (.inl fun _ _ => trivial) (.inr fun _ _ => trivial) (.inr ⟨hw, rfl⟩) trivial hRw hTw h
def spO (s : Sp) : Obj := .cells (spC s) 25
/-- what counts among the first i blocks, and where it lies -/
def anB (D : DS) : Nat → Sp × Int
  | 0 => (zSp, 0)
  | i + 1 => if (decG (rdB D i)).2 = 0 ∧ Vld (decG (rdB D i)).1 D.n ∧ (decG (rdB D i)).1.gen % 2 = i ∧ (anB D i).1.gen < (decG (rdB D i)).1.gen then ((decG (rdB D i)).1, i) else anB D i
def anR (D : DS) : Sp × Int × Int × DS :=
  if D.down = true then (zSp, 0, 6, D) else if (anB D 2).1.gen = 0 then (zSp, 0, 5, { D with rd := D.rd + 2 }) else ((anB D 2).1, (anB D 2).2, 0, { D with rd := D.rd + 2 })
theorem below_put9 {W : World} {q : Nat} {s : Sp} : Only [q] W (put9 W q s) := by
  have k : ∀ (W' : World) (j : Nat) (u : Value), Only [q] W W' → Only [q] W (W'.setCell ⟨q, j, none⟩ u) := fun W' j u h => h.setCell (by simp) u
  unfold put9
  exact k _ _ _ (k _ _ _ (k _ _ _ (k _ _ _ (k _ _ _ (k _ _ _ (k _ _ _ (k _ _ _ (k _ _ _ (Only.refl _ _)))))))))
section
variable {w0 w : World} {b g : Nat} {v : Value} {D : DS} {R : List (Nat × Obj)}
theorem zSp_ok : zSp.ok := by unfold zSp Sp.ok; dsimp only; omega
theorem decG_okS (L : List UInt8) : (decG L).1.ok := by
  unfold decG
  split
  · exact zSp_ok
  · split
    · exact decS_ok L
    · exact zSp_ok
theorem decG_len {L : List UInt8} (h : L.length = 512) (k : (decG L).2 ≠ 0) : (decG L).2 = 2 := by
  unfold decG at k ⊢
  rw [if_neg (by omega)] at k ⊢
  split at k
  · simp at k
  · rename_i h1; rw [if_neg h1]
set_option maxHeartbeats 4000000 in
theorem st_anRead (h : St w0 w b g v D R) (hrd : D.rd < 9000000000000000000) (hq : D.C.length ≤ 100000000000) :
    Calls Try.prog 21 #[.pointer (some ⟨b, 0, none⟩)] w fun e w' => e = .returned (.tuple #[.agg (spC (anR D).1), .int .i64 (anR D).2.1, .int .i64 (anR D).2.2.1]) ∧ St w0 w' b g v (anR D).2.2.2 R := by
  obtain ⟨q, hq0⟩ : ∃ q, q = w.heap.size := ⟨_, rfl⟩
  have hB0 := (Below.refl _ w).alloc (Nat.le_refl _) (spO zSp)
  have hS1 := h.new hB0 (Nat.le_refl _) (heap_alloc_new w (spO zSp))
  have hS2 := hS1.new ((Below.refl _ (w.alloc (spO zSp))).alloc (Nat.le_refl _) (spO zSp)) (Nat.le_refl _) (heap_alloc_new (w.alloc (spO zSp)) (spO zSp))
  rw [World.size_alloc] at hS2
  have hsm := h.dv.dev.small
  have HSM := Lib.hid hsm
  have HS2 := Lib.hid hS2
  have HAR := Lib.hid (show anR D = if D.down = true then (zSp, 0, 6, D) else if (anB D 2).1.gen = 0 then (zSp, 0, 5, { D with rd := D.rd + 2 }) else ((anB D 2).1, (anB D 2).2, 0, { D with rd := D.rd + 2 }) from rfl)
  have HRD := Lib.hid hrd
  have HQL := Lib.hid hq
  clear h hS1 hS2 hB0 hrd hq hsm
  go_enter Try.func21, Try.ntmps21
  go_wp2_with fail
  obtain ⟨W2, hW2⟩ : ∃ W2, W2 = (w.alloc (.cells #[.int .i64 0, .int .i64 0, .int .i64 0, .int .i64 0, .int .i64 0, .int .i64 0, .int .i64 0, .int .i64 0, .int .i64 0] 25)).alloc (.cells #[.int .i64 0, .int .i64 0, .int .i64 0, .int .i64 0, .int .i64 0, .int .i64 0, .int .i64 0, .int .i64 0, .int .i64 0] 25) := ⟨_, rfl⟩
  have HSW := Lib.hid (show St w0 W2 b g v D ((q + 1, spO zSp) :: (q, spO zSp) :: R) by rw [hW2, hq0]; exact HS2.out)
  have HQ := Lib.hid hq0
  rw [← hW2, ← hq0]
  clear hW2 HS2 hq0
  go_loopw [6, 7, 8, 9, 10, 14] (fun x6 _ _ _ _ x wx => ∃ i : Nat, i ≤ 2 ∧ (D.down = true → i = 0) ∧ x = .int .i64 i ∧ x6 = .int .i64 (anB D i).2 ∧ St w0 wx b g v { D with rd := D.rd + i } ((q + 1, spO (anB D i).1) :: (q, spO zSp) :: R)) (fun _ _ _ _ _ x _ => 2 - (intOf x).toNat)
  case atStart => exact ⟨0, by omega, fun _ => rfl, rfl, rfl, HSW.out⟩
  case round =>
    obtain ⟨i, hi, hdi, rfl, rfl, hS⟩ := hrel
    have HSi := Lib.hid hS
    by_cases hi2 : i < 2
    · have hii : (0 : Int) ≤ (i : Int) ∧ (i : Int) < 2 := by omega
      have hdev : 0 ≤ (i : Int) ∧ (i : Int) < (({ D with rd := D.rd + i } : DS).n : Int) := by show 0 ≤ (i : Int) ∧ (i : Int) < (D.n : Int); have := HSM.out; omega
      have HRG := Lib.hid (st_ReadG (i : Int) hS (by show D.rd + i < _; have := HRD.out; omega) HQL.out)
      by_cases hdn : D.down = true
      · obtain rfl : i = 0 := hdi hdn
        have hG : rdG { D with rd := D.rd + 0 } ((0 : Nat) : Int) = ([], 6, D) := by unfold rdG; rw [if_neg (fun h => h hdev), if_pos hdn]; rfl
        rw [hG] at HRG
        have HD := Lib.hid (show anR D = (zSp, 0, 6, D) by rw [HAR.out, if_pos hdn])
        clear hS hG hdev hdn
        go_wp2_with fail
        refine HRG.out.mono ?_
        rintro e w3 ⟨A3, n3, c3, R3, rfl, hr3, hz3, hS3⟩
        have hq3 : w3.heap[q]? = some (.cells (spC zSp) 25 (0, 0)) := hS3.mem (show (q, spO zSp) ∈ _ by simp)
        have hcq := cell9 hq3
        have hfq := free9 hq3
        unfold zSp at hcq
        dsimp only at hcq
        have HQ3 := Lib.hid hq3
        have HS3 := Lib.hid hS3
        clear hr3 hz3 hS3 hq3
        go_wp2
        (try simp only [Exit.inBlock, Exit.then])
        refine bodyPost_ret (results_cr3 rfl _ _ q 25 (spC zSp) (0, 0) _ rfl (row9 (s := zSp) HQ3.out) Try.underlying25 rfl sz_sup) rfl ⟨by rw [HD.out]; rfl, ?_⟩
        rw [HD.out]
        exact (HS3.out.upd 1 rfl (below_put9 (s := zSp)) (row9 (s := zSp) HQ3.out)).sub (by simp only [List.set_cons_succ, List.set_cons_zero, List.cons_append]; exact ((List.sublist_append_left R R3).cons _).cons _)
      · obtain ⟨L, hL⟩ : ∃ L, L = rdB D i := ⟨_, rfl⟩
        have hG : rdG { D with rd := D.rd + i } (i : Int) = (L, 0, { D with rd := D.rd + (i + 1) }) := by unfold rdG; rw [if_neg (fun h => h hdev), if_neg hdn, Int.toNat_natCast, hL]; rfl
        rw [hG] at HRG
        have HNX := Lib.hid (show anB D (i + 1) = if (decG L).2 = 0 ∧ Vld (decG L).1 D.n ∧ (decG L).1.gen % 2 = i ∧ (anB D i).1.gen < (decG L).1.gen then ((decG L).1, (i : Int)) else anB D i by rw [hL]; rfl)
        have HDN := Lib.hid hdn
        clear hS hG hdev hL hdn hdi
        go_wp2_with fail
        refine HRG.out.mono ?_
        rintro e w3 ⟨A3, n3, c3, R3, rfl, hr3, hz3, hS3⟩
        have HS3 := Lib.hid hS3
        have HDE := Lib.hid (an_Decode A3 n3 c3 L w3 (hr3 w3 (fun p hp => hS3.kp.all p (by simp [hp]))))
        have HOK := Lib.hid (decG_okS L)
        obtain ⟨C, hC⟩ : ∃ C, C = (decG L).1 := ⟨_, rfl⟩
        obtain ⟨k, hk⟩ : ∃ k, k = (decG L).2 := ⟨_, rfl⟩
        rw [← hC, ← hk] at HNX HDE
        rw [← hC] at HOK
        obtain ⟨bs, hbs⟩ : ∃ bs, bs = (anB D i).1 := ⟨_, rfl⟩
        obtain ⟨bat, hbat⟩ : ∃ bat, bat = (anB D i).2 := ⟨_, rfl⟩
        have HBA := Lib.hid (show anB D i = (bs, bat) by rw [hbs, hbat])
        rw [HBA.out] at HNX
        rw [← hbs] at HS3
        rw [← hbat]
        dsimp only at HNX
        clear hr3 hz3 hS3 hC hk hbs hbat HRG HSi
        go_wp2_with fail
        refine HDE.out.mono ?_
        rintro e w4 ⟨rfl, hB4⟩
        obtain ⟨cg, ce, cb, cl, cs, ca, cr, cc, cv⟩ := C
        obtain ⟨q4, hq4⟩ : ∃ q4, q4 = w4.heap.size := ⟨_, rfl⟩
        have HS5 := Lib.hid (show St w0 (w4.alloc (spO ⟨cg, ce, cb, cl, cs, ca, cr, cc, cv⟩)) b g v { D with rd := D.rd + (i + 1) } ((q4, spO ⟨cg, ce, cb, cl, cs, ca, cr, cc, cv⟩) :: (q + 1, spO bs) :: (q, spO zSp) :: (R ++ R3)) by
          rw [hq4]; exact (HS3.out.below hB4).new ((Below.refl _ w4).alloc (Nat.le_refl _) _) (Nat.le_refl _) (heap_alloc_new w4 _))
        obtain ⟨bg, be, bb, bl, bst, ba, br, bc, bv_⟩ := bs
        have HVD := Lib.hid (fun (W : World) => an_Valid ⟨cg, ce, cb, cl, cs, ca, cr, cc, cv⟩ D.n HOK.out W)
        have HCB := Lib.hid (show ∀ (W : World) (D' : DS) (X : List (Nat × Obj)), St w0 W b g v D' X → (q4, spO ⟨cg, ce, cb, cl, cs, ca, cr, cc, cv⟩) ∈ X → (q + 1, spO ⟨bg, be, bb, bl, bst, ba, br, bc, bv_⟩) ∈ X → (W.cell? ⟨q4, 0, none⟩ = some (.int .i64 cg) ∧ W.cell? ⟨q4, 1, none⟩ = some (.int .i64 ce) ∧ W.cell? ⟨q4, 2, none⟩ = some (.int .i64 cb) ∧ W.cell? ⟨q4, 3, none⟩ = some (.int .i64 cl) ∧ W.cell? ⟨q4, 4, none⟩ = some (.int .i64 cs) ∧ W.cell? ⟨q4, 5, none⟩ = some (.int .i64 ca) ∧ W.cell? ⟨q4, 6, none⟩ = some (.int .i64 cr) ∧ W.cell? ⟨q4, 7, none⟩ = some (.int .i64 cc) ∧ W.cell? ⟨q4, 8, none⟩ = some (.int .i64 cv)) ∧ W.cell? ⟨q + 1, 0, none⟩ = some (.int .i64 bg) from fun W D' X h h1 h2 => ⟨cell9 (h.mem h1), (cell9 (h.mem h2)).1⟩)
        unfold spC at HVD
        dsimp only at HVD HNX
        have HQ4 := Lib.hid hq4
        clear hB4 hq4 HDE
        unfold spC
        dsimp only
        by_cases hk0 : k = 0
        rotate_left
        · have hk1 : (k == 0) = false := by simp [hk0]
          have HNB := Lib.hid (show anB D (i + 1) = (⟨bg, be, bb, bl, bst, ba, br, bc, bv_⟩, bat) by rw [HNX.out, if_neg (fun h => hk0 h.1)])
          have HC6 := HCB
          go_wp2_with fail
          rw [← HQ4.out]
          obtain ⟨W5, hW5⟩ : ∃ W5, W5 = w4.alloc (.cells #[.int .i64 cg, .int .i64 ce, .int .i64 cb, .int .i64 cl, .int .i64 cs, .int .i64 ca, .int .i64 cr, .int .i64 cc, .int .i64 cv] 25) := ⟨_, rfl⟩
          have HS6 := Lib.hid (show St w0 W5 b g v { D with rd := D.rd + (i + 1) } ((q4, spO ⟨cg, ce, cb, cl, cs, ca, cr, cc, cv⟩) :: (q + 1, spO ⟨bg, be, bb, bl, bst, ba, br, bc, bv_⟩) :: (q, spO zSp) :: (R ++ R3)) by rw [hW5]; exact HS5.out)
          rw [← hW5]
          clear hW5
          have hd := HCB.out _ _ _ HS6.out (by simp) (by simp)
          clear HNX
          go_quiet (fail)
          have HS7 := Lib.hid (HS6.out.drewN nq)
          all_goals go_wp2
          go_roundw
          case rel =>
            refine ⟨i + 1, by omega, fun h => absurd h HDN.out, by go_num, by rw [HNB.out], ?_⟩
            rw [HNB.out]
            exact HS7.out.sub ((((List.sublist_append_left R R3).cons_cons _).cons_cons _).cons _)
          case measure => simp [intOf]; omega
        subst hk0
        by_cases hv : Vld ⟨cg, ce, cb, cl, cs, ca, cr, cc, cv⟩ D.n
        rotate_left
        · rw [decide_eq_false hv] at HVD
          have HNB := Lib.hid (show anB D (i + 1) = (⟨bg, be, bb, bl, bst, ba, br, bc, bv_⟩, bat) by rw [HNX.out, if_neg (fun h => hv h.2.1)])
          have HC6 := HCB
          go_wp2_with fail
          rw [← HQ4.out]
          obtain ⟨W5, hW5⟩ : ∃ W5, W5 = w4.alloc (.cells #[.int .i64 cg, .int .i64 ce, .int .i64 cb, .int .i64 cl, .int .i64 cs, .int .i64 ca, .int .i64 cr, .int .i64 cc, .int .i64 cv] 25) := ⟨_, rfl⟩
          have HS6 := Lib.hid (show St w0 W5 b g v { D with rd := D.rd + (i + 1) } ((q4, spO ⟨cg, ce, cb, cl, cs, ca, cr, cc, cv⟩) :: (q + 1, spO ⟨bg, be, bb, bl, bst, ba, br, bc, bv_⟩) :: (q, spO zSp) :: (R ++ R3)) by rw [hW5]; exact HS5.out)
          rw [← hW5]
          clear hW5
          have hd := HCB.out _ _ _ HS6.out (by simp) (by simp)
          clear HNX
          have hR0 := HCB.out _ _ _ (HS6.out.drewN 1) (by simp) (by simp)
          refine wp_region_z (fun w' => (w'.cell? ⟨q4, 0, none⟩ = some (.int .i64 cg) ∧ w'.cell? ⟨q4, 1, none⟩ = some (.int .i64 ce) ∧ w'.cell? ⟨q4, 2, none⟩ = some (.int .i64 cb) ∧ w'.cell? ⟨q4, 3, none⟩ = some (.int .i64 cl) ∧ w'.cell? ⟨q4, 4, none⟩ = some (.int .i64 cs) ∧ w'.cell? ⟨q4, 5, none⟩ = some (.int .i64 ca) ∧ w'.cell? ⟨q4, 6, none⟩ = some (.int .i64 cr) ∧ w'.cell? ⟨q4, 7, none⟩ = some (.int .i64 cc) ∧ w'.cell? ⟨q4, 8, none⟩ = some (.int .i64 cv)) ∧ w'.cell? ⟨q + 1, 0, none⟩ = some (.int .i64 bg)) (fun _ => True) 22 (by kernel_rfl) ?_
          refine wpAnyZ.takeN (i := 0) (v := .int .i64 0) rfl (by kernel_rfl) (by kernel_rfl) (by kernel_rfl) (by decide) (fun _ _ _ h => h) (by rfl) (fun w => ?zy) hR0 (fun _ => trivial) ?_
          case zy => go_simp
          (try simp only [Act.put, List.getElem_toArray, List.getElem_cons_zero, List.getElem_cons_succ, List.setIfInBounds_toArray, List.set_cons_zero, List.set_cons_succ])
          refine wpAnyZ.takeN (i := 1) (v := .bool true) rfl (by kernel_rfl) (by kernel_rfl) (by kernel_rfl) (by decide) (fun _ _ _ h => h) (by rfl) (fun w => ?zy) hR0 (fun _ => trivial) ?_
          case zy => go_simp
          (try simp only [Act.put, List.getElem_toArray, List.getElem_cons_zero, List.getElem_cons_succ, List.setIfInBounds_toArray, List.set_cons_zero, List.set_cons_succ])
          refine wpAnyZ.takeN (i := 2) (v := .bool true) rfl (by kernel_rfl) (by kernel_rfl) (by kernel_rfl) (by decide) (fun _ _ _ h => h) (by rfl) (fun w => ?zy) hR0 (fun _ => trivial) ?_
          case zy => go_simp
          (try simp only [Act.put, List.getElem_toArray, List.getElem_cons_zero, List.getElem_cons_succ, List.setIfInBounds_toArray, List.set_cons_zero, List.set_cons_succ])
          refine wpAnyZ.take (i := 3) (v := .agg #[.int .i64 cg, .int .i64 ce, .int .i64 cb, .int .i64 cl, .int .i64 cs, .int .i64 ca, .int .i64 cr, .int .i64 cc, .int .i64 cv]) (U := (fun w' => (w'.cell? ⟨q4, 0, none⟩ = some (.int .i64 cg) ∧ w'.cell? ⟨q4, 1, none⟩ = some (.int .i64 ce) ∧ w'.cell? ⟨q4, 2, none⟩ = some (.int .i64 cb) ∧ w'.cell? ⟨q4, 3, none⟩ = some (.int .i64 cl) ∧ w'.cell? ⟨q4, 4, none⟩ = some (.int .i64 cs) ∧ w'.cell? ⟨q4, 5, none⟩ = some (.int .i64 ca) ∧ w'.cell? ⟨q4, 6, none⟩ = some (.int .i64 cr) ∧ w'.cell? ⟨q4, 7, none⟩ = some (.int .i64 cc) ∧ w'.cell? ⟨q4, 8, none⟩ = some (.int .i64 cv)) ∧ w'.cell? ⟨q + 1, 0, none⟩ = some (.int .i64 bg))) rfl (by kernel_rfl) (by kernel_rfl) (by kernel_rfl) (by decide) (fun _ _ _ h => h) (.inl fun _ h => h) (.inr fun _ h => h) (.inl ⟨by rfl, fun w hw => ?zy⟩) hR0 hR0 (fun _ => trivial) ?_
          case zy => (dsimp only at hw; obtain ⟨⟨z0, z1, z2, z3, z4, z5, z6, z7, z8⟩, z9⟩ := hw; go_simp)
          (try simp only [Act.put, List.getElem_toArray, List.getElem_cons_zero, List.getElem_cons_succ, List.setIfInBounds_toArray, List.set_cons_zero, List.set_cons_succ])
          refine wpAnyZ.takeN (i := 4) (v := .pointer (some ⟨b, 0, none⟩)) rfl (by kernel_rfl) (by kernel_rfl) (by kernel_rfl) (by decide) (fun _ _ _ h => h) (by rfl) (fun w => ?zy) hR0 (fun _ => trivial) ?_
          case zy => go_simp
          (try simp only [Act.put, List.getElem_toArray, List.getElem_cons_zero, List.getElem_cons_succ, List.setIfInBounds_toArray, List.set_cons_zero, List.set_cons_succ])
          refine wpAnyZ.oneK (i := 5) (E := False) (by kernel_rfl) rfl (by rfl) (fun K hK => ?_)
          go_simp
          refine (dv_BlocksV _ b g v _ (HS6.out.drewN 1).dv).mono ?_
          rintro e w6 ⟨rfl, rfl⟩
          go_wp2_with fail
          refine hK.out _ _ ⟨⟨hR0, fun _ => trivial⟩, ?_⟩
          clear hK
          (try simp only [Act.put, List.getElem_toArray, List.getElem_cons_zero, List.getElem_cons_succ, List.setIfInBounds_toArray, List.set_cons_zero, List.set_cons_succ])
          refine wpAnyZ.oneK (i := 6) (E := False) (by kernel_rfl) rfl (by rfl) (fun K hK => ?_)
          go_simp
          refine (HVD.out _).mono ?_
          rintro e w7 ⟨rfl, hB7⟩
          have HS7 := Lib.hid ((HS6.out.drewN 1).below hB7)
          have hR7 := HCB.out _ _ _ HS7.out (by simp) (by simp)
          clear hB7
          go_wp2_with fail
          refine hK.out _ _ ⟨⟨hR7, fun _ => trivial⟩, ?_⟩
          clear hK hR0
          (try simp only [Act.put, List.getElem_toArray, List.getElem_cons_zero, List.getElem_cons_succ, List.setIfInBounds_toArray, List.set_cons_zero, List.set_cons_succ])
          refine wpAnyZ.takeN (i := 7) (v := .bool false) rfl (by kernel_rfl) (by kernel_rfl) (by kernel_rfl) (by decide) (fun _ _ _ h => h) (by rfl) (fun w => ?zy) hR7 (fun _ => trivial) ?_
          case zy => go_simp
          (try simp only [Act.put, List.getElem_toArray, List.getElem_cons_zero, List.getElem_cons_succ, List.setIfInBounds_toArray, List.set_cons_zero, List.set_cons_succ])
          refine wpAnyZ.takeN (i := 8) (v := .bool false) rfl (by kernel_rfl) (by kernel_rfl) (by kernel_rfl) (by decide) (fun _ _ _ h => h) (by rfl) (fun w => ?zy) hR7 (fun _ => trivial) ?_
          case zy => go_simp
          (try simp only [Act.put, List.getElem_toArray, List.getElem_cons_zero, List.getElem_cons_succ, List.setIfInBounds_toArray, List.set_cons_zero, List.set_cons_succ])
          refine wpAnyZ.takeU (i := 9) rfl (by kernel_rfl) (by kernel_rfl) (by kernel_rfl) (by decide) (fun _ _ _ h => h) (by rfl) hR7 (fun _ => trivial) ?_
          (try simp only [Act.put, List.getElem_toArray, List.getElem_cons_zero, List.getElem_cons_succ, List.setIfInBounds_toArray, List.set_cons_zero, List.set_cons_succ])
          refine wpAnyZ.takeU (i := 10) rfl (by kernel_rfl) (by kernel_rfl) (by kernel_rfl) (by decide) (fun _ _ _ h => h) (by rfl) hR7 (fun _ => trivial) ?_
          (try simp only [Act.put, List.getElem_toArray, List.getElem_cons_zero, List.getElem_cons_succ, List.setIfInBounds_toArray, List.set_cons_zero, List.set_cons_succ])
          refine wpAnyZ.takeU (i := 11) rfl (by kernel_rfl) (by kernel_rfl) (by kernel_rfl) (by decide) (fun _ _ _ h => h) (by rfl) hR7 (fun _ => trivial) ?_
          (try simp only [Act.put, List.getElem_toArray, List.getElem_cons_zero, List.getElem_cons_succ, List.setIfInBounds_toArray, List.set_cons_zero, List.set_cons_succ])
          refine wpAnyZ.takeU (i := 12) rfl (by kernel_rfl) (by kernel_rfl) (by kernel_rfl) (by decide) (fun _ _ _ h => h) (by rfl) hR7 (fun _ => trivial) ?_
          (try simp only [Act.put, List.getElem_toArray, List.getElem_cons_zero, List.getElem_cons_succ, List.setIfInBounds_toArray, List.set_cons_zero, List.set_cons_succ])
          refine wpAnyZ.takeU (i := 13) rfl (by kernel_rfl) (by kernel_rfl) (by kernel_rfl) (by decide) (fun _ _ _ h => h) (by rfl) hR7 (fun _ => trivial) ?_
          (try simp only [Act.put, List.getElem_toArray, List.getElem_cons_zero, List.getElem_cons_succ, List.setIfInBounds_toArray, List.set_cons_zero, List.set_cons_succ])
          refine wpAnyZ.takeN (i := 14) (v := .bool false) rfl (by kernel_rfl) (by kernel_rfl) (by kernel_rfl) (by decide) (fun _ _ _ h => h) (by rfl) (fun w => ?zy) hR7 (fun _ => trivial) ?_
          case zy => go_simp
          (try simp only [Act.put, List.getElem_toArray, List.getElem_cons_zero, List.getElem_cons_succ, List.setIfInBounds_toArray, List.set_cons_zero, List.set_cons_succ])
          refine wpAnyZ.takeN (i := 15) (v := .bool false) rfl (by kernel_rfl) (by kernel_rfl) (by kernel_rfl) (by decide) (fun _ _ _ h => h) (by rfl) (fun w => ?zy) hR7 (fun _ => trivial) ?_
          case zy => go_simp
          (try simp only [Act.put, List.getElem_toArray, List.getElem_cons_zero, List.getElem_cons_succ, List.setIfInBounds_toArray, List.set_cons_zero, List.set_cons_succ])
          refine wpAnyZ.takeU (i := 16) rfl (by kernel_rfl) (by kernel_rfl) (by kernel_rfl) (by decide) (fun _ _ _ h => h) (by rfl) hR7 (fun _ => trivial) ?_
          (try simp only [Act.put, List.getElem_toArray, List.getElem_cons_zero, List.getElem_cons_succ, List.setIfInBounds_toArray, List.set_cons_zero, List.set_cons_succ])
          refine wpAnyZ.takeU (i := 17) rfl (by kernel_rfl) (by kernel_rfl) (by kernel_rfl) (by decide) (fun _ _ _ h => h) (by rfl) hR7 (fun _ => trivial) ?_
          (try simp only [Act.put, List.getElem_toArray, List.getElem_cons_zero, List.getElem_cons_succ, List.setIfInBounds_toArray, List.set_cons_zero, List.set_cons_succ])
          refine wpAnyZ.takeU (i := 18) rfl (by kernel_rfl) (by kernel_rfl) (by kernel_rfl) (by decide) (fun _ _ _ h => h) (by rfl) hR7 (fun _ => trivial) ?_
          (try simp only [Act.put, List.getElem_toArray, List.getElem_cons_zero, List.getElem_cons_succ, List.setIfInBounds_toArray, List.set_cons_zero, List.set_cons_succ])
          refine wpAnyZ.takeU (i := 19) rfl (by kernel_rfl) (by kernel_rfl) (by kernel_rfl) (by decide) (fun _ _ _ h => h) (by rfl) hR7 (fun _ => trivial) ?_
          (try simp only [Act.put, List.getElem_toArray, List.getElem_cons_zero, List.getElem_cons_succ, List.setIfInBounds_toArray, List.set_cons_zero, List.set_cons_succ])
          refine wpAnyZ.takeU (i := 20) rfl (by kernel_rfl) (by kernel_rfl) (by kernel_rfl) (by decide) (fun _ _ _ h => h) (by rfl) hR7 (fun _ => trivial) ?_
          (try simp only [Act.put, List.getElem_toArray, List.getElem_cons_zero, List.getElem_cons_succ, List.setIfInBounds_toArray, List.set_cons_zero, List.set_cons_succ])
          refine wpAnyZ.takeN (i := 21) (v := .bool false) rfl (by kernel_rfl) (by kernel_rfl) (by kernel_rfl) (by decide) (fun _ _ _ h => h) (by rfl) (fun w => ?zy) hR7 (fun _ => trivial) ?_
          case zy => go_simp
          (try simp only [Act.put, List.getElem_toArray, List.getElem_cons_zero, List.getElem_cons_succ, List.setIfInBounds_toArray, List.set_cons_zero, List.set_cons_succ])
          refine wpAnyZ.done (by kernel_rfl) ?_ _
          clear hR7 hd
          go_wp2
          go_roundw
          case rel =>
            refine ⟨i + 1, by omega, fun h => absurd h HDN.out, by go_num, by rw [HNB.out], ?_⟩
            rw [HNB.out]
            exact HS7.out.sub ((((List.sublist_append_left R R3).cons_cons _).cons_cons _).cons _)
          case measure => simp [intOf]; omega
        have hg := hv.gen
        dsimp only at hg
        have hm1 : cg.tmod 2 = cg % 2 := Int.tmod_eq_emod_of_nonneg (by omega)
        obtain ⟨m, hm⟩ : ∃ m, m = cg % 2 := ⟨_, rfl⟩
        rw [← hm] at hm1 HNX
        clear hm
        by_cases hmi : m = (i : Int)
        rotate_left
        · have hmb : (m == (i : Int)) = false := by simp [hmi]
          rw [decide_eq_true hv] at HVD
          have HNB := Lib.hid (show anB D (i + 1) = (⟨bg, be, bb, bl, bst, ba, br, bc, bv_⟩, bat) by rw [HNX.out, if_neg (fun h => hmi h.2.2.1)])
          have HC6 := HCB
          go_wp2_with fail
          rw [← HQ4.out]
          obtain ⟨W5, hW5⟩ : ∃ W5, W5 = w4.alloc (.cells #[.int .i64 cg, .int .i64 ce, .int .i64 cb, .int .i64 cl, .int .i64 cs, .int .i64 ca, .int .i64 cr, .int .i64 cc, .int .i64 cv] 25) := ⟨_, rfl⟩
          have HS6 := Lib.hid (show St w0 W5 b g v { D with rd := D.rd + (i + 1) } ((q4, spO ⟨cg, ce, cb, cl, cs, ca, cr, cc, cv⟩) :: (q + 1, spO ⟨bg, be, bb, bl, bst, ba, br, bc, bv_⟩) :: (q, spO zSp) :: (R ++ R3)) by rw [hW5]; exact HS5.out)
          rw [← hW5]
          clear hW5
          have hd := HCB.out _ _ _ HS6.out (by simp) (by simp)
          clear HNX
          have hR0 := HCB.out _ _ _ (HS6.out.drewN 1) (by simp) (by simp)
          refine wp_region_z (fun w' => (w'.cell? ⟨q4, 0, none⟩ = some (.int .i64 cg) ∧ w'.cell? ⟨q4, 1, none⟩ = some (.int .i64 ce) ∧ w'.cell? ⟨q4, 2, none⟩ = some (.int .i64 cb) ∧ w'.cell? ⟨q4, 3, none⟩ = some (.int .i64 cl) ∧ w'.cell? ⟨q4, 4, none⟩ = some (.int .i64 cs) ∧ w'.cell? ⟨q4, 5, none⟩ = some (.int .i64 ca) ∧ w'.cell? ⟨q4, 6, none⟩ = some (.int .i64 cr) ∧ w'.cell? ⟨q4, 7, none⟩ = some (.int .i64 cc) ∧ w'.cell? ⟨q4, 8, none⟩ = some (.int .i64 cv)) ∧ w'.cell? ⟨q + 1, 0, none⟩ = some (.int .i64 bg)) (fun _ => True) 22 (by kernel_rfl) ?_
          refine wpAnyZ.takeN (i := 0) (v := .int .i64 0) rfl (by kernel_rfl) (by kernel_rfl) (by kernel_rfl) (by decide) (fun _ _ _ h => h) (by rfl) (fun w => ?zy) hR0 (fun _ => trivial) ?_
          case zy => go_simp
          (try simp only [Act.put, List.getElem_toArray, List.getElem_cons_zero, List.getElem_cons_succ, List.setIfInBounds_toArray, List.set_cons_zero, List.set_cons_succ])
          refine wpAnyZ.takeN (i := 1) (v := .bool true) rfl (by kernel_rfl) (by kernel_rfl) (by kernel_rfl) (by decide) (fun _ _ _ h => h) (by rfl) (fun w => ?zy) hR0 (fun _ => trivial) ?_
          case zy => go_simp
          (try simp only [Act.put, List.getElem_toArray, List.getElem_cons_zero, List.getElem_cons_succ, List.setIfInBounds_toArray, List.set_cons_zero, List.set_cons_succ])
          refine wpAnyZ.takeN (i := 2) (v := .bool true) rfl (by kernel_rfl) (by kernel_rfl) (by kernel_rfl) (by decide) (fun _ _ _ h => h) (by rfl) (fun w => ?zy) hR0 (fun _ => trivial) ?_
          case zy => go_simp
          (try simp only [Act.put, List.getElem_toArray, List.getElem_cons_zero, List.getElem_cons_succ, List.setIfInBounds_toArray, List.set_cons_zero, List.set_cons_succ])
          refine wpAnyZ.take (i := 3) (v := .agg #[.int .i64 cg, .int .i64 ce, .int .i64 cb, .int .i64 cl, .int .i64 cs, .int .i64 ca, .int .i64 cr, .int .i64 cc, .int .i64 cv]) (U := (fun w' => (w'.cell? ⟨q4, 0, none⟩ = some (.int .i64 cg) ∧ w'.cell? ⟨q4, 1, none⟩ = some (.int .i64 ce) ∧ w'.cell? ⟨q4, 2, none⟩ = some (.int .i64 cb) ∧ w'.cell? ⟨q4, 3, none⟩ = some (.int .i64 cl) ∧ w'.cell? ⟨q4, 4, none⟩ = some (.int .i64 cs) ∧ w'.cell? ⟨q4, 5, none⟩ = some (.int .i64 ca) ∧ w'.cell? ⟨q4, 6, none⟩ = some (.int .i64 cr) ∧ w'.cell? ⟨q4, 7, none⟩ = some (.int .i64 cc) ∧ w'.cell? ⟨q4, 8, none⟩ = some (.int .i64 cv)) ∧ w'.cell? ⟨q + 1, 0, none⟩ = some (.int .i64 bg))) rfl (by kernel_rfl) (by kernel_rfl) (by kernel_rfl) (by decide) (fun _ _ _ h => h) (.inl fun _ h => h) (.inr fun _ h => h) (.inl ⟨by rfl, fun w hw => ?zy⟩) hR0 hR0 (fun _ => trivial) ?_
          case zy => (dsimp only at hw; obtain ⟨⟨z0, z1, z2, z3, z4, z5, z6, z7, z8⟩, z9⟩ := hw; go_simp)
          (try simp only [Act.put, List.getElem_toArray, List.getElem_cons_zero, List.getElem_cons_succ, List.setIfInBounds_toArray, List.set_cons_zero, List.set_cons_succ])
          refine wpAnyZ.takeN (i := 4) (v := .pointer (some ⟨b, 0, none⟩)) rfl (by kernel_rfl) (by kernel_rfl) (by kernel_rfl) (by decide) (fun _ _ _ h => h) (by rfl) (fun w => ?zy) hR0 (fun _ => trivial) ?_
          case zy => go_simp
          (try simp only [Act.put, List.getElem_toArray, List.getElem_cons_zero, List.getElem_cons_succ, List.setIfInBounds_toArray, List.set_cons_zero, List.set_cons_succ])
          refine wpAnyZ.oneK (i := 5) (E := False) (by kernel_rfl) rfl (by rfl) (fun K hK => ?_)
          go_simp
          refine (dv_BlocksV _ b g v _ (HS6.out.drewN 1).dv).mono ?_
          rintro e w6 ⟨rfl, rfl⟩
          go_wp2_with fail
          refine hK.out _ _ ⟨⟨hR0, fun _ => trivial⟩, ?_⟩
          clear hK
          (try simp only [Act.put, List.getElem_toArray, List.getElem_cons_zero, List.getElem_cons_succ, List.setIfInBounds_toArray, List.set_cons_zero, List.set_cons_succ])
          refine wpAnyZ.oneK (i := 6) (E := False) (by kernel_rfl) rfl (by rfl) (fun K hK => ?_)
          go_simp
          refine (HVD.out _).mono ?_
          rintro e w7 ⟨rfl, hB7⟩
          have HS7 := Lib.hid ((HS6.out.drewN 1).below hB7)
          have hR7 := HCB.out _ _ _ HS7.out (by simp) (by simp)
          clear hB7
          go_wp2_with fail
          refine hK.out _ _ ⟨⟨hR7, fun _ => trivial⟩, ?_⟩
          clear hK hR0
          (try simp only [Act.put, List.getElem_toArray, List.getElem_cons_zero, List.getElem_cons_succ, List.setIfInBounds_toArray, List.set_cons_zero, List.set_cons_succ])
          refine wpAnyZ.takeN (i := 7) (v := .bool true) rfl (by kernel_rfl) (by kernel_rfl) (by kernel_rfl) (by decide) (fun _ _ _ h => h) (by rfl) (fun w => ?zy) hR7 (fun _ => trivial) ?_
          case zy => go_simp
          (try simp only [Act.put, List.getElem_toArray, List.getElem_cons_zero, List.getElem_cons_succ, List.setIfInBounds_toArray, List.set_cons_zero, List.set_cons_succ])
          refine wpAnyZ.takeN (i := 8) (v := .bool true) rfl (by kernel_rfl) (by kernel_rfl) (by kernel_rfl) (by decide) (fun _ _ _ h => h) (by rfl) (fun w => ?zy) hR7 (fun _ => trivial) ?_
          case zy => go_simp
          (try simp only [Act.put, List.getElem_toArray, List.getElem_cons_zero, List.getElem_cons_succ, List.setIfInBounds_toArray, List.set_cons_zero, List.set_cons_succ])
          refine wpAnyZ.takeN (i := 9) (v := .pointer (some ⟨q4, 0, none⟩)) rfl (by kernel_rfl) (by kernel_rfl) (by kernel_rfl) (by decide) (fun _ _ _ h => h) (by rfl) (fun w => ?zy) hR7 (fun _ => trivial) ?_
          case zy => go_simp
          (try simp only [Act.put, List.getElem_toArray, List.getElem_cons_zero, List.getElem_cons_succ, List.setIfInBounds_toArray, List.set_cons_zero, List.set_cons_succ])
          refine wpAnyZ.take (i := 10) (v := .int .i64 cg) (U := (fun w' => (w'.cell? ⟨q4, 0, none⟩ = some (.int .i64 cg) ∧ w'.cell? ⟨q4, 1, none⟩ = some (.int .i64 ce) ∧ w'.cell? ⟨q4, 2, none⟩ = some (.int .i64 cb) ∧ w'.cell? ⟨q4, 3, none⟩ = some (.int .i64 cl) ∧ w'.cell? ⟨q4, 4, none⟩ = some (.int .i64 cs) ∧ w'.cell? ⟨q4, 5, none⟩ = some (.int .i64 ca) ∧ w'.cell? ⟨q4, 6, none⟩ = some (.int .i64 cr) ∧ w'.cell? ⟨q4, 7, none⟩ = some (.int .i64 cc) ∧ w'.cell? ⟨q4, 8, none⟩ = some (.int .i64 cv)) ∧ w'.cell? ⟨q + 1, 0, none⟩ = some (.int .i64 bg))) rfl (by kernel_rfl) (by kernel_rfl) (by kernel_rfl) (by decide) (fun _ _ _ h => h) (.inl fun _ h => h) (.inr fun _ h => h) (.inl ⟨by rfl, fun w hw => ?zy⟩) hR7 hR7 (fun _ => trivial) ?_
          case zy => (dsimp only at hw; obtain ⟨⟨z0, z1, z2, z3, z4, z5, z6, z7, z8⟩, z9⟩ := hw; go_simp)
          (try simp only [Act.put, List.getElem_toArray, List.getElem_cons_zero, List.getElem_cons_succ, List.setIfInBounds_toArray, List.set_cons_zero, List.set_cons_succ])
          refine wpAnyZ.takeN (i := 11) (v := .int .i64 m) rfl (by kernel_rfl) (by kernel_rfl) (by kernel_rfl) (by decide) (fun _ _ _ h => h) (by rfl) (fun w => ?zy) hR7 (fun _ => trivial) ?_
          case zy => go_simp
          (try simp only [Act.put, List.getElem_toArray, List.getElem_cons_zero, List.getElem_cons_succ, List.setIfInBounds_toArray, List.set_cons_zero, List.set_cons_succ])
          refine wpAnyZ.takeN (i := 12) (v := .int .i64 (i : Int)) rfl (by kernel_rfl) (by kernel_rfl) (by kernel_rfl) (by decide) (fun _ _ _ h => h) (by rfl) (fun w => ?zy) hR7 (fun _ => trivial) ?_
          case zy => go_simp
          (try simp only [Act.put, List.getElem_toArray, List.getElem_cons_zero, List.getElem_cons_succ, List.setIfInBounds_toArray, List.set_cons_zero, List.set_cons_succ])
          refine wpAnyZ.takeN (i := 13) (v := .bool false) rfl (by kernel_rfl) (by kernel_rfl) (by kernel_rfl) (by decide) (fun _ _ _ h => h) (by rfl) (fun w => ?zy) hR7 (fun _ => trivial) ?_
          case zy => go_simp
          (try simp only [Act.put, List.getElem_toArray, List.getElem_cons_zero, List.getElem_cons_succ, List.setIfInBounds_toArray, List.set_cons_zero, List.set_cons_succ])
          refine wpAnyZ.takeN (i := 14) (v := .bool false) rfl (by kernel_rfl) (by kernel_rfl) (by kernel_rfl) (by decide) (fun _ _ _ h => h) (by rfl) (fun w => ?zy) hR7 (fun _ => trivial) ?_
          case zy => go_simp
          (try simp only [Act.put, List.getElem_toArray, List.getElem_cons_zero, List.getElem_cons_succ, List.setIfInBounds_toArray, List.set_cons_zero, List.set_cons_succ])
          refine wpAnyZ.takeN (i := 15) (v := .bool false) rfl (by kernel_rfl) (by kernel_rfl) (by kernel_rfl) (by decide) (fun _ _ _ h => h) (by rfl) (fun w => ?zy) hR7 (fun _ => trivial) ?_
          case zy => go_simp
          (try simp only [Act.put, List.getElem_toArray, List.getElem_cons_zero, List.getElem_cons_succ, List.setIfInBounds_toArray, List.set_cons_zero, List.set_cons_succ])
          refine wpAnyZ.takeU (i := 16) rfl (by kernel_rfl) (by kernel_rfl) (by kernel_rfl) (by decide) (fun _ _ _ h => h) (by rfl) hR7 (fun _ => trivial) ?_
          (try simp only [Act.put, List.getElem_toArray, List.getElem_cons_zero, List.getElem_cons_succ, List.setIfInBounds_toArray, List.set_cons_zero, List.set_cons_succ])
          refine wpAnyZ.takeU (i := 17) rfl (by kernel_rfl) (by kernel_rfl) (by kernel_rfl) (by decide) (fun _ _ _ h => h) (by rfl) hR7 (fun _ => trivial) ?_
          (try simp only [Act.put, List.getElem_toArray, List.getElem_cons_zero, List.getElem_cons_succ, List.setIfInBounds_toArray, List.set_cons_zero, List.set_cons_succ])
          refine wpAnyZ.takeU (i := 18) rfl (by kernel_rfl) (by kernel_rfl) (by kernel_rfl) (by decide) (fun _ _ _ h => h) (by rfl) hR7 (fun _ => trivial) ?_
          (try simp only [Act.put, List.getElem_toArray, List.getElem_cons_zero, List.getElem_cons_succ, List.setIfInBounds_toArray, List.set_cons_zero, List.set_cons_succ])
          refine wpAnyZ.takeU (i := 19) rfl (by kernel_rfl) (by kernel_rfl) (by kernel_rfl) (by decide) (fun _ _ _ h => h) (by rfl) hR7 (fun _ => trivial) ?_
          (try simp only [Act.put, List.getElem_toArray, List.getElem_cons_zero, List.getElem_cons_succ, List.setIfInBounds_toArray, List.set_cons_zero, List.set_cons_succ])
          refine wpAnyZ.takeU (i := 20) rfl (by kernel_rfl) (by kernel_rfl) (by kernel_rfl) (by decide) (fun _ _ _ h => h) (by rfl) hR7 (fun _ => trivial) ?_
          (try simp only [Act.put, List.getElem_toArray, List.getElem_cons_zero, List.getElem_cons_succ, List.setIfInBounds_toArray, List.set_cons_zero, List.set_cons_succ])
          refine wpAnyZ.takeN (i := 21) (v := .bool false) rfl (by kernel_rfl) (by kernel_rfl) (by kernel_rfl) (by decide) (fun _ _ _ h => h) (by rfl) (fun w => ?zy) hR7 (fun _ => trivial) ?_
          case zy => go_simp
          (try simp only [Act.put, List.getElem_toArray, List.getElem_cons_zero, List.getElem_cons_succ, List.setIfInBounds_toArray, List.set_cons_zero, List.set_cons_succ])
          refine wpAnyZ.done (by kernel_rfl) ?_ _
          clear hR7 hd
          go_wp2
          go_roundw
          case rel =>
            refine ⟨i + 1, by omega, fun h => absurd h HDN.out, by go_num, by rw [HNB.out], ?_⟩
            rw [HNB.out]
            exact HS7.out.sub ((((List.sublist_append_left R R3).cons_cons _).cons_cons _).cons _)
          case measure => simp [intOf]; omega
        have hmb : (m == (i : Int)) = true := by simp [hmi]
        by_cases hgt : bg < cg
        rotate_left
        · rw [decide_eq_true hv] at HVD
          have HNB := Lib.hid (show anB D (i + 1) = (⟨bg, be, bb, bl, bst, ba, br, bc, bv_⟩, bat) by rw [HNX.out, if_neg (fun h => hgt h.2.2.2)])
          have HC6 := HCB
          go_wp2_with fail
          rw [← HQ4.out]
          obtain ⟨W5, hW5⟩ : ∃ W5, W5 = w4.alloc (.cells #[.int .i64 cg, .int .i64 ce, .int .i64 cb, .int .i64 cl, .int .i64 cs, .int .i64 ca, .int .i64 cr, .int .i64 cc, .int .i64 cv] 25) := ⟨_, rfl⟩
          have HS6 := Lib.hid (show St w0 W5 b g v { D with rd := D.rd + (i + 1) } ((q4, spO ⟨cg, ce, cb, cl, cs, ca, cr, cc, cv⟩) :: (q + 1, spO ⟨bg, be, bb, bl, bst, ba, br, bc, bv_⟩) :: (q, spO zSp) :: (R ++ R3)) by rw [hW5]; exact HS5.out)
          rw [← hW5]
          clear hW5
          have hd := HCB.out _ _ _ HS6.out (by simp) (by simp)
          clear HNX
          have hR0 := HCB.out _ _ _ (HS6.out.drewN 1) (by simp) (by simp)
          refine wp_region_z (fun w' => (w'.cell? ⟨q4, 0, none⟩ = some (.int .i64 cg) ∧ w'.cell? ⟨q4, 1, none⟩ = some (.int .i64 ce) ∧ w'.cell? ⟨q4, 2, none⟩ = some (.int .i64 cb) ∧ w'.cell? ⟨q4, 3, none⟩ = some (.int .i64 cl) ∧ w'.cell? ⟨q4, 4, none⟩ = some (.int .i64 cs) ∧ w'.cell? ⟨q4, 5, none⟩ = some (.int .i64 ca) ∧ w'.cell? ⟨q4, 6, none⟩ = some (.int .i64 cr) ∧ w'.cell? ⟨q4, 7, none⟩ = some (.int .i64 cc) ∧ w'.cell? ⟨q4, 8, none⟩ = some (.int .i64 cv)) ∧ w'.cell? ⟨q + 1, 0, none⟩ = some (.int .i64 bg)) (fun _ => True) 22 (by kernel_rfl) ?_
          refine wpAnyZ.takeN (i := 0) (v := .int .i64 0) rfl (by kernel_rfl) (by kernel_rfl) (by kernel_rfl) (by decide) (fun _ _ _ h => h) (by rfl) (fun w => ?zy) hR0 (fun _ => trivial) ?_
          case zy => go_simp
          (try simp only [Act.put, List.getElem_toArray, List.getElem_cons_zero, List.getElem_cons_succ, List.setIfInBounds_toArray, List.set_cons_zero, List.set_cons_succ])
          refine wpAnyZ.takeN (i := 1) (v := .bool true) rfl (by kernel_rfl) (by kernel_rfl) (by kernel_rfl) (by decide) (fun _ _ _ h => h) (by rfl) (fun w => ?zy) hR0 (fun _ => trivial) ?_
          case zy => go_simp
          (try simp only [Act.put, List.getElem_toArray, List.getElem_cons_zero, List.getElem_cons_succ, List.setIfInBounds_toArray, List.set_cons_zero, List.set_cons_succ])
          refine wpAnyZ.takeN (i := 2) (v := .bool true) rfl (by kernel_rfl) (by kernel_rfl) (by kernel_rfl) (by decide) (fun _ _ _ h => h) (by rfl) (fun w => ?zy) hR0 (fun _ => trivial) ?_
          case zy => go_simp
          (try simp only [Act.put, List.getElem_toArray, List.getElem_cons_zero, List.getElem_cons_succ, List.setIfInBounds_toArray, List.set_cons_zero, List.set_cons_succ])
          refine wpAnyZ.take (i := 3) (v := .agg #[.int .i64 cg, .int .i64 ce, .int .i64 cb, .int .i64 cl, .int .i64 cs, .int .i64 ca, .int .i64 cr, .int .i64 cc, .int .i64 cv]) (U := (fun w' => (w'.cell? ⟨q4, 0, none⟩ = some (.int .i64 cg) ∧ w'.cell? ⟨q4, 1, none⟩ = some (.int .i64 ce) ∧ w'.cell? ⟨q4, 2, none⟩ = some (.int .i64 cb) ∧ w'.cell? ⟨q4, 3, none⟩ = some (.int .i64 cl) ∧ w'.cell? ⟨q4, 4, none⟩ = some (.int .i64 cs) ∧ w'.cell? ⟨q4, 5, none⟩ = some (.int .i64 ca) ∧ w'.cell? ⟨q4, 6, none⟩ = some (.int .i64 cr) ∧ w'.cell? ⟨q4, 7, none⟩ = some (.int .i64 cc) ∧ w'.cell? ⟨q4, 8, none⟩ = some (.int .i64 cv)) ∧ w'.cell? ⟨q + 1, 0, none⟩ = some (.int .i64 bg))) rfl (by kernel_rfl) (by kernel_rfl) (by kernel_rfl) (by decide) (fun _ _ _ h => h) (.inl fun _ h => h) (.inr fun _ h => h) (.inl ⟨by rfl, fun w hw => ?zy⟩) hR0 hR0 (fun _ => trivial) ?_
          case zy => (dsimp only at hw; obtain ⟨⟨z0, z1, z2, z3, z4, z5, z6, z7, z8⟩, z9⟩ := hw; go_simp)
          (try simp only [Act.put, List.getElem_toArray, List.getElem_cons_zero, List.getElem_cons_succ, List.setIfInBounds_toArray, List.set_cons_zero, List.set_cons_succ])
          refine wpAnyZ.takeN (i := 4) (v := .pointer (some ⟨b, 0, none⟩)) rfl (by kernel_rfl) (by kernel_rfl) (by kernel_rfl) (by decide) (fun _ _ _ h => h) (by rfl) (fun w => ?zy) hR0 (fun _ => trivial) ?_
          case zy => go_simp
          (try simp only [Act.put, List.getElem_toArray, List.getElem_cons_zero, List.getElem_cons_succ, List.setIfInBounds_toArray, List.set_cons_zero, List.set_cons_succ])
          refine wpAnyZ.oneK (i := 5) (E := False) (by kernel_rfl) rfl (by rfl) (fun K hK => ?_)
          go_simp
          refine (dv_BlocksV _ b g v _ (HS6.out.drewN 1).dv).mono ?_
          rintro e w6 ⟨rfl, rfl⟩
          go_wp2_with fail
          refine hK.out _ _ ⟨⟨hR0, fun _ => trivial⟩, ?_⟩
          clear hK
          (try simp only [Act.put, List.getElem_toArray, List.getElem_cons_zero, List.getElem_cons_succ, List.setIfInBounds_toArray, List.set_cons_zero, List.set_cons_succ])
          refine wpAnyZ.oneK (i := 6) (E := False) (by kernel_rfl) rfl (by rfl) (fun K hK => ?_)
          go_simp
          refine (HVD.out _).mono ?_
          rintro e w7 ⟨rfl, hB7⟩
          have HS7 := Lib.hid ((HS6.out.drewN 1).below hB7)
          have hR7 := HCB.out _ _ _ HS7.out (by simp) (by simp)
          clear hB7
          go_wp2_with fail
          refine hK.out _ _ ⟨⟨hR7, fun _ => trivial⟩, ?_⟩
          clear hK hR0
          (try simp only [Act.put, List.getElem_toArray, List.getElem_cons_zero, List.getElem_cons_succ, List.setIfInBounds_toArray, List.set_cons_zero, List.set_cons_succ])
          refine wpAnyZ.takeN (i := 7) (v := .bool true) rfl (by kernel_rfl) (by kernel_rfl) (by kernel_rfl) (by decide) (fun _ _ _ h => h) (by rfl) (fun w => ?zy) hR7 (fun _ => trivial) ?_
          case zy => go_simp
          (try simp only [Act.put, List.getElem_toArray, List.getElem_cons_zero, List.getElem_cons_succ, List.setIfInBounds_toArray, List.set_cons_zero, List.set_cons_succ])
          refine wpAnyZ.takeN (i := 8) (v := .bool true) rfl (by kernel_rfl) (by kernel_rfl) (by kernel_rfl) (by decide) (fun _ _ _ h => h) (by rfl) (fun w => ?zy) hR7 (fun _ => trivial) ?_
          case zy => go_simp
          (try simp only [Act.put, List.getElem_toArray, List.getElem_cons_zero, List.getElem_cons_succ, List.setIfInBounds_toArray, List.set_cons_zero, List.set_cons_succ])
          refine wpAnyZ.takeN (i := 9) (v := .pointer (some ⟨q4, 0, none⟩)) rfl (by kernel_rfl) (by kernel_rfl) (by kernel_rfl) (by decide) (fun _ _ _ h => h) (by rfl) (fun w => ?zy) hR7 (fun _ => trivial) ?_
          case zy => go_simp
          (try simp only [Act.put, List.getElem_toArray, List.getElem_cons_zero, List.getElem_cons_succ, List.setIfInBounds_toArray, List.set_cons_zero, List.set_cons_succ])
          refine wpAnyZ.take (i := 10) (v := .int .i64 cg) (U := (fun w' => (w'.cell? ⟨q4, 0, none⟩ = some (.int .i64 cg) ∧ w'.cell? ⟨q4, 1, none⟩ = some (.int .i64 ce) ∧ w'.cell? ⟨q4, 2, none⟩ = some (.int .i64 cb) ∧ w'.cell? ⟨q4, 3, none⟩ = some (.int .i64 cl) ∧ w'.cell? ⟨q4, 4, none⟩ = some (.int .i64 cs) ∧ w'.cell? ⟨q4, 5, none⟩ = some (.int .i64 ca) ∧ w'.cell? ⟨q4, 6, none⟩ = some (.int .i64 cr) ∧ w'.cell? ⟨q4, 7, none⟩ = some (.int .i64 cc) ∧ w'.cell? ⟨q4, 8, none⟩ = some (.int .i64 cv)) ∧ w'.cell? ⟨q + 1, 0, none⟩ = some (.int .i64 bg))) rfl (by kernel_rfl) (by kernel_rfl) (by kernel_rfl) (by decide) (fun _ _ _ h => h) (.inl fun _ h => h) (.inr fun _ h => h) (.inl ⟨by rfl, fun w hw => ?zy⟩) hR7 hR7 (fun _ => trivial) ?_
          case zy => (dsimp only at hw; obtain ⟨⟨z0, z1, z2, z3, z4, z5, z6, z7, z8⟩, z9⟩ := hw; go_simp)
          (try simp only [Act.put, List.getElem_toArray, List.getElem_cons_zero, List.getElem_cons_succ, List.setIfInBounds_toArray, List.set_cons_zero, List.set_cons_succ])
          refine wpAnyZ.takeN (i := 11) (v := .int .i64 m) rfl (by kernel_rfl) (by kernel_rfl) (by kernel_rfl) (by decide) (fun _ _ _ h => h) (by rfl) (fun w => ?zy) hR7 (fun _ => trivial) ?_
          case zy => go_simp
          (try simp only [Act.put, List.getElem_toArray, List.getElem_cons_zero, List.getElem_cons_succ, List.setIfInBounds_toArray, List.set_cons_zero, List.set_cons_succ])
          refine wpAnyZ.takeN (i := 12) (v := .int .i64 (i : Int)) rfl (by kernel_rfl) (by kernel_rfl) (by kernel_rfl) (by decide) (fun _ _ _ h => h) (by rfl) (fun w => ?zy) hR7 (fun _ => trivial) ?_
          case zy => go_simp
          (try simp only [Act.put, List.getElem_toArray, List.getElem_cons_zero, List.getElem_cons_succ, List.setIfInBounds_toArray, List.set_cons_zero, List.set_cons_succ])
          refine wpAnyZ.takeN (i := 13) (v := .bool true) rfl (by kernel_rfl) (by kernel_rfl) (by kernel_rfl) (by decide) (fun _ _ _ h => h) (by rfl) (fun w => ?zy) hR7 (fun _ => trivial) ?_
          case zy => go_simp
          (try simp only [Act.put, List.getElem_toArray, List.getElem_cons_zero, List.getElem_cons_succ, List.setIfInBounds_toArray, List.set_cons_zero, List.set_cons_succ])
          refine wpAnyZ.takeN (i := 14) (v := .bool true) rfl (by kernel_rfl) (by kernel_rfl) (by kernel_rfl) (by decide) (fun _ _ _ h => h) (by rfl) (fun w => ?zy) hR7 (fun _ => trivial) ?_
          case zy => go_simp
          (try simp only [Act.put, List.getElem_toArray, List.getElem_cons_zero, List.getElem_cons_succ, List.setIfInBounds_toArray, List.set_cons_zero, List.set_cons_succ])
          refine wpAnyZ.takeN (i := 15) (v := .bool true) rfl (by kernel_rfl) (by kernel_rfl) (by kernel_rfl) (by decide) (fun _ _ _ h => h) (by rfl) (fun w => ?zy) hR7 (fun _ => trivial) ?_
          case zy => go_simp
          (try simp only [Act.put, List.getElem_toArray, List.getElem_cons_zero, List.getElem_cons_succ, List.setIfInBounds_toArray, List.set_cons_zero, List.set_cons_succ])
          refine wpAnyZ.takeN (i := 16) (v := .pointer (some ⟨q4, 0, none⟩)) rfl (by kernel_rfl) (by kernel_rfl) (by kernel_rfl) (by decide) (fun _ _ _ h => h) (by rfl) (fun w => ?zy) hR7 (fun _ => trivial) ?_
          case zy => go_simp
          (try simp only [Act.put, List.getElem_toArray, List.getElem_cons_zero, List.getElem_cons_succ, List.setIfInBounds_toArray, List.set_cons_zero, List.set_cons_succ])
          refine wpAnyZ.take (i := 17) (v := .int .i64 cg) (U := (fun w' => (w'.cell? ⟨q4, 0, none⟩ = some (.int .i64 cg) ∧ w'.cell? ⟨q4, 1, none⟩ = some (.int .i64 ce) ∧ w'.cell? ⟨q4, 2, none⟩ = some (.int .i64 cb) ∧ w'.cell? ⟨q4, 3, none⟩ = some (.int .i64 cl) ∧ w'.cell? ⟨q4, 4, none⟩ = some (.int .i64 cs) ∧ w'.cell? ⟨q4, 5, none⟩ = some (.int .i64 ca) ∧ w'.cell? ⟨q4, 6, none⟩ = some (.int .i64 cr) ∧ w'.cell? ⟨q4, 7, none⟩ = some (.int .i64 cc) ∧ w'.cell? ⟨q4, 8, none⟩ = some (.int .i64 cv)) ∧ w'.cell? ⟨q + 1, 0, none⟩ = some (.int .i64 bg))) rfl (by kernel_rfl) (by kernel_rfl) (by kernel_rfl) (by decide) (fun _ _ _ h => h) (.inl fun _ h => h) (.inr fun _ h => h) (.inl ⟨by rfl, fun w hw => ?zy⟩) hR7 hR7 (fun _ => trivial) ?_
          case zy => (dsimp only at hw; obtain ⟨⟨z0, z1, z2, z3, z4, z5, z6, z7, z8⟩, z9⟩ := hw; go_simp)
          (try simp only [Act.put, List.getElem_toArray, List.getElem_cons_zero, List.getElem_cons_succ, List.setIfInBounds_toArray, List.set_cons_zero, List.set_cons_succ])
          refine wpAnyZ.takeN (i := 18) (v := .pointer (some ⟨q + 1, 0, none⟩)) rfl (by kernel_rfl) (by kernel_rfl) (by kernel_rfl) (by decide) (fun _ _ _ h => h) (by rfl) (fun w => ?zy) hR7 (fun _ => trivial) ?_
          case zy => go_simp
          (try simp only [Act.put, List.getElem_toArray, List.getElem_cons_zero, List.getElem_cons_succ, List.setIfInBounds_toArray, List.set_cons_zero, List.set_cons_succ])
          refine wpAnyZ.take (i := 19) (v := .int .i64 bg) (U := (fun w' => (w'.cell? ⟨q4, 0, none⟩ = some (.int .i64 cg) ∧ w'.cell? ⟨q4, 1, none⟩ = some (.int .i64 ce) ∧ w'.cell? ⟨q4, 2, none⟩ = some (.int .i64 cb) ∧ w'.cell? ⟨q4, 3, none⟩ = some (.int .i64 cl) ∧ w'.cell? ⟨q4, 4, none⟩ = some (.int .i64 cs) ∧ w'.cell? ⟨q4, 5, none⟩ = some (.int .i64 ca) ∧ w'.cell? ⟨q4, 6, none⟩ = some (.int .i64 cr) ∧ w'.cell? ⟨q4, 7, none⟩ = some (.int .i64 cc) ∧ w'.cell? ⟨q4, 8, none⟩ = some (.int .i64 cv)) ∧ w'.cell? ⟨q + 1, 0, none⟩ = some (.int .i64 bg))) rfl (by kernel_rfl) (by kernel_rfl) (by kernel_rfl) (by decide) (fun _ _ _ h => h) (.inl fun _ h => h) (.inr fun _ h => h) (.inl ⟨by rfl, fun w hw => ?zy⟩) hR7 hR7 (fun _ => trivial) ?_
          case zy => (dsimp only at hw; obtain ⟨⟨z0, z1, z2, z3, z4, z5, z6, z7, z8⟩, z9⟩ := hw; go_simp)
          (try simp only [Act.put, List.getElem_toArray, List.getElem_cons_zero, List.getElem_cons_succ, List.setIfInBounds_toArray, List.set_cons_zero, List.set_cons_succ])
          refine wpAnyZ.takeN (i := 20) (v := .bool false) rfl (by kernel_rfl) (by kernel_rfl) (by kernel_rfl) (by decide) (fun _ _ _ h => h) (by rfl) (fun w => ?zy) hR7 (fun _ => trivial) ?_
          case zy => go_simp
          (try simp only [Act.put, List.getElem_toArray, List.getElem_cons_zero, List.getElem_cons_succ, List.setIfInBounds_toArray, List.set_cons_zero, List.set_cons_succ])
          refine wpAnyZ.takeN (i := 21) (v := .bool false) rfl (by kernel_rfl) (by kernel_rfl) (by kernel_rfl) (by decide) (fun _ _ _ h => h) (by rfl) (fun w => ?zy) hR7 (fun _ => trivial) ?_
          case zy => go_simp
          (try simp only [Act.put, List.getElem_toArray, List.getElem_cons_zero, List.getElem_cons_succ, List.setIfInBounds_toArray, List.set_cons_zero, List.set_cons_succ])
          refine wpAnyZ.done (by kernel_rfl) ?_ _
          clear hR7 hd
          go_wp2
          go_roundw
          case rel =>
            refine ⟨i + 1, by omega, fun h => absurd h HDN.out, by go_num, by rw [HNB.out], ?_⟩
            rw [HNB.out]
            exact HS7.out.sub ((((List.sublist_append_left R R3).cons_cons _).cons_cons _).cons _)
          case measure => simp [intOf]; omega
        rw [decide_eq_true hv] at HVD
        have HNB := Lib.hid (show anB D (i + 1) = (⟨cg, ce, cb, cl, cs, ca, cr, cc, cv⟩, (i : Int)) by rw [HNX.out, if_pos ⟨rfl, hv, hmi, hgt⟩])
        have HC6 := HCB
        go_wp2_with fail
        rw [← HQ4.out]
        obtain ⟨W5, hW5⟩ : ∃ W5, W5 = w4.alloc (.cells #[.int .i64 cg, .int .i64 ce, .int .i64 cb, .int .i64 cl, .int .i64 cs, .int .i64 ca, .int .i64 cr, .int .i64 cc, .int .i64 cv] 25) := ⟨_, rfl⟩
        have HS6 := Lib.hid (show St w0 W5 b g v { D with rd := D.rd + (i + 1) } ((q4, spO ⟨cg, ce, cb, cl, cs, ca, cr, cc, cv⟩) :: (q + 1, spO ⟨bg, be, bb, bl, bst, ba, br, bc, bv_⟩) :: (q, spO zSp) :: (R ++ R3)) by rw [hW5]; exact HS5.out)
        rw [← hW5]
        clear hW5
        have hd := HCB.out _ _ _ HS6.out (by simp) (by simp)
        clear HNX
        have hR0 := HCB.out _ _ _ (HS6.out.drewN 1) (by simp) (by simp)
        refine wp_region_z (fun w' => (w'.cell? ⟨q4, 0, none⟩ = some (.int .i64 cg) ∧ w'.cell? ⟨q4, 1, none⟩ = some (.int .i64 ce) ∧ w'.cell? ⟨q4, 2, none⟩ = some (.int .i64 cb) ∧ w'.cell? ⟨q4, 3, none⟩ = some (.int .i64 cl) ∧ w'.cell? ⟨q4, 4, none⟩ = some (.int .i64 cs) ∧ w'.cell? ⟨q4, 5, none⟩ = some (.int .i64 ca) ∧ w'.cell? ⟨q4, 6, none⟩ = some (.int .i64 cr) ∧ w'.cell? ⟨q4, 7, none⟩ = some (.int .i64 cc) ∧ w'.cell? ⟨q4, 8, none⟩ = some (.int .i64 cv)) ∧ w'.cell? ⟨q + 1, 0, none⟩ = some (.int .i64 bg)) (fun _ => True) 22 (by kernel_rfl) ?_
        refine wpAnyZ.takeN (i := 0) (v := .int .i64 0) rfl (by kernel_rfl) (by kernel_rfl) (by kernel_rfl) (by decide) (fun _ _ _ h => h) (by rfl) (fun w => ?zy) hR0 (fun _ => trivial) ?_
        case zy => go_simp
        (try simp only [Act.put, List.getElem_toArray, List.getElem_cons_zero, List.getElem_cons_succ, List.setIfInBounds_toArray, List.set_cons_zero, List.set_cons_succ])
        refine wpAnyZ.takeN (i := 1) (v := .bool true) rfl (by kernel_rfl) (by kernel_rfl) (by kernel_rfl) (by decide) (fun _ _ _ h => h) (by rfl) (fun w => ?zy) hR0 (fun _ => trivial) ?_
        case zy => go_simp
        (try simp only [Act.put, List.getElem_toArray, List.getElem_cons_zero, List.getElem_cons_succ, List.setIfInBounds_toArray, List.set_cons_zero, List.set_cons_succ])
        refine wpAnyZ.takeN (i := 2) (v := .bool true) rfl (by kernel_rfl) (by kernel_rfl) (by kernel_rfl) (by decide) (fun _ _ _ h => h) (by rfl) (fun w => ?zy) hR0 (fun _ => trivial) ?_
        case zy => go_simp
        (try simp only [Act.put, List.getElem_toArray, List.getElem_cons_zero, List.getElem_cons_succ, List.setIfInBounds_toArray, List.set_cons_zero, List.set_cons_succ])
        refine wpAnyZ.take (i := 3) (v := .agg #[.int .i64 cg, .int .i64 ce, .int .i64 cb, .int .i64 cl, .int .i64 cs, .int .i64 ca, .int .i64 cr, .int .i64 cc, .int .i64 cv]) (U := (fun w' => (w'.cell? ⟨q4, 0, none⟩ = some (.int .i64 cg) ∧ w'.cell? ⟨q4, 1, none⟩ = some (.int .i64 ce) ∧ w'.cell? ⟨q4, 2, none⟩ = some (.int .i64 cb) ∧ w'.cell? ⟨q4, 3, none⟩ = some (.int .i64 cl) ∧ w'.cell? ⟨q4, 4, none⟩ = some (.int .i64 cs) ∧ w'.cell? ⟨q4, 5, none⟩ = some (.int .i64 ca) ∧ w'.cell? ⟨q4, 6, none⟩ = some (.int .i64 cr) ∧ w'.cell? ⟨q4, 7, none⟩ = some (.int .i64 cc) ∧ w'.cell? ⟨q4, 8, none⟩ = some (.int .i64 cv)) ∧ w'.cell? ⟨q + 1, 0, none⟩ = some (.int .i64 bg))) rfl (by kernel_rfl) (by kernel_rfl) (by kernel_rfl) (by decide) (fun _ _ _ h => h) (.inl fun _ h => h) (.inr fun _ h => h) (.inl ⟨by rfl, fun w hw => ?zy⟩) hR0 hR0 (fun _ => trivial) ?_
        case zy => (dsimp only at hw; obtain ⟨⟨z0, z1, z2, z3, z4, z5, z6, z7, z8⟩, z9⟩ := hw; go_simp)
        (try simp only [Act.put, List.getElem_toArray, List.getElem_cons_zero, List.getElem_cons_succ, List.setIfInBounds_toArray, List.set_cons_zero, List.set_cons_succ])
        refine wpAnyZ.takeN (i := 4) (v := .pointer (some ⟨b, 0, none⟩)) rfl (by kernel_rfl) (by kernel_rfl) (by kernel_rfl) (by decide) (fun _ _ _ h => h) (by rfl) (fun w => ?zy) hR0 (fun _ => trivial) ?_
        case zy => go_simp
        (try simp only [Act.put, List.getElem_toArray, List.getElem_cons_zero, List.getElem_cons_succ, List.setIfInBounds_toArray, List.set_cons_zero, List.set_cons_succ])
        refine wpAnyZ.oneK (i := 5) (E := False) (by kernel_rfl) rfl (by rfl) (fun K hK => ?_)
        go_simp
        refine (dv_BlocksV _ b g v _ (HS6.out.drewN 1).dv).mono ?_
        rintro e w6 ⟨rfl, rfl⟩
        go_wp2_with fail
        refine hK.out _ _ ⟨⟨hR0, fun _ => trivial⟩, ?_⟩
        clear hK
        (try simp only [Act.put, List.getElem_toArray, List.getElem_cons_zero, List.getElem_cons_succ, List.setIfInBounds_toArray, List.set_cons_zero, List.set_cons_succ])
        refine wpAnyZ.oneK (i := 6) (E := False) (by kernel_rfl) rfl (by rfl) (fun K hK => ?_)
        go_simp
        refine (HVD.out _).mono ?_
        rintro e w7 ⟨rfl, hB7⟩
        have HS7 := Lib.hid ((HS6.out.drewN 1).below hB7)
        have hR7 := HCB.out _ _ _ HS7.out (by simp) (by simp)
        clear hB7
        go_wp2_with fail
        refine hK.out _ _ ⟨⟨hR7, fun _ => trivial⟩, ?_⟩
        clear hK hR0
        (try simp only [Act.put, List.getElem_toArray, List.getElem_cons_zero, List.getElem_cons_succ, List.setIfInBounds_toArray, List.set_cons_zero, List.set_cons_succ])
        refine wpAnyZ.takeN (i := 7) (v := .bool true) rfl (by kernel_rfl) (by kernel_rfl) (by kernel_rfl) (by decide) (fun _ _ _ h => h) (by rfl) (fun w => ?zy) hR7 (fun _ => trivial) ?_
        case zy => go_simp
        (try simp only [Act.put, List.getElem_toArray, List.getElem_cons_zero, List.getElem_cons_succ, List.setIfInBounds_toArray, List.set_cons_zero, List.set_cons_succ])
        refine wpAnyZ.takeN (i := 8) (v := .bool true) rfl (by kernel_rfl) (by kernel_rfl) (by kernel_rfl) (by decide) (fun _ _ _ h => h) (by rfl) (fun w => ?zy) hR7 (fun _ => trivial) ?_
        case zy => go_simp
        (try simp only [Act.put, List.getElem_toArray, List.getElem_cons_zero, List.getElem_cons_succ, List.setIfInBounds_toArray, List.set_cons_zero, List.set_cons_succ])
        refine wpAnyZ.takeN (i := 9) (v := .pointer (some ⟨q4, 0, none⟩)) rfl (by kernel_rfl) (by kernel_rfl) (by kernel_rfl) (by decide) (fun _ _ _ h => h) (by rfl) (fun w => ?zy) hR7 (fun _ => trivial) ?_
        case zy => go_simp
        (try simp only [Act.put, List.getElem_toArray, List.getElem_cons_zero, List.getElem_cons_succ, List.setIfInBounds_toArray, List.set_cons_zero, List.set_cons_succ])
        refine wpAnyZ.take (i := 10) (v := .int .i64 cg) (U := (fun w' => (w'.cell? ⟨q4, 0, none⟩ = some (.int .i64 cg) ∧ w'.cell? ⟨q4, 1, none⟩ = some (.int .i64 ce) ∧ w'.cell? ⟨q4, 2, none⟩ = some (.int .i64 cb) ∧ w'.cell? ⟨q4, 3, none⟩ = some (.int .i64 cl) ∧ w'.cell? ⟨q4, 4, none⟩ = some (.int .i64 cs) ∧ w'.cell? ⟨q4, 5, none⟩ = some (.int .i64 ca) ∧ w'.cell? ⟨q4, 6, none⟩ = some (.int .i64 cr) ∧ w'.cell? ⟨q4, 7, none⟩ = some (.int .i64 cc) ∧ w'.cell? ⟨q4, 8, none⟩ = some (.int .i64 cv)) ∧ w'.cell? ⟨q + 1, 0, none⟩ = some (.int .i64 bg))) rfl (by kernel_rfl) (by kernel_rfl) (by kernel_rfl) (by decide) (fun _ _ _ h => h) (.inl fun _ h => h) (.inr fun _ h => h) (.inl ⟨by rfl, fun w hw => ?zy⟩) hR7 hR7 (fun _ => trivial) ?_
        case zy => (dsimp only at hw; obtain ⟨⟨z0, z1, z2, z3, z4, z5, z6, z7, z8⟩, z9⟩ := hw; go_simp)
        (try simp only [Act.put, List.getElem_toArray, List.getElem_cons_zero, List.getElem_cons_succ, List.setIfInBounds_toArray, List.set_cons_zero, List.set_cons_succ])
        refine wpAnyZ.takeN (i := 11) (v := .int .i64 m) rfl (by kernel_rfl) (by kernel_rfl) (by kernel_rfl) (by decide) (fun _ _ _ h => h) (by rfl) (fun w => ?zy) hR7 (fun _ => trivial) ?_
        case zy => go_simp
        (try simp only [Act.put, List.getElem_toArray, List.getElem_cons_zero, List.getElem_cons_succ, List.setIfInBounds_toArray, List.set_cons_zero, List.set_cons_succ])
        refine wpAnyZ.takeN (i := 12) (v := .int .i64 (i : Int)) rfl (by kernel_rfl) (by kernel_rfl) (by kernel_rfl) (by decide) (fun _ _ _ h => h) (by rfl) (fun w => ?zy) hR7 (fun _ => trivial) ?_
        case zy => go_simp
        (try simp only [Act.put, List.getElem_toArray, List.getElem_cons_zero, List.getElem_cons_succ, List.setIfInBounds_toArray, List.set_cons_zero, List.set_cons_succ])
        refine wpAnyZ.takeN (i := 13) (v := .bool true) rfl (by kernel_rfl) (by kernel_rfl) (by kernel_rfl) (by decide) (fun _ _ _ h => h) (by rfl) (fun w => ?zy) hR7 (fun _ => trivial) ?_
        case zy => go_simp
        (try simp only [Act.put, List.getElem_toArray, List.getElem_cons_zero, List.getElem_cons_succ, List.setIfInBounds_toArray, List.set_cons_zero, List.set_cons_succ])
        refine wpAnyZ.takeN (i := 14) (v := .bool true) rfl (by kernel_rfl) (by kernel_rfl) (by kernel_rfl) (by decide) (fun _ _ _ h => h) (by rfl) (fun w => ?zy) hR7 (fun _ => trivial) ?_
        case zy => go_simp
        (try simp only [Act.put, List.getElem_toArray, List.getElem_cons_zero, List.getElem_cons_succ, List.setIfInBounds_toArray, List.set_cons_zero, List.set_cons_succ])
        refine wpAnyZ.takeN (i := 15) (v := .bool true) rfl (by kernel_rfl) (by kernel_rfl) (by kernel_rfl) (by decide) (fun _ _ _ h => h) (by rfl) (fun w => ?zy) hR7 (fun _ => trivial) ?_
        case zy => go_simp
        (try simp only [Act.put, List.getElem_toArray, List.getElem_cons_zero, List.getElem_cons_succ, List.setIfInBounds_toArray, List.set_cons_zero, List.set_cons_succ])
        refine wpAnyZ.takeN (i := 16) (v := .pointer (some ⟨q4, 0, none⟩)) rfl (by kernel_rfl) (by kernel_rfl) (by kernel_rfl) (by decide) (fun _ _ _ h => h) (by rfl) (fun w => ?zy) hR7 (fun _ => trivial) ?_
        case zy => go_simp
        (try simp only [Act.put, List.getElem_toArray, List.getElem_cons_zero, List.getElem_cons_succ, List.setIfInBounds_toArray, List.set_cons_zero, List.set_cons_succ])
        refine wpAnyZ.take (i := 17) (v := .int .i64 cg) (U := (fun w' => (w'.cell? ⟨q4, 0, none⟩ = some (.int .i64 cg) ∧ w'.cell? ⟨q4, 1, none⟩ = some (.int .i64 ce) ∧ w'.cell? ⟨q4, 2, none⟩ = some (.int .i64 cb) ∧ w'.cell? ⟨q4, 3, none⟩ = some (.int .i64 cl) ∧ w'.cell? ⟨q4, 4, none⟩ = some (.int .i64 cs) ∧ w'.cell? ⟨q4, 5, none⟩ = some (.int .i64 ca) ∧ w'.cell? ⟨q4, 6, none⟩ = some (.int .i64 cr) ∧ w'.cell? ⟨q4, 7, none⟩ = some (.int .i64 cc) ∧ w'.cell? ⟨q4, 8, none⟩ = some (.int .i64 cv)) ∧ w'.cell? ⟨q + 1, 0, none⟩ = some (.int .i64 bg))) rfl (by kernel_rfl) (by kernel_rfl) (by kernel_rfl) (by decide) (fun _ _ _ h => h) (.inl fun _ h => h) (.inr fun _ h => h) (.inl ⟨by rfl, fun w hw => ?zy⟩) hR7 hR7 (fun _ => trivial) ?_
        case zy => (dsimp only at hw; obtain ⟨⟨z0, z1, z2, z3, z4, z5, z6, z7, z8⟩, z9⟩ := hw; go_simp)
        (try simp only [Act.put, List.getElem_toArray, List.getElem_cons_zero, List.getElem_cons_succ, List.setIfInBounds_toArray, List.set_cons_zero, List.set_cons_succ])
        refine wpAnyZ.takeN (i := 18) (v := .pointer (some ⟨q + 1, 0, none⟩)) rfl (by kernel_rfl) (by kernel_rfl) (by kernel_rfl) (by decide) (fun _ _ _ h => h) (by rfl) (fun w => ?zy) hR7 (fun _ => trivial) ?_
        case zy => go_simp
        (try simp only [Act.put, List.getElem_toArray, List.getElem_cons_zero, List.getElem_cons_succ, List.setIfInBounds_toArray, List.set_cons_zero, List.set_cons_succ])
        refine wpAnyZ.take (i := 19) (v := .int .i64 bg) (U := (fun w' => (w'.cell? ⟨q4, 0, none⟩ = some (.int .i64 cg) ∧ w'.cell? ⟨q4, 1, none⟩ = some (.int .i64 ce) ∧ w'.cell? ⟨q4, 2, none⟩ = some (.int .i64 cb) ∧ w'.cell? ⟨q4, 3, none⟩ = some (.int .i64 cl) ∧ w'.cell? ⟨q4, 4, none⟩ = some (.int .i64 cs) ∧ w'.cell? ⟨q4, 5, none⟩ = some (.int .i64 ca) ∧ w'.cell? ⟨q4, 6, none⟩ = some (.int .i64 cr) ∧ w'.cell? ⟨q4, 7, none⟩ = some (.int .i64 cc) ∧ w'.cell? ⟨q4, 8, none⟩ = some (.int .i64 cv)) ∧ w'.cell? ⟨q + 1, 0, none⟩ = some (.int .i64 bg))) rfl (by kernel_rfl) (by kernel_rfl) (by kernel_rfl) (by decide) (fun _ _ _ h => h) (.inl fun _ h => h) (.inr fun _ h => h) (.inl ⟨by rfl, fun w hw => ?zy⟩) hR7 hR7 (fun _ => trivial) ?_
        case zy => (dsimp only at hw; obtain ⟨⟨z0, z1, z2, z3, z4, z5, z6, z7, z8⟩, z9⟩ := hw; go_simp)
        (try simp only [Act.put, List.getElem_toArray, List.getElem_cons_zero, List.getElem_cons_succ, List.setIfInBounds_toArray, List.set_cons_zero, List.set_cons_succ])
        refine wpAnyZ.takeN (i := 20) (v := .bool true) rfl (by kernel_rfl) (by kernel_rfl) (by kernel_rfl) (by decide) (fun _ _ _ h => h) (by rfl) (fun w => ?zy) hR7 (fun _ => trivial) ?_
        case zy => go_simp
        (try simp only [Act.put, List.getElem_toArray, List.getElem_cons_zero, List.getElem_cons_succ, List.setIfInBounds_toArray, List.set_cons_zero, List.set_cons_succ])
        refine wpAnyZ.takeN (i := 21) (v := .bool true) rfl (by kernel_rfl) (by kernel_rfl) (by kernel_rfl) (by decide) (fun _ _ _ h => h) (by rfl) (fun w => ?zy) hR7 (fun _ => trivial) ?_
        case zy => go_simp
        (try simp only [Act.put, List.getElem_toArray, List.getElem_cons_zero, List.getElem_cons_succ, List.setIfInBounds_toArray, List.set_cons_zero, List.set_cons_succ])
        refine wpAnyZ.done (by kernel_rfl) ?_ _
        clear hR7 hd
        have hb7 := HS7.out.mem (show (q + 1, spO ⟨bg, be, bb, bl, bst, ba, br, bc, bv_⟩) ∈ _ by simp)
        have h47 := HS7.out.mem (show (q4, spO ⟨cg, ce, cb, cl, cs, ca, cr, cc, cv⟩) ∈ _ by simp)
        have hcq := cell9 (s := ⟨bg, be, bb, bl, bst, ba, br, bc, bv_⟩) hb7
        have hfq := free9 hb7
        have hc4 := cell9 (s := ⟨cg, ce, cb, cl, cs, ca, cr, cc, cv⟩) h47
        dsimp only at hcq hc4
        have HB7 := Lib.hid hb7
        have HNE := Lib.hid (show q4 ≠ q + 1 from fun e => by
          have h9 := HS7.out.kp.nd
          simp [e] at h9)
        clear hb7 h47
        go_wp2
        go_roundw
        case rel =>
          refine ⟨i + 1, by omega, fun h => absurd h HDN.out, by go_num, by rw [HNB.out], ?_⟩
          rw [HNB.out]
          exact (HS7.out.upd 1 rfl (below_put9 (s := ⟨cg, ce, cb, cl, cs, ca, cr, cc, cv⟩)) (row9 (s := ⟨cg, ce, cb, cl, cs, ca, cr, cc, cv⟩) HB7.out)).sub (by simp only [List.set_cons_succ, List.set_cons_zero]; exact (((List.sublist_append_left R R3).cons_cons _).cons_cons _).cons _)
        case measure => simp [intOf]; omega
    · obtain rfl : i = 2 := by omega
      have hdn : ¬ D.down = true := fun h => by have := hdi h; omega
      obtain ⟨bs, hbs⟩ : ∃ bs, bs = (anB D 2).1 := ⟨_, rfl⟩
      obtain ⟨bat, hbat⟩ : ∃ bat, bat = (anB D 2).2 := ⟨_, rfl⟩
      have HR2 := Lib.hid (show anR D = if bs.gen = 0 then (zSp, 0, 5, { D with rd := D.rd + 2 }) else (bs, bat, 0, { D with rd := D.rd + 2 }) by rw [HAR.out, if_neg hdn, hbs, hbat])
      rw [← hbs] at HSi
      rw [← hbat]
      have hq3 : wr.heap[q]? = some (.cells (spC zSp) 25 (0, 0)) := HSi.out.mem (show (q, spO zSp) ∈ _ by simp)
      have hb3 : wr.heap[q + 1]? = some (.cells (spC bs) 25 (0, 0)) := HSi.out.mem (show (q + 1, spO bs) ∈ _ by simp)
      have hcq := cell9 hq3
      have hfq := free9 hq3
      have hcb := cell9 hb3
      unfold zSp at hcq
      dsimp only at hcq
      have HQ3 := Lib.hid hq3
      clear hS hq3 hb3 hbs hbat hdi hdn
      obtain ⟨bg, be, bb, bl, bst, ba, br, bc, bv_⟩ := bs
      dsimp only at hcb
      by_cases hg0 : bg = 0
      · have hgb : (bg == 0) = true := by simp [hg0]
        have HD := Lib.hid (show anR D = (zSp, 0, 5, { D with rd := D.rd + 2 }) by rw [HR2.out, if_pos hg0])
        go_wp2
        (try simp only [Exit.inBlock, Exit.then])
        refine bodyPost_ret (results_cr3 rfl _ _ q 25 (spC zSp) (0, 0) _ rfl (row9 (s := zSp) HQ3.out) Try.underlying25 rfl sz_sup) rfl ⟨by rw [HD.out]; rfl, ?_⟩
        rw [HD.out]
        exact (HSi.out.upd 1 rfl (below_put9 (s := zSp)) (row9 (s := zSp) HQ3.out)).sub (by simp only [List.set_cons_succ, List.set_cons_zero]; exact ((List.Sublist.refl R).cons _).cons _)
      · have hgb : (bg == 0) = false := by simp [hg0]
        have HD := Lib.hid (show anR D = (⟨bg, be, bb, bl, bst, ba, br, bc, bv_⟩, bat, 0, { D with rd := D.rd + 2 }) by rw [HR2.out, if_neg hg0])
        go_wp2
        (try simp only [Exit.inBlock, Exit.then])
        refine bodyPost_ret (results_cr3 rfl _ _ q 25 (spC ⟨bg, be, bb, bl, bst, ba, br, bc, bv_⟩) (0, 0) _ rfl (row9 (s := ⟨bg, be, bb, bl, bst, ba, br, bc, bv_⟩) HQ3.out) Try.underlying25 rfl sz_sup) rfl ⟨by rw [HD.out]; rfl, ?_⟩
        rw [HD.out]
        exact (HSi.out.upd 1 rfl (below_put9 (s := ⟨bg, be, bb, bl, bst, ba, br, bc, bv_⟩)) (row9 (s := ⟨bg, be, bb, bl, bst, ba, br, bc, bv_⟩) HQ3.out)).sub (by simp only [List.set_cons_succ, List.set_cons_zero]; exact ((List.Sublist.refl R).cons _).cons _)
end
end Go.Proofs.Ytggoaelbglhehaa
