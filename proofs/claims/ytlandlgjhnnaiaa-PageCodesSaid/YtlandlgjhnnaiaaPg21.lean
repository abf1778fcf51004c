/- The laws' copied. -/
import Derived.Test.YtlandlgjhnnaiaaPg19
import Derived.Test.YtlandlgjhnnaiaaPg20
set_option linter.unusedVariables false
set_option linter.unusedSimpArgs false
set_option maxRecDepth 100000
namespace Go.Proofs.Ytlandlgjhnnaiaa
open Go.RowKit
/-- there is a slice, and there are its blocks -/
def Ex2 (P : Value → List (Nat × Obj) → Prop) : Prop := ∃ v Q, P v Q
/-- a node's lists are short enough for memory -/
def NdB (n : Nd) : Prop := n.ents.length ≤ 4398046510976 ∧ n.chs.length ≤ 17592186043904 ∧ n.keys.length ≤ 8796093021952 ∧ n.kids.length ≤ 17592186043904
/-- a node's lists are new, each in a block of its own or nil -/
def NdQ (w w' : World) (n : Nd) (AE : Option Addr) (cE : Nat) (AC : Option Addr) (cC : Nat) (AK : Option Addr) (cK : Nat) (AD : Option Addr) (cD : Nat) : Prop :=
  ∃ QE QC QK QD, QV 46 2 (.slice AE n.ents.length cE) n.ents.length (ev n.ents) QE ∧ QV 3 1 (.slice AC n.chs.length cC) n.chs.length (iv_ n.chs) QC ∧ QV 9 1 (.slice AK n.keys.length cK) n.keys.length (tv n.keys) QK ∧ QV 3 1 (.slice AD n.kids.length cD) n.kids.length (iv_ n.kids) QD ∧ Rw w w' (QE ++ (QC ++ (QK ++ (QD ++ []))))
set_option maxHeartbeats 8000000 in
theorem l9_copiedQ (n : Nd) (vE vC vK vD : Value) (w : World) (hN : NdR w n vE vC vK vD) (hb : NdB n) :
    Calls Try.prog 13 #[.agg (ndC n vE vC vK vD)] w fun e w' => ∃ AE cE AC cC AK cK AD cD, e = .returned (.agg (ndC n (.slice AE n.ents.length cE) (.slice AC n.chs.length cC) (.slice AK n.keys.length cK) (.slice AD n.kids.length cD))) ∧ NdQ w w' n AE cE AC cC AK cK AD cD := by
  obtain ⟨⟨A1, c1, rfl, h1⟩, ⟨A2, c2, rfl, h2⟩, ⟨A3, c3, rfl, h3⟩, ⟨A4, c4, rfl, h4⟩⟩ := hN
  obtain ⟨kind, ents, chs, keys, kids, next, data⟩ := n
  obtain ⟨b1, b2, b3, b4⟩ := hb
  unfold ndC
  dsimp only at h1 h2 h3 h4 b1 b2 b3 b4 ⊢
  have HR1 := Lib.hid h1
  have HR2 := Lib.hid h2
  have HR3 := Lib.hid h3
  have HR4 := Lib.hid h4
  have HB1 := Lib.hid b1
  have HB2 := Lib.hid b2
  have HB3 := Lib.hid b3
  have HB4 := Lib.hid b4
  clear h1 h2 h3 h4
  obtain ⟨p, hp⟩ : ∃ p, p = w.heap.size := ⟨_, rfl⟩
  obtain ⟨W0, hW0⟩ : ∃ W0, W0 = w.alloc (ndRow kind (.slice A1 ents.length c1) (.slice A2 chs.length c2) (.slice A3 keys.length c3) (.slice A4 kids.length c4) next data) := ⟨_, rfl⟩
  have HS0 := Lib.hid (show Rw w W0 [(p, ndRow kind (.slice A1 ents.length c1) (.slice A2 chs.length c2) (.slice A3 keys.length c3) (.slice A4 kids.length c4) next data)] by rw [hW0, hp]; exact (Rw.start w).made _)
  obtain ⟨r, hr⟩ : ∃ r, r = W0.heap.size := ⟨_, rfl⟩
  obtain ⟨W1, hW1⟩ : ∃ W1, W1 = W0.alloc (ndRow 0 nilV nilV nilV nilV 0 ⟨#[]⟩) := ⟨_, rfl⟩
  have HS1 := Lib.hid (show Rw w W1 [(r, ndRow 0 nilV nilV nilV nilV 0 ⟨#[]⟩), (p, ndRow kind (.slice A1 ents.length c1) (.slice A2 chs.length c2) (.slice A3 keys.length c3) (.slice A4 kids.length c4) next data)] by rw [hW1, hr]; exact HS0.out.made _)
  obtain ⟨q, hq⟩ : ∃ q, q = W1.heap.size := ⟨_, rfl⟩
  obtain ⟨W2, hW2⟩ : ∃ W2, W2 = W1.alloc (ndRow kind nilV nilV nilV nilV next data) := ⟨_, rfl⟩
  have HS2 := Lib.hid (show Rw w W2 [(q, ndRow kind nilV nilV nilV nilV next data), (r, ndRow 0 nilV nilV nilV nilV 0 ⟨#[]⟩), (p, ndRow kind (.slice A1 ents.length c1) (.slice A2 chs.length c2) (.slice A3 keys.length c3) (.slice A4 kids.length c4) next data)] by rw [hW2, hq]; exact HS1.out.made _)
  have hr9 : r = w.heap.size + 1 := by rw [hr, hW0]; simp
  have hq9 : q = w.heap.size + 1 + 1 := by rw [hq, hW1, World.size_alloc, ← hr, hr9]
  rw [hW1] at hW2
  rw [hW0] at hW2
  unfold ndRow nilV at hW2
  clear hW0 hW1 hr hq
  go_enter Try.func13, Try.ntmps13
  go_upto_region 2 with fail
  (try rw [← hW2])
  (try rw [← hq9])
  (try rw [← hr9])
  (try rw [← hp])
  clear hW2 hq9 hr9 hp
  obtain ⟨i1, hi1, hzz⟩ := Option.map_eq_some_iff.1 info_en
  simp only [Prod.mk.injEq] at hzz
  have HI1 := Lib.hid (And.intro hi1 (And.intro hzz.1 (And.intro hzz.2.1 hzz.2.2)))
  clear hi1 hzz
  go_wp2_with fail
  go_loopw [4] (fun x wr => ∃ k : Nat, k ≤ ents.length ∧ x = .int .i64 k ∧ Ex2 fun vX QX => Rw w wr ((q, ndRow kind vX nilV nilV nilV next data) :: (r, ndRow 0 nilV nilV nilV nilV 0 ⟨#[]⟩) :: (p, ndRow kind (.slice A1 ents.length c1) (.slice A2 chs.length c2) (.slice A3 keys.length c3) (.slice A4 kids.length c4) next data) :: (QX ++ [])) ∧ QV 46 2 vX k (ev (ents.take k)) QX) (fun x _ => ents.length - (intOf x).toNat)
  case atStart => exact ⟨0, by omega, rfl, nilV, [], HS2.out, QV.nil _ _⟩
  case round =>
    obtain ⟨k, hk, rfl, vX, QX, hS, hqX⟩ := hrel
    have HS := Lib.hid hS
    have HQX := Lib.hid hqX
    obtain ⟨AX, cX, rfl⟩ := hqX.slice
    obtain ⟨vX, hvX⟩ : ∃ vX, vX = Value.slice AX k cX := ⟨_, rfl⟩
    have hcp : wr.cell? ⟨p, 1, none⟩ = some (.slice A1 ents.length c1) := cell_of_row _ p 1 _ _ _ (HS.out.get 2 rfl)
    by_cases hkn : k < ents.length
    · rw [← hvX] at HS HQX
      have HVX := Lib.hid hvX
      clear hvX hS hqX
      obtain ⟨b, o, rfl, hc⟩ := HR1.out.at_ (by omega)
      have HTK := Lib.hid (take_snoc ents k default (by omega))
      have HEK := Lib.hid (hc k hkn).1
      have HEV := Lib.hid (hc k hkn).2
      obtain ⟨e, he⟩ : ∃ e, e = ents.getD k default := ⟨_, rfl⟩
      rw [← he] at HEK HEV HTK
      obtain ⟨key, val⟩ := e
      dsimp only at HEK HEV
      clear hc he
      have hk0 : (0 : Int) ≤ (k : Int) ∧ (k : Int) < (ents.length : Int) := by omega
      obtain ⟨Vd, hVd⟩ : ∃ Vd, Vd = wr.drew := ⟨_, rfl⟩
      have HSd := Lib.hid (show Rw w Vd ((q, ndRow kind vX nilV nilV nilV next data) :: (r, ndRow 0 nilV nilV nilV nilV 0 ⟨#[]⟩) :: (p, ndRow kind (.slice (some ⟨b, o, none⟩) ents.length c1) (.slice A2 chs.length c2) (.slice A3 keys.length c3) (.slice A4 kids.length c4) next data) :: (QX ++ [])) by rw [hVd]; exact HS.out.drew)
      have hT : (fun w' : World => w'.cell? ⟨q, 1, none⟩ = some vX ∧ w'.cell? ⟨p, 1, none⟩ = some (.slice (some ⟨b, o, none⟩) ents.length c1) ∧ w'.cell? ⟨b, o + k * 2, none⟩ = some (.string key) ∧ w'.cell? ⟨b, o + k * 2 + 1, none⟩ = some (.string val)) Vd := ⟨cell_of_row _ q 1 _ _ _ (HSd.out.get 0 rfl), cell_of_row _ p 1 _ _ _ (HSd.out.get 2 rfl), cell_ext HSd.out.bl HEK.out, cell_ext HSd.out.bl HEV.out⟩
      go_upto_region 5 with fail
      refine wp_region_z (fun w' => True) (fun w' : World => w'.cell? ⟨q, 1, none⟩ = some vX ∧ w'.cell? ⟨p, 1, none⟩ = some (.slice (some ⟨b, o, none⟩) ents.length c1) ∧ w'.cell? ⟨b, o + k * 2, none⟩ = some (.string key) ∧ w'.cell? ⟨b, o + k * 2 + 1, none⟩ = some (.string val)) 10 (by kernel_rfl) ?_
      rw [← hVd]
      clear hVd
      refine wpAnyZ.takeN (i := 0) (v := .pointer (some ⟨q, 1, none⟩)) rfl (by kernel_rfl) (by kernel_rfl) (by kernel_rfl) (by decide) (fun _ _ _ h => h) (by rfl) (fun w => ?zy) trivial (fun _ => hT) ?_
      case zy => (go_simp)
      (try simp only [Act.put, List.getElem_toArray, List.getElem_cons_zero, List.getElem_cons_succ, List.setIfInBounds_toArray, List.set_cons_zero, List.set_cons_succ])
      refine wpAnyZ.take (i := 1) (v := vX) (U := fun w' : World => w'.cell? ⟨q, 1, none⟩ = some vX ∧ w'.cell? ⟨p, 1, none⟩ = some (.slice (some ⟨b, o, none⟩) ents.length c1) ∧ w'.cell? ⟨b, o + k * 2, none⟩ = some (.string key) ∧ w'.cell? ⟨b, o + k * 2 + 1, none⟩ = some (.string val)) rfl (by kernel_rfl) (by kernel_rfl) (by kernel_rfl) (by decide) (fun _ _ _ h => h) (.inr ⟨fun _ h => h, by kernel_rfl⟩) (.inl (by kernel_rfl)) (.inl ⟨by rfl, fun w hw => ?zy⟩) hT trivial (fun _ => hT) ?_
      case zy => (obtain ⟨hw1, hw2, hw3, hw4⟩ := hw; go_simp)
      (try simp only [Act.put, List.getElem_toArray, List.getElem_cons_zero, List.getElem_cons_succ, List.setIfInBounds_toArray, List.set_cons_zero, List.set_cons_succ])
      refine wpAnyZ.takeN (i := 2) (v := .pointer (some ⟨p, 1, none⟩)) rfl (by kernel_rfl) (by kernel_rfl) (by kernel_rfl) (by decide) (fun _ _ _ h => h) (by rfl) (fun w => ?zy) trivial (fun _ => hT) ?_
      case zy => (go_simp)
      (try simp only [Act.put, List.getElem_toArray, List.getElem_cons_zero, List.getElem_cons_succ, List.setIfInBounds_toArray, List.set_cons_zero, List.set_cons_succ])
      refine wpAnyZ.take (i := 3) (v := .slice (some ⟨b, o, none⟩) ents.length c1) (U := fun w' : World => w'.cell? ⟨q, 1, none⟩ = some vX ∧ w'.cell? ⟨p, 1, none⟩ = some (.slice (some ⟨b, o, none⟩) ents.length c1) ∧ w'.cell? ⟨b, o + k * 2, none⟩ = some (.string key) ∧ w'.cell? ⟨b, o + k * 2 + 1, none⟩ = some (.string val)) rfl (by kernel_rfl) (by kernel_rfl) (by kernel_rfl) (by decide) (fun _ _ _ h => h) (.inr ⟨fun _ h => h, by kernel_rfl⟩) (.inl (by kernel_rfl)) (.inl ⟨by rfl, fun w hw => ?zy⟩) hT trivial (fun _ => hT) ?_
      case zy => (obtain ⟨hw1, hw2, hw3, hw4⟩ := hw; go_simp)
      (try simp only [Act.put, List.getElem_toArray, List.getElem_cons_zero, List.getElem_cons_succ, List.setIfInBounds_toArray, List.set_cons_zero, List.set_cons_succ])
      refine wpAnyZ.takeN (i := 4) (v := .int .i64 (k : Int)) rfl (by kernel_rfl) (by kernel_rfl) (by kernel_rfl) (by decide) (fun _ _ _ h => h) (by rfl) (fun w => ?zy) trivial (fun _ => hT) ?_
      case zy => (go_simp)
      (try simp only [Act.put, List.getElem_toArray, List.getElem_cons_zero, List.getElem_cons_succ, List.setIfInBounds_toArray, List.set_cons_zero, List.set_cons_succ])
      refine wpAnyZ.takeN (i := 5) (v := .pointer (some ⟨b, o + k * 2, none⟩)) rfl (by kernel_rfl) (by kernel_rfl) (by kernel_rfl) (by decide) (fun _ _ _ h => h) (by rfl) (fun w => ?zy) trivial (fun _ => hT) ?_
      case zy => (go_simp)
      (try simp only [Act.put, List.getElem_toArray, List.getElem_cons_zero, List.getElem_cons_succ, List.setIfInBounds_toArray, List.set_cons_zero, List.set_cons_succ])
      refine wpAnyZ.take (i := 6) (v := .agg #[.string key, .string val]) (U := fun w' : World => w'.cell? ⟨q, 1, none⟩ = some vX ∧ w'.cell? ⟨p, 1, none⟩ = some (.slice (some ⟨b, o, none⟩) ents.length c1) ∧ w'.cell? ⟨b, o + k * 2, none⟩ = some (.string key) ∧ w'.cell? ⟨b, o + k * 2 + 1, none⟩ = some (.string val)) rfl (by kernel_rfl) (by kernel_rfl) (by kernel_rfl) (by decide) (fun _ _ _ h => h) (.inr ⟨fun _ h => h, by kernel_rfl⟩) (.inl (by kernel_rfl)) (.inl ⟨by rfl, fun w hw => ?zy⟩) hT trivial (fun _ => hT) ?_
      case zy => (obtain ⟨hw1, hw2, hw3, hw4⟩ := hw; go_simp)
      (try simp only [Act.put, List.getElem_toArray, List.getElem_cons_zero, List.getElem_cons_succ, List.setIfInBounds_toArray, List.set_cons_zero, List.set_cons_succ])
      refine wpAnyZ.oneK (i := 7) (E := False) (by kernel_rfl) rfl (by rfl) (fun K hK => ?_)
      go_simp
      obtain ⟨bx28, hbx28⟩ : ∃ b, b = Vd.heap.size := ⟨_, rfl⟩
      obtain ⟨V29, hV29⟩ : ∃ V, V = Vd.alloc (.cells #[.string key, .string val] 46) := ⟨_, rfl⟩
      have HS30 := Lib.hid (show Rw w V29 ((bx28, .cells #[.string key, .string val] 46 (0, 0)) :: (q, ndRow kind vX nilV nilV nilV next data) :: (r, ndRow 0 nilV nilV nilV nilV 0 ⟨#[]⟩) :: (p, ndRow kind (.slice (some ⟨b, o, none⟩) ents.length c1) (.slice A2 chs.length c2) (.slice A3 keys.length c3) (.slice A4 kids.length c4) next data) :: (QX ++ [])) by rw [hV29, hbx28]; exact HSd.out.made _)
      rw [← hV29, ← hbx28]
      clear hV29 hbx28 hT
      have hT : (fun w' : World => w'.cell? ⟨q, 1, none⟩ = some vX ∧ w'.cell? ⟨p, 1, none⟩ = some (.slice (some ⟨b, o, none⟩) ents.length c1) ∧ w'.cell? ⟨b, o + k * 2, none⟩ = some (.string key) ∧ w'.cell? ⟨b, o + k * 2 + 1, none⟩ = some (.string val)) V29 := ⟨cell_of_row _ q 1 _ _ _ (HS30.out.get 1 rfl), cell_of_row _ p 1 _ _ _ (HS30.out.get 3 rfl), cell_ext HS30.out.bl HEK.out, cell_ext HS30.out.bl HEV.out⟩
      refine hK.out _ _ ⟨⟨trivial, fun _ => hT⟩, ?_⟩
      clear hK
      (try simp only [Act.put, List.getElem_toArray, List.getElem_cons_zero, List.getElem_cons_succ, List.setIfInBounds_toArray, List.set_cons_zero, List.set_cons_succ])
      refine wpAnyZ.oneK (i := 8) (E := False) (by kernel_rfl) rfl (by rfl) (fun K hK => ?_)
      have h9 : Rw w V29 ([(bx28, .cells #[.string key, .string val] 46 (0, 0)), (q, ndRow kind vX nilV nilV nilV next data), (r, ndRow 0 nilV nilV nilV nilV 0 ⟨#[]⟩), (p, ndRow kind (.slice (some ⟨b, o, none⟩) ents.length c1) (.slice A2 chs.length c2) (.slice A3 keys.length c3) (.slice A4 kids.length c4) next data)] ++ (QX ++ [])) := by (try simp only [List.append_assoc]); exact HS30.out
      obtain ⟨v33, V31, Q34, hrun, hq1, hS1⟩ := Rw.run_appQ Try.underlying22 HI1.out.1 HI1.out.2.1 HI1.out.2.2.1 HI1.out.2.2.2 rfl (by decide) 22 h9 HQX.out [.string key, .string val] rfl (by intro u hu; simp at hu; rcases hu with rfl | rfl <;> rfl) (by have := HB1.out; omega) (by have := HB1.out; simp only [maxLen]; omega) bx28 (HS30.out.get 0 rfl)
      clear h9
      (try simp only [List.append_assoc] at hS1)
      obtain ⟨Av33, cv33, rfl⟩ := hq1.slice
      have HQ1 := Lib.hid hq1
      have hS2 : Rw w V31 ((bx28, .cells #[.string key, .string val] 46 (0, 0)) :: (q, ndRow kind vX nilV nilV nilV next data) :: (r, ndRow 0 nilV nilV nilV nilV 0 ⟨#[]⟩) :: (p, ndRow kind (.slice (some ⟨b, o, none⟩) ents.length c1) (.slice A2 chs.length c2) (.slice A3 keys.length c3) (.slice A4 kids.length c4) next data) :: (Q34 ++ [])) := hS1
      have HS32 := Lib.hid (show Rw w V31 ((q, ndRow kind vX nilV nilV nilV next data) :: (r, ndRow 0 nilV nilV nilV nilV 0 ⟨#[]⟩) :: (p, ndRow kind (.slice (some ⟨b, o, none⟩) ents.length c1) (.slice A2 chs.length c2) (.slice A3 keys.length c3) (.slice A4 kids.length c4) next data) :: (Q34 ++ [])) from hS2.sub (List.sublist_cons_self _ _))
      clear hS1 hS2 hq1 hT
      have hT : (fun w' : World => w'.cell? ⟨q, 1, none⟩ = some vX ∧ w'.cell? ⟨p, 1, none⟩ = some (.slice (some ⟨b, o, none⟩) ents.length c1) ∧ w'.cell? ⟨b, o + k * 2, none⟩ = some (.string key) ∧ w'.cell? ⟨b, o + k * 2 + 1, none⟩ = some (.string val)) V31 := ⟨cell_of_row _ q 1 _ _ _ (HS32.out.get 0 rfl), cell_of_row _ p 1 _ _ _ (HS32.out.get 2 rfl), cell_ext HS32.out.bl HEK.out, cell_ext HS32.out.bl HEV.out⟩
      refine step_app1 _ _ rfl rfl rfl rfl hrun ?_
      clear hrun
      refine hK.out _ _ ⟨⟨trivial, fun _ => hT⟩, ?_⟩
      clear hK
      (try simp only [Act.put, List.getElem_toArray, List.getElem_cons_zero, List.getElem_cons_succ, List.setIfInBounds_toArray, List.set_cons_zero, List.set_cons_succ])
      refine wpAnyZ.takeN (i := 9) (v := .pointer (some ⟨q, 1, none⟩)) rfl (by kernel_rfl) (by kernel_rfl) (by kernel_rfl) (by decide) (fun _ _ _ h => h) (by rfl) (fun w => ?zy) trivial (fun _ => hT) ?_
      case zy => (go_simp)
      (try simp only [Act.put, List.getElem_toArray, List.getElem_cons_zero, List.getElem_cons_succ, List.setIfInBounds_toArray, List.set_cons_zero, List.set_cons_succ])
      refine wpAnyZ.oneK (i := 10) (E := False) (by kernel_rfl) rfl (by rfl) (fun K hK => ?_)
      have hrw := HS32.out.get 0 rfl
      have e1 : V31.cell? ⟨q, 1, none⟩ = some vX := cell_of_row _ q 1 _ _ _ hrw
      have f1 : V31.frozen? ⟨q, 1, none⟩ = false := frozen_of_row _ q 1 _ _ hrw
      have HS36 := Lib.hid (show Rw w (V31.setCell ⟨q, 1, none⟩ (.slice Av33 (k + 1) cv33)) ((q, ndRow kind (.slice Av33 (k + 1) cv33) nilV nilV nilV next data) :: (r, ndRow 0 nilV nilV nilV nilV 0 ⟨#[]⟩) :: (p, ndRow kind (.slice (some ⟨b, o, none⟩) ents.length c1) (.slice A2 chs.length c2) (.slice A3 keys.length c3) (.slice A4 kids.length c4) next data) :: (Q34 ++ [])) from HS32.out.store 0 rfl 1 (.slice Av33 (k + 1) cv33))
      go_simp
      obtain ⟨V35, hV35⟩ : ∃ V, V = V31.setCell ⟨q, 1, none⟩ (.slice Av33 (k + 1) cv33) := ⟨_, rfl⟩
      rw [← hV35] at HS36 ⊢
      clear hV35 hrw e1 f1 hT
      refine hK.out _ _ ⟨⟨trivial, (fun h => (have h9 : (true : Bool) = false := h; by cases h9))⟩, ?_⟩
      clear hK
      refine wpAnyZ.done (by kernel_rfl) ?_ _
      go_wp2
      go_roundw
      case rel => exact ⟨k + 1, by omega, by go_num, (.slice Av33 (k + 1) cv33), Q34, HS36.out, by rw [HTK.out, ev_append]; exact HQ1.out⟩
      case measure => simp [intOf]; omega
    · obtain rfl : k = ents.length := by omega
      have HQE := Lib.hid hqX
      rw [List.take_of_length_le (Nat.le_refl _)] at HQE
      clear hvX hS hqX vX HQX
      have HSN := Lib.hid (show Rw w wr ((q, ndRow kind (.slice AX ents.length cX) nilV nilV nilV next data) :: (r, ndRow 0 nilV nilV nilV nilV 0 ⟨#[]⟩) :: (p, ndRow kind (.slice A1 ents.length c1) (.slice A2 chs.length c2) (.slice A3 keys.length c3) (.slice A4 kids.length c4) next data) :: (QX ++ ([] ++ []))) by have h9 := HS.out; (try simp only [List.append_nil] at h9 ⊢); exact h9)
      obtain ⟨AE, hAE⟩ : ∃ A, A = AX := ⟨_, rfl⟩
      obtain ⟨cE, hcE⟩ : ∃ c, c = cX := ⟨_, rfl⟩
      obtain ⟨QE, hQE⟩ : ∃ Q, Q = QX := ⟨_, rfl⟩
      rw [← hAE, ← hcE, ← hQE] at HSN HQE
      clear hAE hcE hQE HS
      clear AX cX QX
      obtain ⟨i2, hi2, hzz⟩ := Option.map_eq_some_iff.1 info_int
      simp only [Prod.mk.injEq] at hzz
      have HI2 := Lib.hid (And.intro hi2 (And.intro hzz.1 (And.intro hzz.2.1 hzz.2.2)))
      clear hi2 hzz
      go_wp2_with fail
      go_loopw [5] (fun x wr => ∃ k : Nat, k ≤ chs.length ∧ x = .int .i64 k ∧ Ex2 fun vX QX => Rw w wr ((q, ndRow kind (.slice AE ents.length cE) vX nilV nilV next data) :: (r, ndRow 0 nilV nilV nilV nilV 0 ⟨#[]⟩) :: (p, ndRow kind (.slice A1 ents.length c1) (.slice A2 chs.length c2) (.slice A3 keys.length c3) (.slice A4 kids.length c4) next data) :: (QE ++ (QX ++ []))) ∧ QV 3 1 vX k (iv_ (chs.take k)) QX) (fun x _ => chs.length - (intOf x).toNat)
      case atStart => exact ⟨0, by omega, rfl, nilV, [], HSN.out, QV.nil _ _⟩
      case round =>
        obtain ⟨k, hk, rfl, vX, QX, hS, hqX⟩ := hrel
        have HS := Lib.hid hS
        have HQX := Lib.hid hqX
        obtain ⟨AX, cX, rfl⟩ := hqX.slice
        obtain ⟨vX, hvX⟩ : ∃ vX, vX = Value.slice AX k cX := ⟨_, rfl⟩
        have hcp : wr.cell? ⟨p, 2, none⟩ = some (.slice A2 chs.length c2) := cell_of_row _ p 2 _ _ _ (HS.out.get 2 rfl)
        by_cases hkn : k < chs.length
        · rw [← hvX] at HS HQX
          have HVX := Lib.hid hvX
          clear hvX hS hqX
          obtain ⟨b, o, rfl, -, hc⟩ := HR2.out.at_ (by omega)
          have HTK := Lib.hid (take_snoc chs k 0 (by omega))
          have HEK := Lib.hid (hc k hkn)
          obtain ⟨x, hx⟩ : ∃ x, x = chs.getD k 0 := ⟨_, rfl⟩
          rw [← hx] at HEK HTK
          clear hc hx
          have hk0 : (0 : Int) ≤ (k : Int) ∧ (k : Int) < (chs.length : Int) := by omega
          obtain ⟨Vd, hVd⟩ : ∃ Vd, Vd = wr.drew := ⟨_, rfl⟩
          have HSd := Lib.hid (show Rw w Vd ((q, ndRow kind (.slice AE ents.length cE) vX nilV nilV next data) :: (r, ndRow 0 nilV nilV nilV nilV 0 ⟨#[]⟩) :: (p, ndRow kind (.slice A1 ents.length c1) (.slice (some ⟨b, o, none⟩) chs.length c2) (.slice A3 keys.length c3) (.slice A4 kids.length c4) next data) :: (QE ++ (QX ++ []))) by rw [hVd]; exact HS.out.drew)
          have hT : (fun w' : World => w'.cell? ⟨q, 2, none⟩ = some vX ∧ w'.cell? ⟨p, 2, none⟩ = some (.slice (some ⟨b, o, none⟩) chs.length c2) ∧ w'.cell? ⟨b, o + k, none⟩ = some (.int .i64 x)) Vd := ⟨cell_of_row _ q 2 _ _ _ (HSd.out.get 0 rfl), cell_of_row _ p 2 _ _ _ (HSd.out.get 2 rfl), cell_ext HSd.out.bl HEK.out⟩
          go_upto_region 9 with fail
          refine wp_region_z (fun w' => True) (fun w' : World => w'.cell? ⟨q, 2, none⟩ = some vX ∧ w'.cell? ⟨p, 2, none⟩ = some (.slice (some ⟨b, o, none⟩) chs.length c2) ∧ w'.cell? ⟨b, o + k, none⟩ = some (.int .i64 x)) 10 (by kernel_rfl) ?_
          rw [← hVd]
          clear hVd
          refine wpAnyZ.takeN (i := 0) (v := .pointer (some ⟨q, 2, none⟩)) rfl (by kernel_rfl) (by kernel_rfl) (by kernel_rfl) (by decide) (fun _ _ _ h => h) (by rfl) (fun w => ?zy) trivial (fun _ => hT) ?_
          case zy => (go_simp)
          (try simp only [Act.put, List.getElem_toArray, List.getElem_cons_zero, List.getElem_cons_succ, List.setIfInBounds_toArray, List.set_cons_zero, List.set_cons_succ])
          refine wpAnyZ.take (i := 1) (v := vX) (U := fun w' : World => w'.cell? ⟨q, 2, none⟩ = some vX ∧ w'.cell? ⟨p, 2, none⟩ = some (.slice (some ⟨b, o, none⟩) chs.length c2) ∧ w'.cell? ⟨b, o + k, none⟩ = some (.int .i64 x)) rfl (by kernel_rfl) (by kernel_rfl) (by kernel_rfl) (by decide) (fun _ _ _ h => h) (.inr ⟨fun _ h => h, by kernel_rfl⟩) (.inl (by kernel_rfl)) (.inl ⟨by rfl, fun w hw => ?zy⟩) hT trivial (fun _ => hT) ?_
          case zy => (obtain ⟨hw1, hw2, hw3⟩ := hw; go_simp)
          (try simp only [Act.put, List.getElem_toArray, List.getElem_cons_zero, List.getElem_cons_succ, List.setIfInBounds_toArray, List.set_cons_zero, List.set_cons_succ])
          refine wpAnyZ.takeN (i := 2) (v := .pointer (some ⟨p, 2, none⟩)) rfl (by kernel_rfl) (by kernel_rfl) (by kernel_rfl) (by decide) (fun _ _ _ h => h) (by rfl) (fun w => ?zy) trivial (fun _ => hT) ?_
          case zy => (go_simp)
          (try simp only [Act.put, List.getElem_toArray, List.getElem_cons_zero, List.getElem_cons_succ, List.setIfInBounds_toArray, List.set_cons_zero, List.set_cons_succ])
          refine wpAnyZ.take (i := 3) (v := .slice (some ⟨b, o, none⟩) chs.length c2) (U := fun w' : World => w'.cell? ⟨q, 2, none⟩ = some vX ∧ w'.cell? ⟨p, 2, none⟩ = some (.slice (some ⟨b, o, none⟩) chs.length c2) ∧ w'.cell? ⟨b, o + k, none⟩ = some (.int .i64 x)) rfl (by kernel_rfl) (by kernel_rfl) (by kernel_rfl) (by decide) (fun _ _ _ h => h) (.inr ⟨fun _ h => h, by kernel_rfl⟩) (.inl (by kernel_rfl)) (.inl ⟨by rfl, fun w hw => ?zy⟩) hT trivial (fun _ => hT) ?_
          case zy => (obtain ⟨hw1, hw2, hw3⟩ := hw; go_simp)
          (try simp only [Act.put, List.getElem_toArray, List.getElem_cons_zero, List.getElem_cons_succ, List.setIfInBounds_toArray, List.set_cons_zero, List.set_cons_succ])
          refine wpAnyZ.takeN (i := 4) (v := .int .i64 (k : Int)) rfl (by kernel_rfl) (by kernel_rfl) (by kernel_rfl) (by decide) (fun _ _ _ h => h) (by rfl) (fun w => ?zy) trivial (fun _ => hT) ?_
          case zy => (go_simp)
          (try simp only [Act.put, List.getElem_toArray, List.getElem_cons_zero, List.getElem_cons_succ, List.setIfInBounds_toArray, List.set_cons_zero, List.set_cons_succ])
          refine wpAnyZ.takeN (i := 5) (v := .pointer (some ⟨b, o + k, none⟩)) rfl (by kernel_rfl) (by kernel_rfl) (by kernel_rfl) (by decide) (fun _ _ _ h => h) (by rfl) (fun w => ?zy) trivial (fun _ => hT) ?_
          case zy => (go_simp)
          (try simp only [Act.put, List.getElem_toArray, List.getElem_cons_zero, List.getElem_cons_succ, List.setIfInBounds_toArray, List.set_cons_zero, List.set_cons_succ])
          refine wpAnyZ.take (i := 6) (v := .int .i64 x) (U := fun w' : World => w'.cell? ⟨q, 2, none⟩ = some vX ∧ w'.cell? ⟨p, 2, none⟩ = some (.slice (some ⟨b, o, none⟩) chs.length c2) ∧ w'.cell? ⟨b, o + k, none⟩ = some (.int .i64 x)) rfl (by kernel_rfl) (by kernel_rfl) (by kernel_rfl) (by decide) (fun _ _ _ h => h) (.inr ⟨fun _ h => h, by kernel_rfl⟩) (.inl (by kernel_rfl)) (.inl ⟨by rfl, fun w hw => ?zy⟩) hT trivial (fun _ => hT) ?_
          case zy => (obtain ⟨hw1, hw2, hw3⟩ := hw; go_simp)
          (try simp only [Act.put, List.getElem_toArray, List.getElem_cons_zero, List.getElem_cons_succ, List.setIfInBounds_toArray, List.set_cons_zero, List.set_cons_succ])
          refine wpAnyZ.oneK (i := 7) (E := False) (by kernel_rfl) rfl (by rfl) (fun K hK => ?_)
          go_simp
          obtain ⟨bx19, hbx19⟩ : ∃ b, b = Vd.heap.size := ⟨_, rfl⟩
          obtain ⟨V20, hV20⟩ : ∃ V, V = Vd.alloc (.cells #[.int .i64 x] 3) := ⟨_, rfl⟩
          have HS21 := Lib.hid (show Rw w V20 ((bx19, .cells #[.int .i64 x] 3 (0, 0)) :: (q, ndRow kind (.slice AE ents.length cE) vX nilV nilV next data) :: (r, ndRow 0 nilV nilV nilV nilV 0 ⟨#[]⟩) :: (p, ndRow kind (.slice A1 ents.length c1) (.slice (some ⟨b, o, none⟩) chs.length c2) (.slice A3 keys.length c3) (.slice A4 kids.length c4) next data) :: (QE ++ (QX ++ []))) by rw [hV20, hbx19]; exact HSd.out.made _)
          rw [← hV20, ← hbx19]
          clear hV20 hbx19 hT
          have hT : (fun w' : World => w'.cell? ⟨q, 2, none⟩ = some vX ∧ w'.cell? ⟨p, 2, none⟩ = some (.slice (some ⟨b, o, none⟩) chs.length c2) ∧ w'.cell? ⟨b, o + k, none⟩ = some (.int .i64 x)) V20 := ⟨cell_of_row _ q 2 _ _ _ (HS21.out.get 1 rfl), cell_of_row _ p 2 _ _ _ (HS21.out.get 3 rfl), cell_ext HS21.out.bl HEK.out⟩
          refine hK.out _ _ ⟨⟨trivial, fun _ => hT⟩, ?_⟩
          clear hK
          (try simp only [Act.put, List.getElem_toArray, List.getElem_cons_zero, List.getElem_cons_succ, List.setIfInBounds_toArray, List.set_cons_zero, List.set_cons_succ])
          refine wpAnyZ.oneK (i := 8) (E := False) (by kernel_rfl) rfl (by rfl) (fun K hK => ?_)
          have h9 : Rw w V20 (([(bx19, .cells #[.int .i64 x] 3 (0, 0)), (q, ndRow kind (.slice AE ents.length cE) vX nilV nilV next data), (r, ndRow 0 nilV nilV nilV nilV 0 ⟨#[]⟩), (p, ndRow kind (.slice A1 ents.length c1) (.slice (some ⟨b, o, none⟩) chs.length c2) (.slice A3 keys.length c3) (.slice A4 kids.length c4) next data)] ++ QE) ++ (QX ++ [])) := by (try simp only [List.append_assoc]); exact HS21.out
          obtain ⟨v24, V22, Q25, hrun, hq1, hS1⟩ := Rw.run_appQ Try.underlying23 HI2.out.1 HI2.out.2.1 HI2.out.2.2.1 HI2.out.2.2.2 rfl (by decide) 23 h9 HQX.out [.int .i64 x] rfl (by intro u hu; simp at hu; rcases hu with rfl; rfl) (by have := HB2.out; omega) (by have := HB2.out; simp only [maxLen]; omega) bx19 (HS21.out.get 0 rfl)
          clear h9
          (try simp only [List.append_assoc] at hS1)
          obtain ⟨Av24, cv24, rfl⟩ := hq1.slice
          have HQ1 := Lib.hid hq1
          have hS2 : Rw w V22 ((bx19, .cells #[.int .i64 x] 3 (0, 0)) :: (q, ndRow kind (.slice AE ents.length cE) vX nilV nilV next data) :: (r, ndRow 0 nilV nilV nilV nilV 0 ⟨#[]⟩) :: (p, ndRow kind (.slice A1 ents.length c1) (.slice (some ⟨b, o, none⟩) chs.length c2) (.slice A3 keys.length c3) (.slice A4 kids.length c4) next data) :: (QE ++ (Q25 ++ []))) := hS1
          have HS23 := Lib.hid (show Rw w V22 ((q, ndRow kind (.slice AE ents.length cE) vX nilV nilV next data) :: (r, ndRow 0 nilV nilV nilV nilV 0 ⟨#[]⟩) :: (p, ndRow kind (.slice A1 ents.length c1) (.slice (some ⟨b, o, none⟩) chs.length c2) (.slice A3 keys.length c3) (.slice A4 kids.length c4) next data) :: (QE ++ (Q25 ++ []))) from hS2.sub (List.sublist_cons_self _ _))
          clear hS1 hS2 hq1 hT
          have hT : (fun w' : World => w'.cell? ⟨q, 2, none⟩ = some vX ∧ w'.cell? ⟨p, 2, none⟩ = some (.slice (some ⟨b, o, none⟩) chs.length c2) ∧ w'.cell? ⟨b, o + k, none⟩ = some (.int .i64 x)) V22 := ⟨cell_of_row _ q 2 _ _ _ (HS23.out.get 0 rfl), cell_of_row _ p 2 _ _ _ (HS23.out.get 2 rfl), cell_ext HS23.out.bl HEK.out⟩
          refine step_app1 _ _ rfl rfl rfl rfl hrun ?_
          clear hrun
          refine hK.out _ _ ⟨⟨trivial, fun _ => hT⟩, ?_⟩
          clear hK
          (try simp only [Act.put, List.getElem_toArray, List.getElem_cons_zero, List.getElem_cons_succ, List.setIfInBounds_toArray, List.set_cons_zero, List.set_cons_succ])
          refine wpAnyZ.takeN (i := 9) (v := .pointer (some ⟨q, 2, none⟩)) rfl (by kernel_rfl) (by kernel_rfl) (by kernel_rfl) (by decide) (fun _ _ _ h => h) (by rfl) (fun w => ?zy) trivial (fun _ => hT) ?_
          case zy => (go_simp)
          (try simp only [Act.put, List.getElem_toArray, List.getElem_cons_zero, List.getElem_cons_succ, List.setIfInBounds_toArray, List.set_cons_zero, List.set_cons_succ])
          refine wpAnyZ.oneK (i := 10) (E := False) (by kernel_rfl) rfl (by rfl) (fun K hK => ?_)
          have hrw := HS23.out.get 0 rfl
          have e1 : V22.cell? ⟨q, 2, none⟩ = some vX := cell_of_row _ q 2 _ _ _ hrw
          have f1 : V22.frozen? ⟨q, 2, none⟩ = false := frozen_of_row _ q 2 _ _ hrw
          have HS27 := Lib.hid (show Rw w (V22.setCell ⟨q, 2, none⟩ (.slice Av24 (k + 1) cv24)) ((q, ndRow kind (.slice AE ents.length cE) (.slice Av24 (k + 1) cv24) nilV nilV next data) :: (r, ndRow 0 nilV nilV nilV nilV 0 ⟨#[]⟩) :: (p, ndRow kind (.slice A1 ents.length c1) (.slice (some ⟨b, o, none⟩) chs.length c2) (.slice A3 keys.length c3) (.slice A4 kids.length c4) next data) :: (QE ++ (Q25 ++ []))) from HS23.out.store 0 rfl 2 (.slice Av24 (k + 1) cv24))
          go_simp
          obtain ⟨V26, hV26⟩ : ∃ V, V = V22.setCell ⟨q, 2, none⟩ (.slice Av24 (k + 1) cv24) := ⟨_, rfl⟩
          rw [← hV26] at HS27 ⊢
          clear hV26 hrw e1 f1 hT
          refine hK.out _ _ ⟨⟨trivial, (fun h => (have h9 : (true : Bool) = false := h; by cases h9))⟩, ?_⟩
          clear hK
          refine wpAnyZ.done (by kernel_rfl) ?_ _
          go_wp2
          go_roundw
          case rel => exact ⟨k + 1, by omega, by go_num, (.slice Av24 (k + 1) cv24), Q25, HS27.out, by rw [HTK.out, iv_append]; exact HQ1.out⟩
          case measure => simp [intOf]; omega
        · obtain rfl : k = chs.length := by omega
          have HQC := Lib.hid hqX
          rw [List.take_of_length_le (Nat.le_refl _)] at HQC
          clear hvX hS hqX vX HQX
          have HSN := Lib.hid (show Rw w wr ((q, ndRow kind (.slice AE ents.length cE) (.slice AX chs.length cX) nilV nilV next data) :: (r, ndRow 0 nilV nilV nilV nilV 0 ⟨#[]⟩) :: (p, ndRow kind (.slice A1 ents.length c1) (.slice A2 chs.length c2) (.slice A3 keys.length c3) (.slice A4 kids.length c4) next data) :: (QE ++ (QX ++ ([] ++ [])))) by have h9 := HS.out; (try simp only [List.append_nil] at h9 ⊢); exact h9)
          obtain ⟨AC, hAC⟩ : ∃ A, A = AX := ⟨_, rfl⟩
          obtain ⟨cC, hcC⟩ : ∃ c, c = cX := ⟨_, rfl⟩
          obtain ⟨QC, hQC⟩ : ∃ Q, Q = QX := ⟨_, rfl⟩
          rw [← hAC, ← hcC, ← hQC] at HSN HQC
          clear hAC hcC hQC HS
          clear AX cX QX
          obtain ⟨i3, hi3, hzz⟩ := Option.map_eq_some_iff.1 info_str
          simp only [Prod.mk.injEq] at hzz
          have HI3 := Lib.hid (And.intro hi3 (And.intro hzz.1 (And.intro hzz.2.1 hzz.2.2)))
          clear hi3 hzz
          go_wp2_with fail
          go_loopw [6] (fun x wr => ∃ k : Nat, k ≤ keys.length ∧ x = .int .i64 k ∧ Ex2 fun vX QX => Rw w wr ((q, ndRow kind (.slice AE ents.length cE) (.slice AC chs.length cC) vX nilV next data) :: (r, ndRow 0 nilV nilV nilV nilV 0 ⟨#[]⟩) :: (p, ndRow kind (.slice A1 ents.length c1) (.slice A2 chs.length c2) (.slice A3 keys.length c3) (.slice A4 kids.length c4) next data) :: (QE ++ (QC ++ (QX ++ [])))) ∧ QV 9 1 vX k (tv (keys.take k)) QX) (fun x _ => keys.length - (intOf x).toNat)
          case atStart => exact ⟨0, by omega, rfl, nilV, [], HSN.out, QV.nil _ _⟩
          case round =>
            obtain ⟨k, hk, rfl, vX, QX, hS, hqX⟩ := hrel
            have HS := Lib.hid hS
            have HQX := Lib.hid hqX
            obtain ⟨AX, cX, rfl⟩ := hqX.slice
            obtain ⟨vX, hvX⟩ : ∃ vX, vX = Value.slice AX k cX := ⟨_, rfl⟩
            have hcp : wr.cell? ⟨p, 3, none⟩ = some (.slice A3 keys.length c3) := cell_of_row _ p 3 _ _ _ (HS.out.get 2 rfl)
            by_cases hkn : k < keys.length
            · rw [← hvX] at HS HQX
              have HVX := Lib.hid hvX
              clear hvX hS hqX
              obtain ⟨b, o, rfl, hc⟩ := HR3.out.at_ (by omega)
              have HTK := Lib.hid (take_snoc keys k default (by omega))
              have HEK := Lib.hid (hc k hkn)
              obtain ⟨x, hx⟩ : ∃ x, x = keys.getD k default := ⟨_, rfl⟩
              rw [← hx] at HEK HTK
              clear hc hx
              have hk0 : (0 : Int) ≤ (k : Int) ∧ (k : Int) < (keys.length : Int) := by omega
              obtain ⟨Vd, hVd⟩ : ∃ Vd, Vd = wr.drew := ⟨_, rfl⟩
              have HSd := Lib.hid (show Rw w Vd ((q, ndRow kind (.slice AE ents.length cE) (.slice AC chs.length cC) vX nilV next data) :: (r, ndRow 0 nilV nilV nilV nilV 0 ⟨#[]⟩) :: (p, ndRow kind (.slice A1 ents.length c1) (.slice A2 chs.length c2) (.slice (some ⟨b, o, none⟩) keys.length c3) (.slice A4 kids.length c4) next data) :: (QE ++ (QC ++ (QX ++ [])))) by rw [hVd]; exact HS.out.drew)
              have hT : (fun w' : World => w'.cell? ⟨q, 3, none⟩ = some vX ∧ w'.cell? ⟨p, 3, none⟩ = some (.slice (some ⟨b, o, none⟩) keys.length c3) ∧ w'.cell? ⟨b, o + k, none⟩ = some (.string x)) Vd := ⟨cell_of_row _ q 3 _ _ _ (HSd.out.get 0 rfl), cell_of_row _ p 3 _ _ _ (HSd.out.get 2 rfl), cell_ext HSd.out.bl HEK.out⟩
              go_upto_region 13 with fail
              refine wp_region_z (fun w' => True) (fun w' : World => w'.cell? ⟨q, 3, none⟩ = some vX ∧ w'.cell? ⟨p, 3, none⟩ = some (.slice (some ⟨b, o, none⟩) keys.length c3) ∧ w'.cell? ⟨b, o + k, none⟩ = some (.string x)) 10 (by kernel_rfl) ?_
              rw [← hVd]
              clear hVd
              refine wpAnyZ.takeN (i := 0) (v := .pointer (some ⟨q, 3, none⟩)) rfl (by kernel_rfl) (by kernel_rfl) (by kernel_rfl) (by decide) (fun _ _ _ h => h) (by rfl) (fun w => ?zy) trivial (fun _ => hT) ?_
              case zy => (go_simp)
              (try simp only [Act.put, List.getElem_toArray, List.getElem_cons_zero, List.getElem_cons_succ, List.setIfInBounds_toArray, List.set_cons_zero, List.set_cons_succ])
              refine wpAnyZ.take (i := 1) (v := vX) (U := fun w' : World => w'.cell? ⟨q, 3, none⟩ = some vX ∧ w'.cell? ⟨p, 3, none⟩ = some (.slice (some ⟨b, o, none⟩) keys.length c3) ∧ w'.cell? ⟨b, o + k, none⟩ = some (.string x)) rfl (by kernel_rfl) (by kernel_rfl) (by kernel_rfl) (by decide) (fun _ _ _ h => h) (.inr ⟨fun _ h => h, by kernel_rfl⟩) (.inl (by kernel_rfl)) (.inl ⟨by rfl, fun w hw => ?zy⟩) hT trivial (fun _ => hT) ?_
              case zy => (obtain ⟨hw1, hw2, hw3⟩ := hw; go_simp)
              (try simp only [Act.put, List.getElem_toArray, List.getElem_cons_zero, List.getElem_cons_succ, List.setIfInBounds_toArray, List.set_cons_zero, List.set_cons_succ])
              refine wpAnyZ.takeN (i := 2) (v := .pointer (some ⟨p, 3, none⟩)) rfl (by kernel_rfl) (by kernel_rfl) (by kernel_rfl) (by decide) (fun _ _ _ h => h) (by rfl) (fun w => ?zy) trivial (fun _ => hT) ?_
              case zy => (go_simp)
              (try simp only [Act.put, List.getElem_toArray, List.getElem_cons_zero, List.getElem_cons_succ, List.setIfInBounds_toArray, List.set_cons_zero, List.set_cons_succ])
              refine wpAnyZ.take (i := 3) (v := .slice (some ⟨b, o, none⟩) keys.length c3) (U := fun w' : World => w'.cell? ⟨q, 3, none⟩ = some vX ∧ w'.cell? ⟨p, 3, none⟩ = some (.slice (some ⟨b, o, none⟩) keys.length c3) ∧ w'.cell? ⟨b, o + k, none⟩ = some (.string x)) rfl (by kernel_rfl) (by kernel_rfl) (by kernel_rfl) (by decide) (fun _ _ _ h => h) (.inr ⟨fun _ h => h, by kernel_rfl⟩) (.inl (by kernel_rfl)) (.inl ⟨by rfl, fun w hw => ?zy⟩) hT trivial (fun _ => hT) ?_
              case zy => (obtain ⟨hw1, hw2, hw3⟩ := hw; go_simp)
              (try simp only [Act.put, List.getElem_toArray, List.getElem_cons_zero, List.getElem_cons_succ, List.setIfInBounds_toArray, List.set_cons_zero, List.set_cons_succ])
              refine wpAnyZ.takeN (i := 4) (v := .int .i64 (k : Int)) rfl (by kernel_rfl) (by kernel_rfl) (by kernel_rfl) (by decide) (fun _ _ _ h => h) (by rfl) (fun w => ?zy) trivial (fun _ => hT) ?_
              case zy => (go_simp)
              (try simp only [Act.put, List.getElem_toArray, List.getElem_cons_zero, List.getElem_cons_succ, List.setIfInBounds_toArray, List.set_cons_zero, List.set_cons_succ])
              refine wpAnyZ.takeN (i := 5) (v := .pointer (some ⟨b, o + k, none⟩)) rfl (by kernel_rfl) (by kernel_rfl) (by kernel_rfl) (by decide) (fun _ _ _ h => h) (by rfl) (fun w => ?zy) trivial (fun _ => hT) ?_
              case zy => (go_simp)
              (try simp only [Act.put, List.getElem_toArray, List.getElem_cons_zero, List.getElem_cons_succ, List.setIfInBounds_toArray, List.set_cons_zero, List.set_cons_succ])
              refine wpAnyZ.take (i := 6) (v := .string x) (U := fun w' : World => w'.cell? ⟨q, 3, none⟩ = some vX ∧ w'.cell? ⟨p, 3, none⟩ = some (.slice (some ⟨b, o, none⟩) keys.length c3) ∧ w'.cell? ⟨b, o + k, none⟩ = some (.string x)) rfl (by kernel_rfl) (by kernel_rfl) (by kernel_rfl) (by decide) (fun _ _ _ h => h) (.inr ⟨fun _ h => h, by kernel_rfl⟩) (.inl (by kernel_rfl)) (.inl ⟨by rfl, fun w hw => ?zy⟩) hT trivial (fun _ => hT) ?_
              case zy => (obtain ⟨hw1, hw2, hw3⟩ := hw; go_simp)
              (try simp only [Act.put, List.getElem_toArray, List.getElem_cons_zero, List.getElem_cons_succ, List.setIfInBounds_toArray, List.set_cons_zero, List.set_cons_succ])
              refine wpAnyZ.oneK (i := 7) (E := False) (by kernel_rfl) rfl (by rfl) (fun K hK => ?_)
              go_simp
              obtain ⟨bx10, hbx10⟩ : ∃ b, b = Vd.heap.size := ⟨_, rfl⟩
              obtain ⟨V11, hV11⟩ : ∃ V, V = Vd.alloc (.cells #[.string x] 9) := ⟨_, rfl⟩
              have HS12 := Lib.hid (show Rw w V11 ((bx10, .cells #[.string x] 9 (0, 0)) :: (q, ndRow kind (.slice AE ents.length cE) (.slice AC chs.length cC) vX nilV next data) :: (r, ndRow 0 nilV nilV nilV nilV 0 ⟨#[]⟩) :: (p, ndRow kind (.slice A1 ents.length c1) (.slice A2 chs.length c2) (.slice (some ⟨b, o, none⟩) keys.length c3) (.slice A4 kids.length c4) next data) :: (QE ++ (QC ++ (QX ++ [])))) by rw [hV11, hbx10]; exact HSd.out.made _)
              rw [← hV11, ← hbx10]
              clear hV11 hbx10 hT
              have hT : (fun w' : World => w'.cell? ⟨q, 3, none⟩ = some vX ∧ w'.cell? ⟨p, 3, none⟩ = some (.slice (some ⟨b, o, none⟩) keys.length c3) ∧ w'.cell? ⟨b, o + k, none⟩ = some (.string x)) V11 := ⟨cell_of_row _ q 3 _ _ _ (HS12.out.get 1 rfl), cell_of_row _ p 3 _ _ _ (HS12.out.get 3 rfl), cell_ext HS12.out.bl HEK.out⟩
              refine hK.out _ _ ⟨⟨trivial, fun _ => hT⟩, ?_⟩
              clear hK
              (try simp only [Act.put, List.getElem_toArray, List.getElem_cons_zero, List.getElem_cons_succ, List.setIfInBounds_toArray, List.set_cons_zero, List.set_cons_succ])
              refine wpAnyZ.oneK (i := 8) (E := False) (by kernel_rfl) rfl (by rfl) (fun K hK => ?_)
              have h9 : Rw w V11 ((([(bx10, .cells #[.string x] 9 (0, 0)), (q, ndRow kind (.slice AE ents.length cE) (.slice AC chs.length cC) vX nilV next data), (r, ndRow 0 nilV nilV nilV nilV 0 ⟨#[]⟩), (p, ndRow kind (.slice A1 ents.length c1) (.slice A2 chs.length c2) (.slice (some ⟨b, o, none⟩) keys.length c3) (.slice A4 kids.length c4) next data)] ++ QE) ++ QC) ++ (QX ++ [])) := by (try simp only [List.append_assoc]); exact HS12.out
              obtain ⟨v15, V13, Q16, hrun, hq1, hS1⟩ := Rw.run_appQ Try.underlying24 HI3.out.1 HI3.out.2.1 HI3.out.2.2.1 HI3.out.2.2.2 rfl (by decide) 24 h9 HQX.out [.string x] rfl (by intro u hu; simp at hu; rcases hu with rfl; rfl) (by have := HB3.out; omega) (by have := HB3.out; simp only [maxLen]; omega) bx10 (HS12.out.get 0 rfl)
              clear h9
              (try simp only [List.append_assoc] at hS1)
              obtain ⟨Av15, cv15, rfl⟩ := hq1.slice
              have HQ1 := Lib.hid hq1
              have hS2 : Rw w V13 ((bx10, .cells #[.string x] 9 (0, 0)) :: (q, ndRow kind (.slice AE ents.length cE) (.slice AC chs.length cC) vX nilV next data) :: (r, ndRow 0 nilV nilV nilV nilV 0 ⟨#[]⟩) :: (p, ndRow kind (.slice A1 ents.length c1) (.slice A2 chs.length c2) (.slice (some ⟨b, o, none⟩) keys.length c3) (.slice A4 kids.length c4) next data) :: (QE ++ (QC ++ (Q16 ++ [])))) := hS1
              have HS14 := Lib.hid (show Rw w V13 ((q, ndRow kind (.slice AE ents.length cE) (.slice AC chs.length cC) vX nilV next data) :: (r, ndRow 0 nilV nilV nilV nilV 0 ⟨#[]⟩) :: (p, ndRow kind (.slice A1 ents.length c1) (.slice A2 chs.length c2) (.slice (some ⟨b, o, none⟩) keys.length c3) (.slice A4 kids.length c4) next data) :: (QE ++ (QC ++ (Q16 ++ [])))) from hS2.sub (List.sublist_cons_self _ _))
              clear hS1 hS2 hq1 hT
              have hT : (fun w' : World => w'.cell? ⟨q, 3, none⟩ = some vX ∧ w'.cell? ⟨p, 3, none⟩ = some (.slice (some ⟨b, o, none⟩) keys.length c3) ∧ w'.cell? ⟨b, o + k, none⟩ = some (.string x)) V13 := ⟨cell_of_row _ q 3 _ _ _ (HS14.out.get 0 rfl), cell_of_row _ p 3 _ _ _ (HS14.out.get 2 rfl), cell_ext HS14.out.bl HEK.out⟩
              refine step_app1 _ _ rfl rfl rfl rfl hrun ?_
              clear hrun
              refine hK.out _ _ ⟨⟨trivial, fun _ => hT⟩, ?_⟩
              clear hK
              (try simp only [Act.put, List.getElem_toArray, List.getElem_cons_zero, List.getElem_cons_succ, List.setIfInBounds_toArray, List.set_cons_zero, List.set_cons_succ])
              refine wpAnyZ.takeN (i := 9) (v := .pointer (some ⟨q, 3, none⟩)) rfl (by kernel_rfl) (by kernel_rfl) (by kernel_rfl) (by decide) (fun _ _ _ h => h) (by rfl) (fun w => ?zy) trivial (fun _ => hT) ?_
              case zy => (go_simp)
              (try simp only [Act.put, List.getElem_toArray, List.getElem_cons_zero, List.getElem_cons_succ, List.setIfInBounds_toArray, List.set_cons_zero, List.set_cons_succ])
              refine wpAnyZ.oneK (i := 10) (E := False) (by kernel_rfl) rfl (by rfl) (fun K hK => ?_)
              have hrw := HS14.out.get 0 rfl
              have e1 : V13.cell? ⟨q, 3, none⟩ = some vX := cell_of_row _ q 3 _ _ _ hrw
              have f1 : V13.frozen? ⟨q, 3, none⟩ = false := frozen_of_row _ q 3 _ _ hrw
              have HS18 := Lib.hid (show Rw w (V13.setCell ⟨q, 3, none⟩ (.slice Av15 (k + 1) cv15)) ((q, ndRow kind (.slice AE ents.length cE) (.slice AC chs.length cC) (.slice Av15 (k + 1) cv15) nilV next data) :: (r, ndRow 0 nilV nilV nilV nilV 0 ⟨#[]⟩) :: (p, ndRow kind (.slice A1 ents.length c1) (.slice A2 chs.length c2) (.slice (some ⟨b, o, none⟩) keys.length c3) (.slice A4 kids.length c4) next data) :: (QE ++ (QC ++ (Q16 ++ [])))) from HS14.out.store 0 rfl 3 (.slice Av15 (k + 1) cv15))
              go_simp
              obtain ⟨V17, hV17⟩ : ∃ V, V = V13.setCell ⟨q, 3, none⟩ (.slice Av15 (k + 1) cv15) := ⟨_, rfl⟩
              rw [← hV17] at HS18 ⊢
              clear hV17 hrw e1 f1 hT
              refine hK.out _ _ ⟨⟨trivial, (fun h => (have h9 : (true : Bool) = false := h; by cases h9))⟩, ?_⟩
              clear hK
              refine wpAnyZ.done (by kernel_rfl) ?_ _
              go_wp2
              go_roundw
              case rel => exact ⟨k + 1, by omega, by go_num, (.slice Av15 (k + 1) cv15), Q16, HS18.out, by rw [HTK.out, tv_append]; exact HQ1.out⟩
              case measure => simp [intOf]; omega
            · obtain rfl : k = keys.length := by omega
              have HQK := Lib.hid hqX
              rw [List.take_of_length_le (Nat.le_refl _)] at HQK
              clear hvX hS hqX vX HQX
              have HSN := Lib.hid (show Rw w wr ((q, ndRow kind (.slice AE ents.length cE) (.slice AC chs.length cC) (.slice AX keys.length cX) nilV next data) :: (r, ndRow 0 nilV nilV nilV nilV 0 ⟨#[]⟩) :: (p, ndRow kind (.slice A1 ents.length c1) (.slice A2 chs.length c2) (.slice A3 keys.length c3) (.slice A4 kids.length c4) next data) :: (QE ++ (QC ++ (QX ++ ([] ++ []))))) by have h9 := HS.out; (try simp only [List.append_nil] at h9 ⊢); exact h9)
              obtain ⟨AK, hAK⟩ : ∃ A, A = AX := ⟨_, rfl⟩
              obtain ⟨cK, hcK⟩ : ∃ c, c = cX := ⟨_, rfl⟩
              obtain ⟨QK, hQK⟩ : ∃ Q, Q = QX := ⟨_, rfl⟩
              rw [← hAK, ← hcK, ← hQK] at HSN HQK
              clear hAK hcK hQK HS
              clear AX cX QX
              obtain ⟨i4, hi4, hzz⟩ := Option.map_eq_some_iff.1 info_int
              simp only [Prod.mk.injEq] at hzz
              have HI4 := Lib.hid (And.intro hi4 (And.intro hzz.1 (And.intro hzz.2.1 hzz.2.2)))
              clear hi4 hzz
              go_wp2_with fail
              go_loopw [7] (fun x wr => ∃ k : Nat, k ≤ kids.length ∧ x = .int .i64 k ∧ Ex2 fun vX QX => Rw w wr ((q, ndRow kind (.slice AE ents.length cE) (.slice AC chs.length cC) (.slice AK keys.length cK) vX next data) :: (r, ndRow 0 nilV nilV nilV nilV 0 ⟨#[]⟩) :: (p, ndRow kind (.slice A1 ents.length c1) (.slice A2 chs.length c2) (.slice A3 keys.length c3) (.slice A4 kids.length c4) next data) :: (QE ++ (QC ++ (QK ++ (QX ++ []))))) ∧ QV 3 1 vX k (iv_ (kids.take k)) QX) (fun x _ => kids.length - (intOf x).toNat)
              case atStart => exact ⟨0, by omega, rfl, nilV, [], HSN.out, QV.nil _ _⟩
              case round =>
                obtain ⟨k, hk, rfl, vX, QX, hS, hqX⟩ := hrel
                have HS := Lib.hid hS
                have HQX := Lib.hid hqX
                obtain ⟨AX, cX, rfl⟩ := hqX.slice
                obtain ⟨vX, hvX⟩ : ∃ vX, vX = Value.slice AX k cX := ⟨_, rfl⟩
                have hcp : wr.cell? ⟨p, 4, none⟩ = some (.slice A4 kids.length c4) := cell_of_row _ p 4 _ _ _ (HS.out.get 2 rfl)
                by_cases hkn : k < kids.length
                · rw [← hvX] at HS HQX
                  have HVX := Lib.hid hvX
                  clear hvX hS hqX
                  obtain ⟨b, o, rfl, -, hc⟩ := HR4.out.at_ (by omega)
                  have HTK := Lib.hid (take_snoc kids k 0 (by omega))
                  have HEK := Lib.hid (hc k hkn)
                  obtain ⟨x, hx⟩ : ∃ x, x = kids.getD k 0 := ⟨_, rfl⟩
                  rw [← hx] at HEK HTK
                  clear hc hx
                  have hk0 : (0 : Int) ≤ (k : Int) ∧ (k : Int) < (kids.length : Int) := by omega
                  obtain ⟨Vd, hVd⟩ : ∃ Vd, Vd = wr.drew := ⟨_, rfl⟩
                  have HSd := Lib.hid (show Rw w Vd ((q, ndRow kind (.slice AE ents.length cE) (.slice AC chs.length cC) (.slice AK keys.length cK) vX next data) :: (r, ndRow 0 nilV nilV nilV nilV 0 ⟨#[]⟩) :: (p, ndRow kind (.slice A1 ents.length c1) (.slice A2 chs.length c2) (.slice A3 keys.length c3) (.slice (some ⟨b, o, none⟩) kids.length c4) next data) :: (QE ++ (QC ++ (QK ++ (QX ++ []))))) by rw [hVd]; exact HS.out.drew)
                  have hT : (fun w' : World => w'.cell? ⟨q, 4, none⟩ = some vX ∧ w'.cell? ⟨p, 4, none⟩ = some (.slice (some ⟨b, o, none⟩) kids.length c4) ∧ w'.cell? ⟨b, o + k, none⟩ = some (.int .i64 x)) Vd := ⟨cell_of_row _ q 4 _ _ _ (HSd.out.get 0 rfl), cell_of_row _ p 4 _ _ _ (HSd.out.get 2 rfl), cell_ext HSd.out.bl HEK.out⟩
                  go_upto_region 17 with fail
                  refine wp_region_z (fun w' => True) (fun w' : World => w'.cell? ⟨q, 4, none⟩ = some vX ∧ w'.cell? ⟨p, 4, none⟩ = some (.slice (some ⟨b, o, none⟩) kids.length c4) ∧ w'.cell? ⟨b, o + k, none⟩ = some (.int .i64 x)) 10 (by kernel_rfl) ?_
                  rw [← hVd]
                  clear hVd
                  refine wpAnyZ.takeN (i := 0) (v := .pointer (some ⟨q, 4, none⟩)) rfl (by kernel_rfl) (by kernel_rfl) (by kernel_rfl) (by decide) (fun _ _ _ h => h) (by rfl) (fun w => ?zy) trivial (fun _ => hT) ?_
                  case zy => (go_simp)
                  (try simp only [Act.put, List.getElem_toArray, List.getElem_cons_zero, List.getElem_cons_succ, List.setIfInBounds_toArray, List.set_cons_zero, List.set_cons_succ])
                  refine wpAnyZ.take (i := 1) (v := vX) (U := fun w' : World => w'.cell? ⟨q, 4, none⟩ = some vX ∧ w'.cell? ⟨p, 4, none⟩ = some (.slice (some ⟨b, o, none⟩) kids.length c4) ∧ w'.cell? ⟨b, o + k, none⟩ = some (.int .i64 x)) rfl (by kernel_rfl) (by kernel_rfl) (by kernel_rfl) (by decide) (fun _ _ _ h => h) (.inr ⟨fun _ h => h, by kernel_rfl⟩) (.inl (by kernel_rfl)) (.inl ⟨by rfl, fun w hw => ?zy⟩) hT trivial (fun _ => hT) ?_
                  case zy => (obtain ⟨hw1, hw2, hw3⟩ := hw; go_simp)
                  (try simp only [Act.put, List.getElem_toArray, List.getElem_cons_zero, List.getElem_cons_succ, List.setIfInBounds_toArray, List.set_cons_zero, List.set_cons_succ])
                  refine wpAnyZ.takeN (i := 2) (v := .pointer (some ⟨p, 4, none⟩)) rfl (by kernel_rfl) (by kernel_rfl) (by kernel_rfl) (by decide) (fun _ _ _ h => h) (by rfl) (fun w => ?zy) trivial (fun _ => hT) ?_
                  case zy => (go_simp)
                  (try simp only [Act.put, List.getElem_toArray, List.getElem_cons_zero, List.getElem_cons_succ, List.setIfInBounds_toArray, List.set_cons_zero, List.set_cons_succ])
                  refine wpAnyZ.take (i := 3) (v := .slice (some ⟨b, o, none⟩) kids.length c4) (U := fun w' : World => w'.cell? ⟨q, 4, none⟩ = some vX ∧ w'.cell? ⟨p, 4, none⟩ = some (.slice (some ⟨b, o, none⟩) kids.length c4) ∧ w'.cell? ⟨b, o + k, none⟩ = some (.int .i64 x)) rfl (by kernel_rfl) (by kernel_rfl) (by kernel_rfl) (by decide) (fun _ _ _ h => h) (.inr ⟨fun _ h => h, by kernel_rfl⟩) (.inl (by kernel_rfl)) (.inl ⟨by rfl, fun w hw => ?zy⟩) hT trivial (fun _ => hT) ?_
                  case zy => (obtain ⟨hw1, hw2, hw3⟩ := hw; go_simp)
                  (try simp only [Act.put, List.getElem_toArray, List.getElem_cons_zero, List.getElem_cons_succ, List.setIfInBounds_toArray, List.set_cons_zero, List.set_cons_succ])
                  refine wpAnyZ.takeN (i := 4) (v := .int .i64 (k : Int)) rfl (by kernel_rfl) (by kernel_rfl) (by kernel_rfl) (by decide) (fun _ _ _ h => h) (by rfl) (fun w => ?zy) trivial (fun _ => hT) ?_
                  case zy => (go_simp)
                  (try simp only [Act.put, List.getElem_toArray, List.getElem_cons_zero, List.getElem_cons_succ, List.setIfInBounds_toArray, List.set_cons_zero, List.set_cons_succ])
                  refine wpAnyZ.takeN (i := 5) (v := .pointer (some ⟨b, o + k, none⟩)) rfl (by kernel_rfl) (by kernel_rfl) (by kernel_rfl) (by decide) (fun _ _ _ h => h) (by rfl) (fun w => ?zy) trivial (fun _ => hT) ?_
                  case zy => (go_simp)
                  (try simp only [Act.put, List.getElem_toArray, List.getElem_cons_zero, List.getElem_cons_succ, List.setIfInBounds_toArray, List.set_cons_zero, List.set_cons_succ])
                  refine wpAnyZ.take (i := 6) (v := .int .i64 x) (U := fun w' : World => w'.cell? ⟨q, 4, none⟩ = some vX ∧ w'.cell? ⟨p, 4, none⟩ = some (.slice (some ⟨b, o, none⟩) kids.length c4) ∧ w'.cell? ⟨b, o + k, none⟩ = some (.int .i64 x)) rfl (by kernel_rfl) (by kernel_rfl) (by kernel_rfl) (by decide) (fun _ _ _ h => h) (.inr ⟨fun _ h => h, by kernel_rfl⟩) (.inl (by kernel_rfl)) (.inl ⟨by rfl, fun w hw => ?zy⟩) hT trivial (fun _ => hT) ?_
                  case zy => (obtain ⟨hw1, hw2, hw3⟩ := hw; go_simp)
                  (try simp only [Act.put, List.getElem_toArray, List.getElem_cons_zero, List.getElem_cons_succ, List.setIfInBounds_toArray, List.set_cons_zero, List.set_cons_succ])
                  refine wpAnyZ.oneK (i := 7) (E := False) (by kernel_rfl) rfl (by rfl) (fun K hK => ?_)
                  go_simp
                  obtain ⟨bx1, hbx1⟩ : ∃ b, b = Vd.heap.size := ⟨_, rfl⟩
                  obtain ⟨V2, hV2⟩ : ∃ V, V = Vd.alloc (.cells #[.int .i64 x] 3) := ⟨_, rfl⟩
                  have HS3 := Lib.hid (show Rw w V2 ((bx1, .cells #[.int .i64 x] 3 (0, 0)) :: (q, ndRow kind (.slice AE ents.length cE) (.slice AC chs.length cC) (.slice AK keys.length cK) vX next data) :: (r, ndRow 0 nilV nilV nilV nilV 0 ⟨#[]⟩) :: (p, ndRow kind (.slice A1 ents.length c1) (.slice A2 chs.length c2) (.slice A3 keys.length c3) (.slice (some ⟨b, o, none⟩) kids.length c4) next data) :: (QE ++ (QC ++ (QK ++ (QX ++ []))))) by rw [hV2, hbx1]; exact HSd.out.made _)
                  rw [← hV2, ← hbx1]
                  clear hV2 hbx1 hT
                  have hT : (fun w' : World => w'.cell? ⟨q, 4, none⟩ = some vX ∧ w'.cell? ⟨p, 4, none⟩ = some (.slice (some ⟨b, o, none⟩) kids.length c4) ∧ w'.cell? ⟨b, o + k, none⟩ = some (.int .i64 x)) V2 := ⟨cell_of_row _ q 4 _ _ _ (HS3.out.get 1 rfl), cell_of_row _ p 4 _ _ _ (HS3.out.get 3 rfl), cell_ext HS3.out.bl HEK.out⟩
                  refine hK.out _ _ ⟨⟨trivial, fun _ => hT⟩, ?_⟩
                  clear hK
                  (try simp only [Act.put, List.getElem_toArray, List.getElem_cons_zero, List.getElem_cons_succ, List.setIfInBounds_toArray, List.set_cons_zero, List.set_cons_succ])
                  refine wpAnyZ.oneK (i := 8) (E := False) (by kernel_rfl) rfl (by rfl) (fun K hK => ?_)
                  have h9 : Rw w V2 (((([(bx1, .cells #[.int .i64 x] 3 (0, 0)), (q, ndRow kind (.slice AE ents.length cE) (.slice AC chs.length cC) (.slice AK keys.length cK) vX next data), (r, ndRow 0 nilV nilV nilV nilV 0 ⟨#[]⟩), (p, ndRow kind (.slice A1 ents.length c1) (.slice A2 chs.length c2) (.slice A3 keys.length c3) (.slice (some ⟨b, o, none⟩) kids.length c4) next data)] ++ QE) ++ QC) ++ QK) ++ (QX ++ [])) := by (try simp only [List.append_assoc]); exact HS3.out
                  obtain ⟨v6, V4, Q7, hrun, hq1, hS1⟩ := Rw.run_appQ Try.underlying23 HI4.out.1 HI4.out.2.1 HI4.out.2.2.1 HI4.out.2.2.2 rfl (by decide) 23 h9 HQX.out [.int .i64 x] rfl (by intro u hu; simp at hu; rcases hu with rfl; rfl) (by have := HB4.out; omega) (by have := HB4.out; simp only [maxLen]; omega) bx1 (HS3.out.get 0 rfl)
                  clear h9
                  (try simp only [List.append_assoc] at hS1)
                  obtain ⟨Av6, cv6, rfl⟩ := hq1.slice
                  have HQ1 := Lib.hid hq1
                  have hS2 : Rw w V4 ((bx1, .cells #[.int .i64 x] 3 (0, 0)) :: (q, ndRow kind (.slice AE ents.length cE) (.slice AC chs.length cC) (.slice AK keys.length cK) vX next data) :: (r, ndRow 0 nilV nilV nilV nilV 0 ⟨#[]⟩) :: (p, ndRow kind (.slice A1 ents.length c1) (.slice A2 chs.length c2) (.slice A3 keys.length c3) (.slice (some ⟨b, o, none⟩) kids.length c4) next data) :: (QE ++ (QC ++ (QK ++ (Q7 ++ []))))) := hS1
                  have HS5 := Lib.hid (show Rw w V4 ((q, ndRow kind (.slice AE ents.length cE) (.slice AC chs.length cC) (.slice AK keys.length cK) vX next data) :: (r, ndRow 0 nilV nilV nilV nilV 0 ⟨#[]⟩) :: (p, ndRow kind (.slice A1 ents.length c1) (.slice A2 chs.length c2) (.slice A3 keys.length c3) (.slice (some ⟨b, o, none⟩) kids.length c4) next data) :: (QE ++ (QC ++ (QK ++ (Q7 ++ []))))) from hS2.sub (List.sublist_cons_self _ _))
                  clear hS1 hS2 hq1 hT
                  have hT : (fun w' : World => w'.cell? ⟨q, 4, none⟩ = some vX ∧ w'.cell? ⟨p, 4, none⟩ = some (.slice (some ⟨b, o, none⟩) kids.length c4) ∧ w'.cell? ⟨b, o + k, none⟩ = some (.int .i64 x)) V4 := ⟨cell_of_row _ q 4 _ _ _ (HS5.out.get 0 rfl), cell_of_row _ p 4 _ _ _ (HS5.out.get 2 rfl), cell_ext HS5.out.bl HEK.out⟩
                  refine step_app1 _ _ rfl rfl rfl rfl hrun ?_
                  clear hrun
                  refine hK.out _ _ ⟨⟨trivial, fun _ => hT⟩, ?_⟩
                  clear hK
                  (try simp only [Act.put, List.getElem_toArray, List.getElem_cons_zero, List.getElem_cons_succ, List.setIfInBounds_toArray, List.set_cons_zero, List.set_cons_succ])
                  refine wpAnyZ.takeN (i := 9) (v := .pointer (some ⟨q, 4, none⟩)) rfl (by kernel_rfl) (by kernel_rfl) (by kernel_rfl) (by decide) (fun _ _ _ h => h) (by rfl) (fun w => ?zy) trivial (fun _ => hT) ?_
                  case zy => (go_simp)
                  (try simp only [Act.put, List.getElem_toArray, List.getElem_cons_zero, List.getElem_cons_succ, List.setIfInBounds_toArray, List.set_cons_zero, List.set_cons_succ])
                  refine wpAnyZ.oneK (i := 10) (E := False) (by kernel_rfl) rfl (by rfl) (fun K hK => ?_)
                  have hrw := HS5.out.get 0 rfl
                  have e1 : V4.cell? ⟨q, 4, none⟩ = some vX := cell_of_row _ q 4 _ _ _ hrw
                  have f1 : V4.frozen? ⟨q, 4, none⟩ = false := frozen_of_row _ q 4 _ _ hrw
                  have HS9 := Lib.hid (show Rw w (V4.setCell ⟨q, 4, none⟩ (.slice Av6 (k + 1) cv6)) ((q, ndRow kind (.slice AE ents.length cE) (.slice AC chs.length cC) (.slice AK keys.length cK) (.slice Av6 (k + 1) cv6) next data) :: (r, ndRow 0 nilV nilV nilV nilV 0 ⟨#[]⟩) :: (p, ndRow kind (.slice A1 ents.length c1) (.slice A2 chs.length c2) (.slice A3 keys.length c3) (.slice (some ⟨b, o, none⟩) kids.length c4) next data) :: (QE ++ (QC ++ (QK ++ (Q7 ++ []))))) from HS5.out.store 0 rfl 4 (.slice Av6 (k + 1) cv6))
                  go_simp
                  obtain ⟨V8, hV8⟩ : ∃ V, V = V4.setCell ⟨q, 4, none⟩ (.slice Av6 (k + 1) cv6) := ⟨_, rfl⟩
                  rw [← hV8] at HS9 ⊢
                  clear hV8 hrw e1 f1 hT
                  refine hK.out _ _ ⟨⟨trivial, (fun h => (have h9 : (true : Bool) = false := h; by cases h9))⟩, ?_⟩
                  clear hK
                  refine wpAnyZ.done (by kernel_rfl) ?_ _
                  go_wp2
                  go_roundw
                  case rel => exact ⟨k + 1, by omega, by go_num, (.slice Av6 (k + 1) cv6), Q7, HS9.out, by rw [HTK.out, iv_append]; exact HQ1.out⟩
                  case measure => simp [intOf]; omega
                · obtain rfl : k = kids.length := by omega
                  have HQD := Lib.hid hqX
                  rw [List.take_of_length_le (Nat.le_refl _)] at HQD
                  clear hvX hS hqX vX HQX
                  have HSN := Lib.hid (show Rw w wr ((q, ndRow kind (.slice AE ents.length cE) (.slice AC chs.length cC) (.slice AK keys.length cK) (.slice AX kids.length cX) next data) :: (r, ndRow 0 nilV nilV nilV nilV 0 ⟨#[]⟩) :: (p, ndRow kind (.slice A1 ents.length c1) (.slice A2 chs.length c2) (.slice A3 keys.length c3) (.slice A4 kids.length c4) next data) :: (QE ++ (QC ++ (QK ++ (QX ++ []))))) by have h9 := HS.out; (try simp only [List.append_nil] at h9 ⊢); exact h9)
                  obtain ⟨AD, hAD⟩ : ∃ A, A = AX := ⟨_, rfl⟩
                  obtain ⟨cD, hcD⟩ : ∃ c, c = cX := ⟨_, rfl⟩
                  obtain ⟨QD, hQD⟩ : ∃ Q, Q = QX := ⟨_, rfl⟩
                  rw [← hAD, ← hcD, ← hQD] at HSN HQD
                  clear hAD hcD hQD HS
                  clear AX cX QX
                  have c7 := cell7 (n := (⟨kind, ents, chs, keys, kids, next, data⟩ : Nd)) (vE := (.slice AE ents.length cE)) (vC := (.slice AC chs.length cC)) (vK := (.slice AK keys.length cK)) (vD := (.slice AD kids.length cD)) (HSN.out.get 0 rfl)
                  dsimp only at c7
                  have b7 := bad_end HSN.out (i := 1) rfl
                  have d7 := b7.1
                  have f7 := b7.2.1
                  clear b7
                  obtain ⟨W26, hW26⟩ : ∃ W26, W26 = ((((((wr.setCell ⟨r, 0, none⟩ (.int .i64 kind)).setCell ⟨r, 1, none⟩ (.slice AE ents.length cE)).setCell ⟨r, 2, none⟩ (.slice AC chs.length cC)).setCell ⟨r, 3, none⟩ (.slice AK keys.length cK)).setCell ⟨r, 4, none⟩ (.slice AD kids.length cD)).setCell ⟨r, 5, none⟩ (.int .i64 next)).setCell ⟨r, 6, none⟩ (.string data) := ⟨_, rfl⟩
                  have hp7 : put7 wr r (⟨kind, ents, chs, keys, kids, next, data⟩ : Nd) (.slice AE ents.length cE) (.slice AC chs.length cC) (.slice AK keys.length cK) (.slice AD kids.length cD) = W26 := by rw [hW26]; rfl
                  have HS26 := Lib.hid (show Rw w W26 ((q, ndRow kind (.slice AE ents.length cE) (.slice AC chs.length cC) (.slice AK keys.length cK) (.slice AD kids.length cD) next data) :: (r, .cells (ndC (⟨kind, ents, chs, keys, kids, next, data⟩ : Nd) (.slice AE ents.length cE) (.slice AC chs.length cC) (.slice AK keys.length cK) (.slice AD kids.length cD)) 26 (0, 0)) :: (p, ndRow kind (.slice A1 ents.length c1) (.slice A2 chs.length c2) (.slice A3 keys.length c3) (.slice A4 kids.length c4) next data) :: (QE ++ (QC ++ (QK ++ (QD ++ []))))) by rw [← hp7]; exact HSN.out.upd 1 rfl only7 (row7 (n := zNd) (m := (⟨kind, ents, chs, keys, kids, next, data⟩ : Nd)) (HSN.out.get 1 rfl)))
                  clear hp7
                  unfold nilV at d7
                  go_wp2
                  rw [← hW26]
                  clear hW26 c7 d7 f7
                  have hrow := HS26.out.get 1 rfl
                  refine bodyPost_ret (results_cell_row rfl _ _ r 26 (ndC (⟨kind, ents, chs, keys, kids, next, data⟩ : Nd) (.slice AE ents.length cE) (.slice AC chs.length cC) (.slice AK keys.length cK) (.slice AD kids.length cD)) (0, 0) _ rfl hrow Try.underlying26 rfl sz_nd) rfl ?_
                  refine ⟨AE, cE, AC, cC, AK, cK, AD, cD, rfl, QE, QC, QK, QD, HQE.out, HQC.out, HQK.out, HQD.out, ?_⟩
                  exact HS26.out.sub (List.Sublist.cons _ (List.Sublist.cons _ (List.Sublist.cons _ (List.Sublist.refl _))))
theorem NdQ.own {w w' : World} {n : Nd} {AE AC AK AD : Option Addr} {cE cC cK cD : Nat} (h : NdQ w w' n AE cE AC cC AK cK AD cD) : NdO w' w.heap.size n (.slice AE n.ents.length cE) (.slice AC n.chs.length cC) (.slice AK n.keys.length cK) (.slice AD n.kids.length cD) ∧ Below w.heap.size w w' := by
  obtain ⟨QE, QC, QK, QD, h1, h2, h3, h4, hS⟩ := h
  have hall := hS.all
  have hge := hS.ge
  exact ⟨⟨h1.ownsB (fun p hp => hall p (by simp [hp])) (fun p hp => hge p (by simp [hp])), h2.ownsB (fun p hp => hall p (by simp [hp])) (fun p hp => hge p (by simp [hp])), h3.ownsB (fun p hp => hall p (by simp [hp])) (fun p hp => hge p (by simp [hp])), h4.ownsB (fun p hp => hall p (by simp [hp])) (fun p hp => hge p (by simp [hp]))⟩, hS.bl⟩
theorem l9_copied (n : Nd) (vE vC vK vD : Value) (w : World) (hN : NdR w n vE vC vK vD) (hb : NdB n) :
    Calls Try.prog 13 #[.agg (ndC n vE vC vK vD)] w fun e w' => ∃ uE uC uK uD, e = .returned (.agg (ndC n uE uC uK uD)) ∧ NdO w' w.heap.size n uE uC uK uD ∧ Below w.heap.size w w' := by
  refine (l9_copiedQ n vE vC vK vD w hN hb).mono ?_
  rintro e w' ⟨AE, cE, AC, cC, AK, cK, AD, cD, rfl, hQ⟩
  exact ⟨_, _, _, _, rfl, hQ.own.1, hQ.own.2⟩
end Go.Proofs.Ytlandlgjhnnaiaa
