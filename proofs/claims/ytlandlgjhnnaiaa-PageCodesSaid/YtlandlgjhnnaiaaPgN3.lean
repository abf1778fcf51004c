/- The reference's Encode. -/
import Derived.Test.YtlandlgjhnnaiaaPgN2
import Derived.Test.YtlandlgjhnnaiaaPg14
import Derived.Test.YtlandlgjhnnaiaaPg19
set_option linter.unusedVariables false
set_option linter.unusedSimpArgs false
set_option maxRecDepth 100000
namespace Go.Proofs.Ytlandlgjhnnaiaa
open Go.RowKit SumMath
def lenV : Value → Nat
  | .slice _ n _ => n
  | _ => 0
theorem QB.lit {b : Nat} {L : List UInt8} (h : L.length ≤ 1000) : QB (.slice (some ⟨b, 0, none⟩) L.length L.length) L.length L [(b, .cells (bv L).toArray 5 (0, 0))] :=
  .inr ⟨b, _, _, rfl, rfl, _, rfl, by rw [bv_length]; omega, Nat.le_refl _, by simp only [maxLen]; omega, by rw [List.size_toArray, bv_length]; omega, by rw [List.take_of_length_le (by simp [bv_length])]⟩
theorem rn_Encode_bad (n : Nd) (vE vC vK vD : Value) (w : World) (hN : NdR w n vE vC vK vD) (hf : fitsN n = false) :
    Calls Try.prog 17 #[.agg (ndC n vE vC vK vD)] w fun e w' => e = .returned (.tuple #[.slice none 0 0, .int .i64 1]) ∧ Below w.heap.size w w' := by
  have HF := Lib.hid (fun (W : World) (hb : Below w.heap.size w W) => rn_Fits n vE vC vK vD W (hN.ext hb))
  rw [hf] at HF
  unfold ndC at HF ⊢
  have HB0 := Lib.hid (show ∀ o, Below w.heap.size w (w.alloc o) from fun o => (Below.refl _ _).alloc (Nat.le_refl _) _)
  clear hN hf
  go_enter Try.func17, Try.ntmps17
  go_wp2_with fail
  refine (HF.out _ (HB0.out _)).mono ?_
  rintro e w1 ⟨rfl, hB1⟩
  have HB1 := Lib.hid ((HB0.out _).trans (hB1.mono (by simp)))
  clear hB1
  go_wp2
  go_ret2
  exact ⟨rfl, HB1.out⟩
set_option maxHeartbeats 2000000 in
theorem rn_Encode (n : Nd) (vE vC vK vD : Value) (w : World) (hN : NdR w n vE vC vK vD) (hf : fitsN n = true) :
    Calls Try.prog 17 #[.agg (ndC n vE vC vK vD)] w fun e w' => ∃ g c, e = .returned (.tuple #[.slice (some ⟨g, 0, none⟩) 512 c, .int .i64 0]) ∧ Own w' w.heap.size (.slice (some ⟨g, 0, none⟩) 512 c) 512 (encN n) ∧ Below w.heap.size w w' := by
  have HF := Lib.hid (fun (W : World) (hb : Below w.heap.size w W) => rn_Fits n vE vC vK vD W (hN.ext hb))
  rw [hf] at HF
  have HFK := Lib.hid (fits_kind hf)
  have hcnt := fits_cnt hf
  have HRL := Lib.hid (rawN_len n hf)
  have HRM := Lib.hid (fits_room n hf)
  have HEX := Lib.hid (show encN n = splice (rawN n) 4 (leB 4 ((sealL (rawN n)).toNat : Nat)) from rfl)
  have HRX := Lib.hid (show rawN n = padB (headN n ++ [0, 0, 0, 0] ++ bodyN n) from rfl)
  have HHD := Lib.hid (show headN n ++ [0, 0, 0, 0] = [181, b8 n.kind, b8 ((n.ents.length : Int) + (n.keys.length : Int) + (n.data.size : Int)), b8 (((n.ents.length : Int) + (n.keys.length : Int) + (n.data.size : Int)) / 256), 0, 0, 0, 0] by
    unfold headN cntN; push_cast; rfl)
  obtain ⟨⟨A1, c1, rfl, h1⟩, ⟨A2, c2, rfl, h2⟩, ⟨A3, c3, rfl, h3⟩, ⟨A4, c4, rfl, h4⟩⟩ := hN
  have HR1 := Lib.hid h1
  have HR2 := Lib.hid h2
  have HR3 := Lib.hid h3
  have HR4 := Lib.hid h4
  have m1 := h1.max
  have m3 := h3.max
  have m4 := h4.max
  clear h1 h2 h3 h4 hf
  have hcn : (0 : Int) ≤ (n.ents.length : Int) ∧ (0 : Int) ≤ (n.keys.length : Int) ∧ (0 : Int) ≤ (n.data.size : Int) ∧ (n.ents.length : Int) + (n.keys.length : Int) + (n.data.size : Int) ≤ 512 := by omega
  have hbw := b8_wrap
  obtain ⟨p, hp⟩ : ∃ p, p = w.heap.size := ⟨_, rfl⟩
  obtain ⟨W0, hW0⟩ : ∃ V, V = w.alloc (ndRow n.kind (.slice A1 n.ents.length c1) (.slice A2 n.chs.length c2) (.slice A3 n.keys.length c3) (.slice A4 n.kids.length c4) n.next n.data) := ⟨_, rfl⟩
  have HS0 := Lib.hid (show Rw w W0 [(p, ndRow n.kind (.slice A1 n.ents.length c1) (.slice A2 n.chs.length c2) (.slice A3 n.keys.length c3) (.slice A4 n.kids.length c4) n.next n.data)] by rw [hW0, hp]; exact (Rw.start w).made _)
  unfold ndRow at hW0
  unfold ndC at HF ⊢
  go_enter Try.func17, Try.ntmps17
  go_wp2_with fail
  rw [← hW0, ← hp]
  clear hW0 hp
  refine (HF.out _ HS0.out.bl).mono ?_
  rintro e W1 ⟨rfl, hb⟩
  have HS1 := Lib.hid (HS0.out.below hb)
  clear hb
  have c7 := cell7 (n := n) (HS1.out.get 0 rfl)
  obtain ⟨H8, hH8⟩ : ∃ H, H = [181, b8 n.kind, b8 ((n.ents.length : Int) + (n.keys.length : Int) + (n.data.size : Int)), b8 (((n.ents.length : Int) + (n.keys.length : Int) + (n.data.size : Int)) / 256), 0, 0, 0, 0] := ⟨_, rfl⟩
  obtain ⟨b, hbb⟩ : ∃ b, b = W1.heap.size := ⟨_, rfl⟩
  obtain ⟨W2, hW2⟩ : ∃ V, V = W1.alloc (.cells (bv H8).toArray 5) := ⟨_, rfl⟩
  have HS2 := Lib.hid (show Rw w W2 ((b, .cells (bv H8).toArray 5 (0, 0)) :: (p, ndRow n.kind (.slice A1 n.ents.length c1) (.slice A2 n.chs.length c2) (.slice A3 n.keys.length c3) (.slice A4 n.kids.length c4) n.next n.data) :: []) by rw [hW2, hbb]; exact HS1.out.made _)
  have hH8l : H8.length = 8 := by rw [hH8]; rfl
  have HQ2 := Lib.hid (show QB (.slice (some ⟨b, 0, none⟩) 8 8) 8 H8 [(b, .cells (bv H8).toArray 5 (0, 0))] by have h9 := QB.lit (b := b) (L := H8) (by omega); rwa [hH8l] at h9)
  clear hH8l
  have HS3 := Lib.hid (show Rw w W2 ((p, ndRow n.kind (.slice A1 n.ents.length c1) (.slice A2 n.chs.length c2) (.slice A3 n.keys.length c3) (.slice A4 n.kids.length c4) n.next n.data) :: ([(b, .cells (bv H8).toArray 5 (0, 0))] ++ [])) from HS2.out.perm (List.Perm.swap _ _ _))
  have HH8 := Lib.hid (show headN n ++ [0, 0, 0, 0] = H8 by rw [HHD.out, hH8])
  have HHL := Lib.hid (show H8.length = 8 by rw [hH8]; rfl)
  rw [hH8, show (bv [181, b8 n.kind, b8 ((n.ents.length : Int) + (n.keys.length : Int) + (n.data.size : Int)), b8 (((n.ents.length : Int) + (n.keys.length : Int) + (n.data.size : Int)) / 256), 0, 0, 0, 0]).toArray = #[.int .u8 181, .int .u8 ((b8 n.kind).toNat : Int), .int .u8 ((b8 ((n.ents.length : Int) + (n.keys.length : Int) + (n.data.size : Int))).toNat : Int), .int .u8 ((b8 (((n.ents.length : Int) + (n.keys.length : Int) + (n.data.size : Int)) / 256)).toNat : Int), .int .u8 0, .int .u8 0, .int .u8 0, .int .u8 0] from rfl] at hW2
  clear hH8
  go_upto_region 6 with fail
  rw [← hbb, ← hW2]
  clear hbb hW2 hcn c7
  have c7 := cell7 (n := n) (HS3.out.get 0 rfl)
  rcases HFK.out with ⟨k1, h1, h2⟩ | ⟨k1, h1, h2⟩ | ⟨k1, h1, h2⟩
  · obtain ⟨p1, p2, p3, p4, p5, p6, p7⟩ := leaf_parts h1
    have HBX := Lib.hid (show bodyN n = entsB n.ents n.chs by unfold bodyN; rw [if_pos k1])
    have HZT := Lib.hid (entsZ_take n.ents n.chs p2)
    have HZM := Lib.hid (entsZ_mono n.ents n.chs p2)
    have HBT := Lib.hid (entsB_take n.ents n.chs p2)
    have HEN := Lib.hid (leafGo_ent n.ents n.chs noS p7)
    have HZ := Lib.hid h2
    have HLC := Lib.hid p2
    have HBD := Lib.hid (leafGo_bnd n.ents n.chs noS p7)
    clear p1 p2 p3 p4 p5 p6 p7 h1 h2
    rw [k1] at c7
    go_wp2_with fail
    go_loopw [6, 7, 8, 9] (fun u x _ _ wx => ∃ k : Nat, k ≤ n.ents.length ∧ x = .int .i64 k ∧ ∃ N Q, QB u N (H8 ++ entsB (n.ents.take k) (n.chs.take k)) Q ∧ Rw w wx ((p, ndRow n.kind (.slice A1 n.ents.length c1) (.slice A2 n.chs.length c2) (.slice A3 n.keys.length c3) (.slice A4 n.kids.length c4) n.next n.data) :: (Q ++ []))) (fun _ x _ _ _ => n.ents.length - (intOf x).toNat)
    case atStart => exact ⟨0, by omega, rfl, 8, _, by simp only [List.take_zero, entsB, List.append_nil]; exact HQ2.out, HS3.out⟩
    case round =>
      obtain ⟨k, hk, rfl, N, Q, hQ, hS⟩ := hrel
      have HQ := Lib.hid hQ
      have HS := Lib.hid hS
      obtain ⟨AB, cB, rfl⟩ := QV.slice hQ
      have hNl := hQ.len
      clear hQ hS c7
      have c7 := cell7 (n := n) (HS.out.get 0 rfl)
      by_cases hkn : k < n.ents.length
      · obtain ⟨b1, o1, rfl, hc1⟩ := HR1.out.at_ (by omega)
        obtain ⟨b2, o2, rfl, -, hc2⟩ := HR2.out.at_ (by rw [HLC.out]; omega)
        have hck := cell_ext HS.out.bl (hc1 k hkn).1
        have hcv := cell_ext HS.out.bl (hc1 k hkn).2
        have HCC := Lib.hid (hc2 k (by rw [HLC.out]; exact hkn))
        obtain ⟨l9, hen⟩ := HEN.out k hkn
        have hbd := HBD.out k hkn
        have HBN := Lib.hid (HBT.out k hkn)
        obtain ⟨e, he⟩ : ∃ e, e = n.ents.getD k default := ⟨_, rfl⟩
        rw [← he] at hck hcv hen HBN hbd
        obtain ⟨c, hc⟩ : ∃ c, c = n.chs.getD k 0 := ⟨_, rfl⟩
        rw [← hc] at HCC hen HBN
        obtain ⟨key, val⟩ := e
        dsimp only at hck hcv hbd
        have HEC := Lib.hid (fun h => leafGo_chain hen h)
        have hbs1 : b1 < wr.heap.size := World.block_lt_of_cell? wr _ hck
        have hNb : N ≤ 100000 := by
          have a1 : (entsB (n.ents.take k) (n.chs.take k)).length ≤ 190 * k := by
            have : ∀ j, j ≤ n.ents.length → (entsB (n.ents.take j) (n.chs.take j)).length = entsZ (n.ents.take j) (n.chs.take j) := fun j hj => by
              induction j with
              | zero => simp [entsB, entsZ]
              | succ j ih =>
                obtain ⟨l, hl9⟩ := HEN.out j (by omega)
                rw [HBT.out j (by omega), HZT.out j (by omega), List.length_append, ih (by omega), entB_len l _ _ hl9]
            rw [this k (by omega)]
            exact entsZ_le n.ents n.chs HLC.out HBD.out k (by omega)
          have a2 := entsZ_two n.ents n.chs HLC.out
          have a3 := HZ.out
          rw [List.length_append, HHL.out] at hNl
          omega
        have HNB := Lib.hid hNb
        have HKV := Lib.hid (And.intro hbd.1 hbd.2)
        have hk0 : (0 : Int) ≤ (k : Int) ∧ (k : Int) < (n.ents.length : Int) ∧ (n.chs.length : Int) = (n.ents.length : Int) := by have := HLC.out; omega
        obtain ⟨x, hx⟩ : ∃ x, x = wr.heap.size := ⟨_, rfl⟩
        obtain ⟨V1, hV1⟩ : ∃ V, V = wr.alloc (.cells #[.string key, .string val] 46) := ⟨_, rfl⟩
        have HS1b := Lib.hid (show Rw w V1 ((x, .cells #[.string key, .string val] 46 (0, 0)) :: (p, ndRow n.kind (.slice (some ⟨b1, o1, none⟩) n.ents.length c1) (.slice (some ⟨b2, o2, none⟩) n.chs.length c2) (.slice A3 n.keys.length c3) (.slice A4 n.kids.length c4) n.next n.data) :: (Q ++ [])) by rw [hV1, hx]; exact HS.out.made _)
        clear he hc hen hc1 hc2 hNl hbd hNb
        go_upto_region 12 with fail
        rw [← hV1, ← hx]
        clear hV1 hx hck hcv hbs1 c7
        have hx0 : V1.cell? ⟨x, 0, none⟩ = some (.string key) := cell_of_row _ x 0 _ _ _ (HS1b.out.get 0 rfl)
        have hx1 : V1.cell? ⟨x, 1, none⟩ = some (.string val) := cell_of_row _ x 1 _ _ _ (HS1b.out.get 0 rfl)
        have d7 := cell7 (n := n) (HS1b.out.get 1 rfl)
        have hcc := cell_ext HS1b.out.bl HCC.out
        obtain ⟨mk, hmk⟩ : ∃ m : UInt8, m = if c ≠ 0 then 255 else b8 val.size := ⟨_, rfl⟩
        obtain ⟨A5, c5, V5, Q5, hrun, hq5, hS5⟩ := (show Rw w V1 ([(x, .cells #[.string key, .string val] 46 (0, 0)), (p, ndRow n.kind (.slice (some ⟨b1, o1, none⟩) n.ents.length c1) (.slice (some ⟨b2, o2, none⟩) n.chs.length c2) (.slice A3 n.keys.length c3) (.slice A4 n.kids.length c4) n.next n.data)] ++ (Q ++ [])) from HS1b.out).appB HQ.out [b8 key.size, mk] (by simp) (by have := HNB.out; simp; omega)
        have HRUN := Lib.hid hrun
        have HQ5 := Lib.hid hq5
        have HS5 := Lib.hid (show Rw w V5 ((x, .cells #[.string key, .string val] 46 (0, 0)) :: (p, ndRow n.kind (.slice (some ⟨b1, o1, none⟩) n.ents.length c1) (.slice (some ⟨b2, o2, none⟩) n.chs.length c2) (.slice A3 n.keys.length c3) (.slice A4 n.kids.length c4) n.next n.data) :: (Q5 ++ [])) from hS5)
        clear hrun hq5 hS5
        have ex0 : V5.cell? ⟨x, 0, none⟩ = some (.string key) := cell_of_row _ x 0 _ _ _ (HS5.out.get 0 rfl)
        have ex1 : V5.cell? ⟨x, 1, none⟩ = some (.string val) := cell_of_row _ x 1 _ _ _ (HS5.out.get 0 rfl)
        by_cases hc0 : c = 0
        · subst hc0
          rw [if_neg (by simp)] at hmk
          subst hmk
          go_wp2_with (at_builtin; refine wpl_app _ _ rfl rfl rfl rfl HRUN.out ?_; clear HRUN hx0 hx1 d7 hcc)
          refine (rq_text (P := [(x, .cells #[.string key, .string val] 46 (0, 0)), (p, ndRow n.kind (.slice (some ⟨b1, o1, none⟩) n.ents.length c1) (.slice (some ⟨b2, o2, none⟩) n.chs.length c2) (.slice A3 n.keys.length c3) (.slice A4 n.kids.length c4) n.next n.data)]) (T := []) key HS5.out HQ5.out (by have := HNB.out; simp; omega) (by have := HKV.out; omega)).mono ?_
          rintro e V6 ⟨A6, c6, Q6, rfl, hq, hS⟩
          have HQ6 := Lib.hid hq
          have HS6 := Lib.hid (show Rw w V6 ((x, .cells #[.string key, .string val] 46 (0, 0)) :: (p, ndRow n.kind (.slice (some ⟨b1, o1, none⟩) n.ents.length c1) (.slice (some ⟨b2, o2, none⟩) n.chs.length c2) (.slice A3 n.keys.length c3) (.slice A4 n.kids.length c4) n.next n.data) :: (Q6 ++ [])) from hS)
          clear hq hS ex0 ex1
          have ex1 : V6.cell? ⟨x, 1, none⟩ = some (.string val) := cell_of_row _ x 1 _ _ _ (HS6.out.get 0 rfl)
          go_wp2_with fail
          refine (rq_text (P := [(x, .cells #[.string key, .string val] 46 (0, 0)), (p, ndRow n.kind (.slice (some ⟨b1, o1, none⟩) n.ents.length c1) (.slice (some ⟨b2, o2, none⟩) n.chs.length c2) (.slice A3 n.keys.length c3) (.slice A4 n.kids.length c4) n.next n.data)]) (T := []) val HS6.out HQ6.out (by have := HNB.out; have := HKV.out; simp; omega) (by have := HKV.out; omega)).mono ?_
          rintro e V7 ⟨A7, c7, Q7, rfl, hq, hS⟩
          have HQ7 := Lib.hid hq
          have HS7 := Lib.hid (show Rw w V7 ((x, .cells #[.string key, .string val] 46 (0, 0)) :: (p, ndRow n.kind (.slice (some ⟨b1, o1, none⟩) n.ents.length c1) (.slice (some ⟨b2, o2, none⟩) n.chs.length c2) (.slice A3 n.keys.length c3) (.slice A4 n.kids.length c4) n.next n.data) :: (Q7 ++ [])) from hS)
          clear hq hS ex1
          have d7 := cell7 (n := n) (HS7.out.get 1 rfl)
          have hcc := cell_ext HS7.out.bl HCC.out
          go_wp2
          go_roundw
          case rel => exact ⟨k + 1, by omega, by go_num, _, Q7, by rw [HBN.out]; have h9 := HQ7.out; simp only [List.append_assoc, List.cons_append, List.nil_append] at h9 ⊢; simpa [entB] using h9, HS7.out.sub (List.sublist_cons_self _ _)⟩
          case measure => simp [intOf]; omega
        · have hc1 : (c != 0) = true := by simpa using hc0
          rw [if_pos hc0] at hmk
          subst hmk
          have HC0 := Lib.hid hc0
          obtain rfl := size_eq (HEC.out hc0)
          clear hc0
          go_wp2_with (at_builtin; refine wpl_app _ _ rfl rfl rfl rfl HRUN.out ?_; clear HRUN hx0 hx1 d7 hcc)
          refine (rq_text (P := [(x, .cells #[.string key, .string noS] 46 (0, 0)), (p, ndRow n.kind (.slice (some ⟨b1, o1, none⟩) n.ents.length c1) (.slice (some ⟨b2, o2, none⟩) n.chs.length c2) (.slice A3 n.keys.length c3) (.slice A4 n.kids.length c4) n.next n.data)]) (T := []) key HS5.out HQ5.out (by have := HNB.out; simp; omega) (by have := HKV.out; omega)).mono ?_
          rintro e V6 ⟨A6, c6, Q6, rfl, hq, hS⟩
          have HQ6 := Lib.hid hq
          have HS6 := Lib.hid (show Rw w V6 ((x, .cells #[.string key, .string noS] 46 (0, 0)) :: (p, ndRow n.kind (.slice (some ⟨b1, o1, none⟩) n.ents.length c1) (.slice (some ⟨b2, o2, none⟩) n.chs.length c2) (.slice A3 n.keys.length c3) (.slice A4 n.kids.length c4) n.next n.data) :: (Q6 ++ [])) from hS)
          clear hq hS ex0 ex1
          have ex1 : V6.cell? ⟨x, 1, none⟩ = some (.string noS) := cell_of_row _ x 1 _ _ _ (HS6.out.get 0 rfl)
          go_wp2_with fail
          refine (rq_text (P := [(x, .cells #[.string key, .string noS] 46 (0, 0)), (p, ndRow n.kind (.slice (some ⟨b1, o1, none⟩) n.ents.length c1) (.slice (some ⟨b2, o2, none⟩) n.chs.length c2) (.slice A3 n.keys.length c3) (.slice A4 n.kids.length c4) n.next n.data)]) (T := []) noS HS6.out HQ6.out (by have := HNB.out; have := HKV.out; simp; omega) (by decide)).mono ?_
          rintro e V7 ⟨A7, c7, Q7, rfl, hq, hS⟩
          have HQ7 := Lib.hid hq
          have HS7 := Lib.hid (show Rw w V7 ((x, .cells #[.string key, .string noS] 46 (0, 0)) :: (p, ndRow n.kind (.slice (some ⟨b1, o1, none⟩) n.ents.length c1) (.slice (some ⟨b2, o2, none⟩) n.chs.length c2) (.slice A3 n.keys.length c3) (.slice A4 n.kids.length c4) n.next n.data) :: (Q7 ++ [])) from hS)
          clear hq hS ex1
          have d7 := cell7 (n := n) (HS7.out.get 1 rfl)
          have hcc := cell_ext HS7.out.bl HCC.out
          go_wp2_with fail
          refine (rq_number (P := [(x, .cells #[.string key, .string noS] 46 (0, 0)), (p, ndRow n.kind (.slice (some ⟨b1, o1, none⟩) n.ents.length c1) (.slice (some ⟨b2, o2, none⟩) n.chs.length c2) (.slice A3 n.keys.length c3) (.slice A4 n.kids.length c4) n.next n.data)]) (T := []) c HS7.out HQ7.out (by have := HNB.out; have := HKV.out; have h0 : noS.size = 0 := rfl; simp only [List.length_cons, List.length_nil]; omega)).mono ?_
          rintro e V8 ⟨A8, c8, Q8, rfl, hq, hS⟩
          have HQ8 := Lib.hid hq
          have HS8 := Lib.hid (show Rw w V8 ((x, .cells #[.string key, .string noS] 46 (0, 0)) :: (p, ndRow n.kind (.slice (some ⟨b1, o1, none⟩) n.ents.length c1) (.slice (some ⟨b2, o2, none⟩) n.chs.length c2) (.slice A3 n.keys.length c3) (.slice A4 n.kids.length c4) n.next n.data) :: (Q8 ++ [])) from hS)
          clear hq hS d7 hcc
          go_wp2
          go_roundw
          case rel => exact ⟨k + 1, by omega, by go_num, _, Q8, by rw [HBN.out]; have h9 := HQ8.out; rw [entB, if_pos HC0.out]; simp only [List.append_assoc, List.cons_append, List.nil_append, show byS noS = [] from rfl] at h9 ⊢; exact h9, HS8.out.sub (List.sublist_cons_self _ _)⟩
          case measure => simp [intOf]; omega
      · obtain rfl : k = n.ents.length := by omega
        have HQZ := Lib.hid (show QB (.slice AB N cB) N (H8 ++ bodyN n) Q by
          have h9 := HQ.out
          rw [List.take_of_length_le (Nat.le_refl _), List.take_of_length_le (by rw [HLC.out]; exact Nat.le_refl _), ← HBX.out] at h9
          exact h9)
        have HNN := Lib.hid (show N = 8 + (bodyN n).length by have h9 := HQZ.out.len; rw [List.length_append, HHL.out] at h9; omega)
        go_wp2_with fail
        go_loopw [6] (fun u wx => ∃ N' Q', N' ≤ 512 ∧ N ≤ N' ∧ QB u N' (H8 ++ bodyN n ++ List.replicate (N' - N) 0) Q' ∧ Rw w wx ((p, ndRow n.kind (.slice A1 n.ents.length c1) (.slice A2 n.chs.length c2) (.slice A3 n.keys.length c3) (.slice A4 n.kids.length c4) n.next n.data) :: (Q' ++ []))) (fun u _ => 512 - lenV u)
        case atStart => exact ⟨N, _, by have := HNN.out; have := HRM.out; omega, Nat.le_refl _, by rw [Nat.sub_self, List.replicate_zero, List.append_nil]; exact HQZ.out, HS.out⟩
        case round =>
          obtain ⟨M, QM, hM1, hM2, hq, hS⟩ := hrel
          have HQM := Lib.hid hq
          have HSM := Lib.hid hS
          obtain ⟨AM, cM, rfl⟩ := QV.slice hq
          clear hq hS
          by_cases hm : M < 512
          · have hmi : (M : Int) < 512 := by omega
            obtain ⟨A5, c5, V5, Q5, hrun, hq5, hS5⟩ := (show Rw w wr ([(p, ndRow n.kind (.slice A1 n.ents.length c1) (.slice A2 n.chs.length c2) (.slice A3 n.keys.length c3) (.slice A4 n.kids.length c4) n.next n.data)] ++ (QM ++ [])) from HSM.out).appB HQM.out [0] (by simp) (by simp; omega)
            have HRUN := Lib.hid hrun
            have HQ5 := Lib.hid hq5
            have HS5 := Lib.hid hS5
            have HRP := Lib.hid (show List.replicate (M - N) (0 : UInt8) ++ [0] = List.replicate (M + 1 - N) 0 by
              rw [show M + 1 - N = (M - N) + 1 by omega, List.replicate_succ'])
            clear hrun hq5 hS5
            go_wp2_with (at_builtin; refine wpl_app _ _ rfl rfl rfl rfl HRUN.out ?_; clear HRUN)
            go_roundw
            case rel => exact ⟨M + 1, Q5, by omega, by omega, by rw [← HRP.out, ← List.append_assoc]; exact HQ5.out, HS5.out⟩
            case measure => simp [lenV]; omega
          · obtain rfl : M = 512 := by omega
            have HOW := Lib.hid (show Own wr w.heap.size (.slice AM 512 cM) 512 (rawN n) by
              have h1 := HQM.out.ownsB (w := wr) (base := w.heap.size) (fun p hp => HSM.out.all p (by simp [hp])) (fun p hp => HSM.out.ge p (by simp [hp]))
              have h2 : rawN n = H8 ++ bodyN n ++ List.replicate (512 - N) 0 := by
                rw [HRX.out, HH8.out]; unfold padB; rw [List.length_append, HHL.out, ← HNN.out]
              rw [h2]; exact h1)
            obtain ⟨g, c9, he9, hg1, hg2⟩ := HOW.out.form (by decide)
            injection he9 with e1 e2 e3
            subst e1 e3
            have HG := Lib.hid hg1
            have HBW := Lib.hid HSM.out.bl
            have HSO := Lib.hid (rn_SumOf (some ⟨g, 0, none⟩) cM (rawN n) wr (by
              obtain ⟨A9, c9, he, hr⟩ := HOW.out.rd (by decide)
              injection he with q1 q2 q3
              subst q1 q3
              exact hr))
            have hsl := (sealL (rawN n)).isLt
            obtain ⟨sl, hsl9⟩ : ∃ s, s = (sealL (rawN n)).toNat := ⟨_, rfl⟩
            rw [← hsl9] at HSO hsl
            have HEX2 := Lib.hid (show encN n = splice (rawN n) 4 (leB 4 (sl : Int)) by rw [HEX.out, hsl9])
            have HXV := Lib.hid (fun j (hj : j < 4) => show ((sl : Int) / 2 ^ (8 * j)) % 256 = (((leB 4 (sl : Int)).getD j 0).toNat : Int) from by rw [← leB_b8 _ j hj, b8_val])
            clear hsl9 hg1 hg2 hbw
            go_wp2_with fail
            refine HSO.out.mono ?_
            rintro e W20 ⟨rfl, rfl⟩
            go_wp2_with fail
            go_loopw [12] (fun x wx => ∃ j : Nat, j ≤ 4 ∧ x = .int .i64 j ∧ Own wx w.heap.size (.slice (some ⟨g, 0, none⟩) 512 cM) 512 (splice (rawN n) 4 ((leB 4 (sl : Int)).take j)) ∧ Below w.heap.size w wx) (fun x _ => 4 - (intOf x).toNat)
            case atStart => exact ⟨0, by omega, rfl, by rw [List.take_zero, spl_nil]; exact HOW.out, HBW.out⟩
            case round =>
              obtain ⟨j, hj, rfl, hOj, hBj⟩ := hrel
              have HOj := Lib.hid hOj
              have HBj := Lib.hid hBj
              by_cases hj4 : j < 4
              · have hcell := hOj.cell (4 + j) (by omega)
                have hfree := hOj.free (4 + j)
                obtain ⟨y, hy⟩ : ∃ y, y = (splice (rawN n) 4 ((leB 4 (sl : Int)).take j)).getD (4 + j) 0 := ⟨_, rfl⟩
                rw [← hy] at hcell
                have hjj : (0 : Int) ≤ (j : Int) ∧ (j : Int) < 4 := by omega
                have hxv := HXV.out j hj4
                have hst := hOj.store (4 + j) ((leB 4 (sl : Int)).getD j 0)
                rw [spl_step (rawN n) (leB 4 (sl : Int)) 4 j 0 (by rw [leB_len, HRL.out]; omega) (by rw [leB_len]; omega)] at hst
                obtain ⟨x, hx⟩ : ∃ x, x = (leB 4 (sl : Int)).getD j 0 := ⟨_, rfl⟩
                rw [← hx] at hxv hst
                have HST := Lib.hid hst
                clear hOj hBj hy hx hst
                go_wp2
                go_roundw
                case rel => exact ⟨j + 1, by omega, by go_num, HST.out, HBj.out.setCell HG.out _⟩
                case measure => simp [intOf]; omega
              · obtain rfl : j = 4 := by omega
                have HT4 := Lib.hid (show (leB 4 (sl : Int)).take 4 = leB 4 (sl : Int) from List.take_of_length_le (by rw [leB_len]; omega))
                rw [HT4.out, ← HEX2.out] at HOj
                clear hOj hBj
                go_wp2
                go_ret2
                exact ⟨g, cM, rfl, HOj.out, HBj.out⟩
  · obtain ⟨p1, p2, p3, p4, p5, p6, p7, p8⟩ := inner_parts h1
    have HBX := Lib.hid (show bodyN n = leB 4 (n.kids.getD 0 0) ++ innB n.keys (n.kids.drop 1) by unfold bodyN; rw [if_neg (by omega), if_pos k1])
    have HDL := Lib.hid (show (n.kids.drop 1).length = n.keys.length by rw [List.length_drop]; omega)
    have HIT := Lib.hid (innB_take n.keys (n.kids.drop 1) HDL.out)
    have HKM := Lib.hid (keysZ_mono n.keys)
    have HIL := Lib.hid (fun k (hk : k ≤ n.keys.length) => show (innB (n.keys.take k) ((n.kids.drop 1).take k)).length = keysZ (n.keys.take k) from innB_len _ _ (by rw [List.length_take, List.length_take, HDL.out]))
    have HKD := Lib.hid p2
    have HZ := Lib.hid h2
    have HBD := Lib.hid (riseGo_bnd n.keys noS p7)
    obtain ⟨b4, o4, rfl, -, hc4⟩ := HR4.out.at_ (by omega)
    have hc40 := cell_ext HS3.out.bl (hc4 0 (by omega))
    have hc40 : W2.cell? ⟨b4, o4, none⟩ = some (.int .i64 (n.kids.getD 0 0)) := hc40
    have HC4 := Lib.hid hc4
    have hkl : (0 : Int) < (n.kids.length : Int) ∧ (n.kids.length : Int) = (n.keys.length : Int) + 1 := by omega
    clear p1 p2 p3 p4 p5 p6 p7 p8 h1 h2 hc4
    rw [k1] at c7
    go_wp2_with fail
    refine (rq_number (P := [(p, ndRow n.kind (.slice A1 n.ents.length c1) (.slice A2 n.chs.length c2) (.slice A3 n.keys.length c3) (.slice (some ⟨b4, o4, none⟩) n.kids.length c4) n.next n.data)]) (T := []) (n.kids.getD 0 0) HS3.out HQ2.out (by decide)).mono ?_
    rintro e V5 ⟨A5, c5, Q5, rfl, hq, hS⟩
    have HQ5 := Lib.hid hq
    have HS5 := Lib.hid (show Rw w V5 ((p, ndRow n.kind (.slice A1 n.ents.length c1) (.slice A2 n.chs.length c2) (.slice A3 n.keys.length c3) (.slice (some ⟨b4, o4, none⟩) n.kids.length c4) n.next n.data) :: (Q5 ++ [])) from hS)
    clear hq hS c7 hc40 hkl
    have c7 := cell7 (n := n) (HS5.out.get 0 rfl)
    go_wp2_with fail
    go_loopw [6, 10] (fun u x wx => ∃ k : Nat, k ≤ n.keys.length ∧ x = .int .i64 k ∧ ∃ N Q, QB u N (H8 ++ leB 4 (n.kids.getD 0 0) ++ innB (n.keys.take k) ((n.kids.drop 1).take k)) Q ∧ Rw w wx ((p, ndRow n.kind (.slice A1 n.ents.length c1) (.slice A2 n.chs.length c2) (.slice A3 n.keys.length c3) (.slice (some ⟨b4, o4, none⟩) n.kids.length c4) n.next n.data) :: (Q ++ []))) (fun _ x _ => n.keys.length - (intOf x).toNat)
    case atStart => exact ⟨0, by omega, rfl, _, _, by simp only [List.take_zero, innB, List.append_nil]; exact HQ5.out, HS5.out⟩
    case round =>
      obtain ⟨k, hk, rfl, N, Q, hQ, hS⟩ := hrel
      have HQ := Lib.hid hQ
      have HS := Lib.hid hS
      obtain ⟨AB, cB, rfl⟩ := QV.slice hQ
      have hNl := hQ.len
      clear hQ hS c7
      have c7 := cell7 (n := n) (HS.out.get 0 rfl)
      by_cases hkn : k < n.keys.length
      · obtain ⟨b3, o3, rfl, hc3⟩ := HR3.out.at_ (by omega)
        have hck := cell_ext HS.out.bl (hc3 k hkn)
        have HBN := Lib.hid (HIT.out k hkn)
        have hbd := HBD.out k hkn
        have hNb : N ≤ 600 := by
          have a1 := HIL.out k (by omega)
          have a2 := HKM.out k (by omega)
          have a3 := HZ.out
          rw [List.length_append, List.length_append, HHL.out, leB_len, a1] at hNl
          omega
        have HCC := Lib.hid (show ∀ V : World, Below w.heap.size w V → V.cell? ⟨b4, o4 + (k + 1), none⟩ = some (.int .i64 ((n.kids.drop 1).getD k 0)) from fun V hb => by
          rw [cell_ext hb (HC4.out (k + 1) (by have := HKD.out; omega))]
          congr 2
          simp [List.getD_eq_getElem?_getD, Nat.add_comm])
        have HKC := Lib.hid (show ∀ V : World, Below w.heap.size w V → V.cell? ⟨b3, o3 + k, none⟩ = some (.string (n.keys.getD k default)) from fun V hb => cell_ext hb (hc3 k hkn))
        obtain ⟨key, he⟩ : ∃ e, e = n.keys.getD k default := ⟨_, rfl⟩
        rw [← he] at hck HBN hbd HKC
        obtain ⟨c, hc⟩ : ∃ c, c = (n.kids.drop 1).getD k 0 := ⟨_, rfl⟩
        rw [← hc] at HCC HBN
        have HNB := Lib.hid hNb
        have HKV := Lib.hid hbd
        have hbs3 : b3 < wr.heap.size := World.block_lt_of_cell? wr _ hck
        have hk0 : (0 : Int) ≤ (k : Int) ∧ (k : Int) < (n.keys.length : Int) ∧ (n.kids.length : Int) = (n.keys.length : Int) + 1 ∧ (n.keys.length : Int) ≤ 13000000000000 := by have := HKD.out; omega
        clear he hc hc3 hNl hNb hbd
        obtain ⟨A6, c6, V6, Q6, hrun, hq6, hS6⟩ := (show Rw w wr ([(p, ndRow n.kind (.slice A1 n.ents.length c1) (.slice A2 n.chs.length c2) (.slice (some ⟨b3, o3, none⟩) n.keys.length c3) (.slice (some ⟨b4, o4, none⟩) n.kids.length c4) n.next n.data)] ++ (Q ++ [])) from HS.out).appB HQ.out [b8 key.size] (by simp) (by have := HNB.out; simp; omega)
        have HRUN := Lib.hid hrun
        have HQ6 := Lib.hid hq6
        have HS6 := Lib.hid (show Rw w V6 ((p, ndRow n.kind (.slice A1 n.ents.length c1) (.slice A2 n.chs.length c2) (.slice (some ⟨b3, o3, none⟩) n.keys.length c3) (.slice (some ⟨b4, o4, none⟩) n.kids.length c4) n.next n.data) :: (Q6 ++ [])) from hS6)
        clear hrun hq6 hS6
        go_wp2_with (at_builtin; refine wpl_app _ _ rfl rfl rfl rfl HRUN.out ?_; clear HRUN c7 hck hbs3; have c7 := cell7 (n := n) (HS6.out.get 0 rfl); have hck := HKC.out V6 HS6.out.bl)
        refine (rq_text (P := [(p, ndRow n.kind (.slice A1 n.ents.length c1) (.slice A2 n.chs.length c2) (.slice (some ⟨b3, o3, none⟩) n.keys.length c3) (.slice (some ⟨b4, o4, none⟩) n.kids.length c4) n.next n.data)]) (T := []) key HS6.out HQ6.out (by have := HNB.out; simp; omega) (by have := HKV.out; omega)).mono ?_
        rintro e V7 ⟨A7, c9, Q7, rfl, hq, hS⟩
        have HQ7 := Lib.hid hq
        have HS7 := Lib.hid (show Rw w V7 ((p, ndRow n.kind (.slice A1 n.ents.length c1) (.slice A2 n.chs.length c2) (.slice (some ⟨b3, o3, none⟩) n.keys.length c3) (.slice (some ⟨b4, o4, none⟩) n.kids.length c4) n.next n.data) :: (Q7 ++ [])) from hS)
        clear hq hS c7 hck
        have c7 := cell7 (n := n) (HS7.out.get 0 rfl)
        have hcc := HCC.out V7 HS7.out.bl
        have hw1 : IntKind.i64.wrap ((k : Int) + 1) = ((k + 1 : Nat) : Int) := by have := wrap_i64_nat (k + 1) (by omega); push_cast at this ⊢; exact this
        have hk1 : (0 : Int) ≤ ((k + 1 : Nat) : Int) ∧ ((k + 1 : Nat) : Int) < (n.kids.length : Int) := by omega
        go_wp2_with fail
        refine (rq_number (P := [(p, ndRow n.kind (.slice A1 n.ents.length c1) (.slice A2 n.chs.length c2) (.slice (some ⟨b3, o3, none⟩) n.keys.length c3) (.slice (some ⟨b4, o4, none⟩) n.kids.length c4) n.next n.data)]) (T := []) c HS7.out HQ7.out (by have := HNB.out; have := HKV.out; simp only [List.length_cons, List.length_nil]; omega)).mono ?_
        rintro e V8 ⟨A8, c8, Q8, rfl, hq, hS⟩
        have HQ8 := Lib.hid hq
        have HS8 := Lib.hid (show Rw w V8 ((p, ndRow n.kind (.slice A1 n.ents.length c1) (.slice A2 n.chs.length c2) (.slice (some ⟨b3, o3, none⟩) n.keys.length c3) (.slice (some ⟨b4, o4, none⟩) n.kids.length c4) n.next n.data) :: (Q8 ++ [])) from hS)
        clear hq hS c7 hcc hw1 hk1
        go_wp2
        go_roundw
        case rel => exact ⟨k + 1, by omega, by go_num, _, Q8, by rw [HBN.out]; have h9 := HQ8.out; simp only [List.append_assoc, List.cons_append, List.nil_append] at h9 ⊢; exact h9, HS8.out⟩
        case measure => simp [intOf]; omega
      · obtain rfl : k = n.keys.length := by omega
        have HQZ := Lib.hid (show QB (.slice AB N cB) N (H8 ++ bodyN n) Q by
          have h9 := HQ.out
          rw [List.take_of_length_le (Nat.le_refl _), List.take_of_length_le (by rw [HDL.out]; exact Nat.le_refl _), List.append_assoc, ← HBX.out] at h9
          exact h9)
        have HNN := Lib.hid (show N = 8 + (bodyN n).length by have h9 := HQZ.out.len; rw [List.length_append, HHL.out] at h9; omega)
        go_wp2_with fail
        go_loopw [6] (fun u wx => ∃ N' Q', N' ≤ 512 ∧ N ≤ N' ∧ QB u N' (H8 ++ bodyN n ++ List.replicate (N' - N) 0) Q' ∧ Rw w wx ((p, ndRow n.kind (.slice A1 n.ents.length c1) (.slice A2 n.chs.length c2) (.slice A3 n.keys.length c3) (.slice (some ⟨b4, o4, none⟩) n.kids.length c4) n.next n.data) :: (Q' ++ []))) (fun u _ => 512 - lenV u)
        case atStart => exact ⟨N, _, by have := HNN.out; have := HRM.out; omega, Nat.le_refl _, by rw [Nat.sub_self, List.replicate_zero, List.append_nil]; exact HQZ.out, HS.out⟩
        case round =>
          obtain ⟨M, QM, hM1, hM2, hq, hS⟩ := hrel
          have HQM := Lib.hid hq
          have HSM := Lib.hid hS
          obtain ⟨AM, cM, rfl⟩ := QV.slice hq
          clear hq hS
          by_cases hm : M < 512
          · have hmi : (M : Int) < 512 := by omega
            obtain ⟨A5, c5, V5, Q5, hrun, hq5, hS5⟩ := (show Rw w wr ([(p, ndRow n.kind (.slice A1 n.ents.length c1) (.slice A2 n.chs.length c2) (.slice A3 n.keys.length c3) (.slice (some ⟨b4, o4, none⟩) n.kids.length c4) n.next n.data)] ++ (QM ++ [])) from HSM.out).appB HQM.out [0] (by simp) (by simp; omega)
            have HRUN := Lib.hid hrun
            have HQ5 := Lib.hid hq5
            have HS5 := Lib.hid hS5
            have HRP := Lib.hid (show List.replicate (M - N) (0 : UInt8) ++ [0] = List.replicate (M + 1 - N) 0 by
              rw [show M + 1 - N = (M - N) + 1 by omega, List.replicate_succ'])
            clear hrun hq5 hS5
            go_wp2_with (at_builtin; refine wpl_app _ _ rfl rfl rfl rfl HRUN.out ?_; clear HRUN)
            go_roundw
            case rel => exact ⟨M + 1, Q5, by omega, by omega, by rw [← HRP.out, ← List.append_assoc]; exact HQ5.out, HS5.out⟩
            case measure => simp [lenV]; omega
          · obtain rfl : M = 512 := by omega
            have HOW := Lib.hid (show Own wr w.heap.size (.slice AM 512 cM) 512 (rawN n) by
              have h1 := HQM.out.ownsB (w := wr) (base := w.heap.size) (fun p hp => HSM.out.all p (by simp [hp])) (fun p hp => HSM.out.ge p (by simp [hp]))
              have h2 : rawN n = H8 ++ bodyN n ++ List.replicate (512 - N) 0 := by
                rw [HRX.out, HH8.out]; unfold padB; rw [List.length_append, HHL.out, ← HNN.out]
              rw [h2]; exact h1)
            obtain ⟨g, c9, he9, hg1, hg2⟩ := HOW.out.form (by decide)
            injection he9 with e1 e2 e3
            subst e1 e3
            have HG := Lib.hid hg1
            have HBW := Lib.hid HSM.out.bl
            have HSO := Lib.hid (rn_SumOf (some ⟨g, 0, none⟩) cM (rawN n) wr (by
              obtain ⟨A9, c9, he, hr⟩ := HOW.out.rd (by decide)
              injection he with q1 q2 q3
              subst q1 q3
              exact hr))
            have hsl := (sealL (rawN n)).isLt
            obtain ⟨sl, hsl9⟩ : ∃ s, s = (sealL (rawN n)).toNat := ⟨_, rfl⟩
            rw [← hsl9] at HSO hsl
            have HEX2 := Lib.hid (show encN n = splice (rawN n) 4 (leB 4 (sl : Int)) by rw [HEX.out, hsl9])
            have HXV := Lib.hid (fun j (hj : j < 4) => show ((sl : Int) / 2 ^ (8 * j)) % 256 = (((leB 4 (sl : Int)).getD j 0).toNat : Int) from by rw [← leB_b8 _ j hj, b8_val])
            clear hsl9 hg1 hg2 hbw
            go_wp2_with fail
            refine HSO.out.mono ?_
            rintro e W20 ⟨rfl, rfl⟩
            go_wp2_with fail
            go_loopw [12] (fun x wx => ∃ j : Nat, j ≤ 4 ∧ x = .int .i64 j ∧ Own wx w.heap.size (.slice (some ⟨g, 0, none⟩) 512 cM) 512 (splice (rawN n) 4 ((leB 4 (sl : Int)).take j)) ∧ Below w.heap.size w wx) (fun x _ => 4 - (intOf x).toNat)
            case atStart => exact ⟨0, by omega, rfl, by rw [List.take_zero, spl_nil]; exact HOW.out, HBW.out⟩
            case round =>
              obtain ⟨j, hj, rfl, hOj, hBj⟩ := hrel
              have HOj := Lib.hid hOj
              have HBj := Lib.hid hBj
              by_cases hj4 : j < 4
              · have hcell := hOj.cell (4 + j) (by omega)
                have hfree := hOj.free (4 + j)
                obtain ⟨y, hy⟩ : ∃ y, y = (splice (rawN n) 4 ((leB 4 (sl : Int)).take j)).getD (4 + j) 0 := ⟨_, rfl⟩
                rw [← hy] at hcell
                have hjj : (0 : Int) ≤ (j : Int) ∧ (j : Int) < 4 := by omega
                have hxv := HXV.out j hj4
                have hst := hOj.store (4 + j) ((leB 4 (sl : Int)).getD j 0)
                rw [spl_step (rawN n) (leB 4 (sl : Int)) 4 j 0 (by rw [leB_len, HRL.out]; omega) (by rw [leB_len]; omega)] at hst
                obtain ⟨x, hx⟩ : ∃ x, x = (leB 4 (sl : Int)).getD j 0 := ⟨_, rfl⟩
                rw [← hx] at hxv hst
                have HST := Lib.hid hst
                clear hOj hBj hy hx hst
                go_wp2
                go_roundw
                case rel => exact ⟨j + 1, by omega, by go_num, HST.out, HBj.out.setCell HG.out _⟩
                case measure => simp [intOf]; omega
              · obtain rfl : j = 4 := by omega
                have HT4 := Lib.hid (show (leB 4 (sl : Int)).take 4 = leB 4 (sl : Int) from List.take_of_length_le (by rw [leB_len]; omega))
                rw [HT4.out, ← HEX2.out] at HOj
                clear hOj hBj
                go_wp2
                go_ret2
                exact ⟨g, cM, rfl, HOj.out, HBj.out⟩
  · obtain ⟨p1, p2, p3, p4, p5, p6⟩ := chain_parts h1
    have HBX := Lib.hid (show bodyN n = leB 4 n.next ++ byS n.data by unfold bodyN; rw [if_neg (by omega), if_neg (by omega), if_pos k1])
    have HDS := Lib.hid p6
    clear p1 p2 p3 p4 p5 p6 h1 h2
    rw [k1] at c7
    go_wp2_with fail
    refine (rq_number (P := [(p, ndRow n.kind (.slice A1 n.ents.length c1) (.slice A2 n.chs.length c2) (.slice A3 n.keys.length c3) (.slice A4 n.kids.length c4) n.next n.data)]) (T := []) n.next HS3.out HQ2.out (by decide)).mono ?_
    rintro e V5 ⟨A5, c5, Q5, rfl, hq, hS⟩
    have HQ5 := Lib.hid hq
    have HS5 := Lib.hid (show Rw w V5 ((p, ndRow n.kind (.slice A1 n.ents.length c1) (.slice A2 n.chs.length c2) (.slice A3 n.keys.length c3) (.slice A4 n.kids.length c4) n.next n.data) :: (Q5 ++ [])) from hS)
    clear hq hS c7
    have c7 := cell7 (n := n) (HS5.out.get 0 rfl)
    go_wp2_with fail
    refine (rq_text (P := [(p, ndRow n.kind (.slice A1 n.ents.length c1) (.slice A2 n.chs.length c2) (.slice A3 n.keys.length c3) (.slice A4 n.kids.length c4) n.next n.data)]) (T := []) n.data HS5.out HQ5.out (by decide) (by have := HDS.out; omega)).mono ?_
    rintro e V6 ⟨AB, cB, Q, rfl, hq, hS⟩
    have HQ6 := Lib.hid hq
    have HS := Lib.hid (show Rw w V6 ((p, ndRow n.kind (.slice A1 n.ents.length c1) (.slice A2 n.chs.length c2) (.slice A3 n.keys.length c3) (.slice A4 n.kids.length c4) n.next n.data) :: (Q ++ [])) from hS)
    obtain ⟨N, hN9⟩ : ∃ N, N = 8 + 4 + n.data.size := ⟨_, rfl⟩
    have HQZ := Lib.hid (show QB (.slice AB N cB) N (H8 ++ bodyN n) Q by
      rw [HBX.out, ← List.append_assoc, hN9]; exact HQ6.out)
    rw [← hN9]
    clear hq hS c7 hN9
    have HNN := Lib.hid (show N = 8 + (bodyN n).length by have h9 := HQZ.out.len; rw [List.length_append, HHL.out] at h9; omega)
    go_wp2_with fail
    go_loopw [6] (fun u wx => ∃ N' Q', N' ≤ 512 ∧ N ≤ N' ∧ QB u N' (H8 ++ bodyN n ++ List.replicate (N' - N) 0) Q' ∧ Rw w wx ((p, ndRow n.kind (.slice A1 n.ents.length c1) (.slice A2 n.chs.length c2) (.slice A3 n.keys.length c3) (.slice A4 n.kids.length c4) n.next n.data) :: (Q' ++ []))) (fun u _ => 512 - lenV u)
    case atStart => exact ⟨N, _, by have := HNN.out; have := HRM.out; omega, Nat.le_refl _, by rw [Nat.sub_self, List.replicate_zero, List.append_nil]; exact HQZ.out, HS.out⟩
    case round =>
      obtain ⟨M, QM, hM1, hM2, hq, hS⟩ := hrel
      have HQM := Lib.hid hq
      have HSM := Lib.hid hS
      obtain ⟨AM, cM, rfl⟩ := QV.slice hq
      clear hq hS
      by_cases hm : M < 512
      · have hmi : (M : Int) < 512 := by omega
        obtain ⟨A5, c5, V5, Q5, hrun, hq5, hS5⟩ := (show Rw w wr ([(p, ndRow n.kind (.slice A1 n.ents.length c1) (.slice A2 n.chs.length c2) (.slice A3 n.keys.length c3) (.slice A4 n.kids.length c4) n.next n.data)] ++ (QM ++ [])) from HSM.out).appB HQM.out [0] (by simp) (by simp; omega)
        have HRUN := Lib.hid hrun
        have HQ5 := Lib.hid hq5
        have HS5 := Lib.hid hS5
        have HRP := Lib.hid (show List.replicate (M - N) (0 : UInt8) ++ [0] = List.replicate (M + 1 - N) 0 by
          rw [show M + 1 - N = (M - N) + 1 by omega, List.replicate_succ'])
        clear hrun hq5 hS5
        go_wp2_with (at_builtin; refine wpl_app _ _ rfl rfl rfl rfl HRUN.out ?_; clear HRUN)
        go_roundw
        case rel => exact ⟨M + 1, Q5, by omega, by omega, by rw [← HRP.out, ← List.append_assoc]; exact HQ5.out, HS5.out⟩
        case measure => simp [lenV]; omega
      · obtain rfl : M = 512 := by omega
        have HOW := Lib.hid (show Own wr w.heap.size (.slice AM 512 cM) 512 (rawN n) by
          have h1 := HQM.out.ownsB (w := wr) (base := w.heap.size) (fun p hp => HSM.out.all p (by simp [hp])) (fun p hp => HSM.out.ge p (by simp [hp]))
          have h2 : rawN n = H8 ++ bodyN n ++ List.replicate (512 - N) 0 := by
            rw [HRX.out, HH8.out]; unfold padB; rw [List.length_append, HHL.out, ← HNN.out]
          rw [h2]; exact h1)
        obtain ⟨g, c9, he9, hg1, hg2⟩ := HOW.out.form (by decide)
        injection he9 with e1 e2 e3
        subst e1 e3
        have HG := Lib.hid hg1
        have HBW := Lib.hid HSM.out.bl
        have HSO := Lib.hid (rn_SumOf (some ⟨g, 0, none⟩) cM (rawN n) wr (by
          obtain ⟨A9, c9, he, hr⟩ := HOW.out.rd (by decide)
          injection he with q1 q2 q3
          subst q1 q3
          exact hr))
        have hsl := (sealL (rawN n)).isLt
        obtain ⟨sl, hsl9⟩ : ∃ s, s = (sealL (rawN n)).toNat := ⟨_, rfl⟩
        rw [← hsl9] at HSO hsl
        have HEX2 := Lib.hid (show encN n = splice (rawN n) 4 (leB 4 (sl : Int)) by rw [HEX.out, hsl9])
        have HXV := Lib.hid (fun j (hj : j < 4) => show ((sl : Int) / 2 ^ (8 * j)) % 256 = (((leB 4 (sl : Int)).getD j 0).toNat : Int) from by rw [← leB_b8 _ j hj, b8_val])
        clear hsl9 hg1 hg2 hbw
        go_wp2_with fail
        refine HSO.out.mono ?_
        rintro e W20 ⟨rfl, rfl⟩
        go_wp2_with fail
        go_loopw [12] (fun x wx => ∃ j : Nat, j ≤ 4 ∧ x = .int .i64 j ∧ Own wx w.heap.size (.slice (some ⟨g, 0, none⟩) 512 cM) 512 (splice (rawN n) 4 ((leB 4 (sl : Int)).take j)) ∧ Below w.heap.size w wx) (fun x _ => 4 - (intOf x).toNat)
        case atStart => exact ⟨0, by omega, rfl, by rw [List.take_zero, spl_nil]; exact HOW.out, HBW.out⟩
        case round =>
          obtain ⟨j, hj, rfl, hOj, hBj⟩ := hrel
          have HOj := Lib.hid hOj
          have HBj := Lib.hid hBj
          by_cases hj4 : j < 4
          · have hcell := hOj.cell (4 + j) (by omega)
            have hfree := hOj.free (4 + j)
            obtain ⟨y, hy⟩ : ∃ y, y = (splice (rawN n) 4 ((leB 4 (sl : Int)).take j)).getD (4 + j) 0 := ⟨_, rfl⟩
            rw [← hy] at hcell
            have hjj : (0 : Int) ≤ (j : Int) ∧ (j : Int) < 4 := by omega
            have hxv := HXV.out j hj4
            have hst := hOj.store (4 + j) ((leB 4 (sl : Int)).getD j 0)
            rw [spl_step (rawN n) (leB 4 (sl : Int)) 4 j 0 (by rw [leB_len, HRL.out]; omega) (by rw [leB_len]; omega)] at hst
            obtain ⟨x, hx⟩ : ∃ x, x = (leB 4 (sl : Int)).getD j 0 := ⟨_, rfl⟩
            rw [← hx] at hxv hst
            have HST := Lib.hid hst
            clear hOj hBj hy hx hst
            go_wp2
            go_roundw
            case rel => exact ⟨j + 1, by omega, by go_num, HST.out, HBj.out.setCell HG.out _⟩
            case measure => simp [intOf]; omega
          · obtain rfl : j = 4 := by omega
            have HT4 := Lib.hid (show (leB 4 (sl : Int)).take 4 = leB 4 (sl : Int) from List.take_of_length_le (by rw [leB_len]; omega))
            rw [HT4.out, ← HEX2.out] at HOj
            clear hOj hBj
            go_wp2
            go_ret2
            exact ⟨g, cM, rfl, HOj.out, HBj.out⟩
end Go.Proofs.Ytlandlgjhnnaiaa
