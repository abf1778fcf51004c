/- Walks: the reference's Make and Split. -/
import Derived.Test.YtdgcfhlfihpbiaaDoorKy3
import Derived.Deep.DeepCutAuto
set_option linter.unusedVariables false
set_option linter.unusedSimpArgs false
set_option maxRecDepth 100000
namespace Go.Proofs.YtdgcfhlfihpbiaaDoor
open Go.RowKit
set_option maxHeartbeats 2000000 in
theorem kr_Make (A : Option Addr) (n c : Nat) (ps : List ByteArray) (w : World) (hr : RdT w A n c ps) (hs : ∀ x ∈ ps, x.size ≤ 1048576) :
    Calls Tryd.prog 25 #[.slice A n c] w (MkPost ps w) := by
  have HR := Lib.hid hr
  have hmx := hr.max
  have HL := Lib.hid hr.len
  have HS := Lib.hid hs
  clear hr hs
  by_cases hbad : n < 1 ∨ 8 < n
  · have HA := Lib.hid (show mkA ps = (⟨#[]⟩, 1) by unfold mkA; rw [if_pos (by rw [HL.out]; omega)])
    rcases hbad with h1 | h1
    · have e1 : (n : Int) < 1 := by omega
      have e2 : decide ((n : Int) < 1) = true := decide_eq_true e1
      clear h1
      go_enter Tryd.func25, Tryd.ntmps25
      go_wp2
      go_ret2
      exact ⟨by rw [HA.out]; rfl, Below.refl _ _⟩
    · have e1 : ¬ (n : Int) < 1 := by omega
      have e4 : decide ((n : Int) < 1) = false := decide_eq_false e1
      have e2 : (8 : Int) < (n : Int) := by omega
      have e3 : decide ((8 : Int) < (n : Int)) = true := decide_eq_true e2
      clear h1
      go_enter Tryd.func25, Tryd.ntmps25
      go_wp2
      go_ret2
      exact ⟨by rw [HA.out]; rfl, Below.refl _ _⟩
  · have hn8 : n ≤ 8 := by omega
    have e1 : ¬ (n : Int) < 1 := by omega
    have e4 : decide ((n : Int) < 1) = false := decide_eq_false e1
    have e2 : ¬ (8 : Int) < (n : Int) := by omega
    have e3 : decide ((8 : Int) < (n : Int)) = false := decide_eq_false e2
    have HNB := Lib.hid hbad
    clear hbad
    go_enter Tryd.func25, Tryd.ntmps25
    go_wp2_with fail
    go_loopw [4, 5, 6] (fun v x _ wx => ∃ k m : Nat, k ≤ n ∧ x = .int .i64 k ∧ m ≤ 3145728 * k ∧ Own wx w.heap.size v m (mkL (ps.take k)) ∧ Below w.heap.size w wx) (fun _ x _ _ => n - (intOf x).toNat)
    case atStart => exact ⟨0, 0, by omega, rfl, by omega, Own.nil _ _, Below.refl _ _⟩
    case round =>
      obtain ⟨k, m, hk, rfl, hm, hO, hB⟩ := hrel
      have HO := Lib.hid hO
      have HB := Lib.hid hB
      clear hO hB
      by_cases hkn : k < n
      · obtain ⟨bb, oo, rfl, hc⟩ := HR.out.at_ (by omega)
        have hck0 := hc k hkn
        have hsz := HS.out _ (memT ps k (by rw [HL.out]; exact hkn))
        obtain ⟨x, hx⟩ : ∃ x, x = ps.getD k default := ⟨_, rfl⟩
        rw [← hx] at hck0 hsz
        have HCK := Lib.hid hck0
        have HX := Lib.hid (show mkL (ps.take (k + 1)) = mkL (ps.take k) ++ (esc x.data.toList ++ [0, 1]) by rw [takeT_snoc ps k (by rw [HL.out]; exact hkn), mkL_append, ← hx, mkL_one])
        have hk0 : (0 : Int) ≤ (k : Int) ∧ (k : Int) < (n : Int) := by omega
        have HXL := Lib.hid (str_len x)
        have HXG := Lib.hid (fun j hj => bget x j hj)
        clear hc hx hck0
        go_wp2_with fail
        go_loopw [4, 6] (fun v y wx => ∃ j q : Nat, j ≤ x.size ∧ y = .int .i64 j ∧ q ≤ 3145728 * k + 2 * j ∧ Own wx w.heap.size v q (mkL (ps.take k) ++ esc (x.data.toList.take j)) ∧ Below w.heap.size w wx) (fun _ y _ => x.size - (intOf y).toNat)
        case atStart => exact ⟨0, m, by omega, rfl, by omega, by simpa [esc] using HO.out, HB.out⟩
        case round =>
          obtain ⟨j, q, hj, rfl, hq, hO, hB⟩ := hrel
          have HO := Lib.hid hO
          have HB := Lib.hid hB
          have hck := cell_ext hB HCK.out
          have hz := hB.size
          clear hO hB
          by_cases hjn : j < x.size
          · obtain ⟨c1, hc1⟩ : ∃ c1, c1 = x[j] := ⟨_, rfl⟩
            have hc2 : c1 = x.data.toList.getD j 0 := by rw [hc1]; exact HXG.out j hjn
            have hts := take_snoc x.data.toList j 0 (by rw [HXL.out]; exact hjn)
            rw [← hc2] at hts
            by_cases h0 : c1 = 0
            · have HT := Lib.hid (show mkL (ps.take k) ++ esc (x.data.toList.take (j + 1)) = (mkL (ps.take k) ++ esc (x.data.toList.take j) ++ [x[j]]) ++ [255] by
                rw [hts, esc_append, esc_one, ← hc1, h0]; simp [esc1])
              have hx0 : x[j] = 0 := by rw [← hc1]; exact h0
              have hx1 : ((x[j].toNat : Int) == 0) = true := by rw [hx0]; rfl
              clear hc1 hc2 hts h0 hx0
              go_upto_region 11 with (at_builtin; refine wp_appB w.heap.size (HO.out.alloc _) (Rd.lit wr [x[j]] 1 rfl (by omega)) (by simp; omega) (by omega) _ _ rfl rfl rfl rfl ?_; intro v1 w1 hO1 hG1 hA1; have HO1 := Lib.hid hO1; have HB1 := Lib.hid ((HB.out.alloc hz (.cells #[.int .u8 (x[j].toNat : Int)] 5)).grown hG1 (by simp; omega) (fun p hp => (HO.out.blk p hp).1)); have hck1 := cell_ext HB1.out HCK.out; have hz1 := HB1.out.size; clear hO1 hG1 hA1)
              go_wp2_with (at_builtin; refine wp_appB w.heap.size (HO1.out.alloc _) (Rd.lit w1 [255] 1 rfl (by omega)) (by simp; omega) (by omega) _ _ rfl rfl rfl rfl ?_; intro v2 w2 hO2 hG2 hA2; have HO2 := Lib.hid hO2; have HB2 := Lib.hid ((HB1.out.alloc hz1 (.cells #[.int .u8 255] 5)).grown hG2 (by simp; omega) (fun p hp => (HO1.out.blk p hp).1)); clear hO2 hG2 hA2)
              go_roundw
              case rel => exact ⟨j + 1, q + 1 + 1, by omega, by go_num, by omega, by rw [HT.out]; exact HO2.out, HB2.out⟩
              case measure => simp [intOf]; omega
            · have HT := Lib.hid (show mkL (ps.take k) ++ esc (x.data.toList.take (j + 1)) = mkL (ps.take k) ++ esc (x.data.toList.take j) ++ [x[j]] by
                rw [hts, esc_append, esc_one, ← hc1, List.append_assoc]; unfold esc1; rw [if_neg h0])
              have hx1 : ((x[j].toNat : Int) == 0) = false := by
                rw [← hc1]
                simp only [beq_eq_false_iff_ne, ne_eq]
                intro h; exact h0 (UInt8.toNat_inj.1 (by have : (0 : UInt8).toNat = 0 := rfl; omega))
              clear hc1 hc2 hts h0
              go_wp2_with (at_builtin; refine wp_appB w.heap.size (HO.out.alloc _) (Rd.lit wr [x[j]] 1 rfl (by omega)) (by simp; omega) (by omega) _ _ rfl rfl rfl rfl ?_; intro v1 w1 hO1 hG1 hA1; have HO1 := Lib.hid hO1; have HB1 := Lib.hid ((HB.out.alloc hz (.cells #[.int .u8 (x[j].toNat : Int)] 5)).grown hG1 (by simp; omega) (fun p hp => (HO.out.blk p hp).1)); have hck1 := cell_ext HB1.out HCK.out; clear hO1 hG1 hA1)
              go_roundw
              case rel => exact ⟨j + 1, q + 1, by omega, by go_num, by omega, by rw [HT.out]; exact HO1.out, HB1.out⟩
              case measure => simp [intOf]; omega
          · obtain rfl : x.size = j := by omega
            have HT := Lib.hid (show mkL (ps.take (k + 1)) = (mkL (ps.take k) ++ esc (x.data.toList.take x.size)) ++ [0, 1] by
              rw [HX.out, show x.data.toList.take x.size = x.data.toList from List.take_of_length_le (by rw [HXL.out]; exact Nat.le_refl _), List.append_assoc])
            go_wp2_with (at_builtin; refine wp_appB w.heap.size (HO.out.alloc _) (Rd.lit wr [0, 1] 2 rfl (by omega)) (by simp; omega) (by omega) _ _ rfl rfl rfl rfl ?_; intro v1 w1 hO1 hG1 hA1; have HO1 := Lib.hid hO1; have HB1 := Lib.hid ((HB.out.alloc hz (.cells #[.int .u8 0, .int .u8 1] 5)).grown hG1 (by simp; omega) (fun p hp => (HO.out.blk p hp).1)); clear hO1 hG1 hA1)
            go_roundw
            case rel => exact ⟨k + 1, q + 2, by omega, by go_num, by omega, by rw [HT.out]; exact HO1.out, HB1.out⟩
            case measure => simp [intOf]; omega
      · obtain rfl : n = k := by omega
        have hT : ps.take n = ps := List.take_of_length_le (by rw [HL.out]; exact Nat.le_refl _)
        have hO := HO.out
        rw [hT] at hO
        obtain ⟨A4, c4, rfl, hR4⟩ := hO.rd (by omega)
        have hml : (mkL ps).length = m := hR4.len
        have hstr := hR4.str
        have HNB2 := HNB.out
        by_cases hbig : (120 : Int) < (m : Int)
        · have HA := Lib.hid (show mkA ps = (⟨#[]⟩, 23) by unfold mkA; rw [if_neg (by rw [HL.out]; omega), if_pos (by omega)])
          clear hT hO hR4 hml hstr
          go_wp2
          go_ret2
          exact ⟨by rw [HA.out]; rfl, HB.out⟩
        · have HA := Lib.hid (mkA_of (ps := ps) (by rw [HL.out]; omega) (by rw [HL.out]; omega) (by omega))
          obtain ⟨sm, hsm⟩ : ∃ sm, sm = bstr (mkL ps) := ⟨_, rfl⟩
          rw [← hsm] at hstr HA
          clear hT hO hR4 hml hsm
          go_wp2
          go_ret2
          exact ⟨by rw [HA.out]; rfl, HB.out⟩
theorem spl_sizes : ∀ (n : Nat) (l C : List UInt8) (P : List ByteArray), l.length ≤ n → ∀ x ∈ spl l C P, x ∈ P ∨ x.size ≤ C.length + l.length
  | _, [], C, P, _, x, hx => by
    have : spl [] C P = P := by simp [spl]
    rw [this] at hx; exact .inl hx
  | 0, c :: r, _, _, hn, _, _ => by simp at hn
  | n + 1, c :: r, C, P, hn, x, hx => by
    simp only [List.length_cons] at hn ⊢
    by_cases hc : c = 0
    · subst hc
      match r, hx, hn with
      | [], hx, _ => rw [spl_end] at hx; exact .inl hx
      | d :: r', hx, hn =>
        simp only [List.length_cons] at hn ⊢
        by_cases h2 : d = 1
        · subst h2
          rw [spl_1] at hx
          rcases spl_sizes n r' [] (P ++ [bstr C]) (by omega) x hx with h | h
          · rcases List.mem_append.1 h with h | h
            · exact .inl h
            · simp at h; subst h; right; rw [bstr_size]; omega
          · right; simp at h; omega
        · rw [spl_other h2] at hx
          rcases spl_sizes n r' (C ++ [0]) P (by omega) x hx with h | h
          · exact .inl h
          · right; simp at h; omega
    · rw [spl_ne hc] at hx
      rcases spl_sizes n r (C ++ [c]) P (by omega) x hx with h | h
      · exact .inl h
      · right; simp at h; omega
set_option maxHeartbeats 2000000 in
theorem kr_Split (key : ByteArray) (w : World) (hk : key.size ≤ 1048576) :
    Calls Tryd.prog 15 #[.string key] w (SpPost (rfA key.data.toList) w) := by
  have HL := Lib.hid (str_len key)
  have hg := fun k hk => bget key k hk
  have HG := Lib.hid hg
  obtain ⟨l, hl⟩ : ∃ l, l = key.data.toList := ⟨_, rfl⟩
  rw [← hl] at HL HG ⊢
  have HLE := Lib.hid hl
  have HSZ := Lib.hid (show ∀ P, spl l [] [] = P → ∀ x ∈ P, x.size ≤ 1048576 from fun P hP x hx => by
    have h9 := spl_sizes l.length l [] [] (Nat.le_refl _) x (by rw [hP]; exact hx)
    rcases h9 with h9 | h9
    · cases h9
    · rw [HL.out] at h9; simp at h9; omega)
  clear hg hl
  go_enter Tryd.func15, Tryd.ntmps15
  go_wp2_with fail
  go_loopw [4, 5, 6] (fun vp vc x wx => ∃ (i np nc : Nat) (P : List ByteArray) (C : List UInt8), i ≤ key.size + 1 ∧ x = .int .i64 i ∧ spl l [] [] = spl (l.drop i) C P ∧ SI w l i np nc P C vp vc wx) (fun _ _ x _ => key.size + 1 - (intOf x).toNat)
  case atStart => exact ⟨0, 0, 0, [], [], by omega, rfl, by simp, OwnT.nil _ _, Own.nil _ _, fun k h => by simp [Value.ownBlock] at h, Below.refl _ _, by omega⟩
  case round =>
    obtain ⟨i, np, nc, P, C, hi, rfl, hE, hI⟩ := hrel
    have HI := Lib.hid hI
    have HE := Lib.hid hE
    have hsum := hI.sum
    clear hI hE
    by_cases hin : i < key.size
    · obtain ⟨x, hx⟩ : ∃ x, x = key[i] := ⟨_, rfl⟩
      have hxl : x = l.getD i 0 := by rw [hx]; exact HG.out i hin
      have hd := drop_consB l i (by rw [HL.out]; exact hin)
      rw [← hxl] at hd
      have HE1 := HE.out
      rw [hd] at HE1
      have HX := Lib.hid hx
      by_cases h0 : x = 0
      · have hx0 : key[i] = 0 := by rw [← hx]; exact h0
        have hx1 : ((key[i].toNat : Int) != 0) = false := by rw [hx0]; rfl
        rw [h0] at HE1
        clear hx hd hxl h0 HX
        by_cases hi2 : i + 1 < key.size
        · obtain ⟨y, hy⟩ : ∃ y, y = key[i + 1] := ⟨_, rfl⟩
          have hyl : y = l.getD (i + 1) 0 := by rw [hy]; exact HG.out (i + 1) hi2
          have hd2 := drop_consB l (i + 1) (by rw [HL.out]; exact hi2)
          rw [← hyl] at hd2
          rw [hd2] at HE1
          have hwi : (i : Int) + 1 < (key.size : Int) := by omega
          have hwt : ((i : Int) + 1).toNat = i + 1 := by omega
          by_cases h1 : y = 1
          · have hy2 : ((key[i + 1].toNat : Int) == 1) = true := by rw [← hy, h1]; rfl
            rw [h1, spl_1] at HE1
            have HE2 := Lib.hid HE1
            clear HE1 hy hyl hd2 h1
            obtain ⟨A5, c5, he5, hR5⟩ := HI.out.oc.rd (by omega)
            subst he5
            have hstr := hR5.str
            have HSTR := Lib.hid hstr
            go_wp2_with (at_builtin; refine wp_appT1 w.heap.size (bstr C) HI.out.op HI.out.below.size (by omega) _ _ rfl rfl rfl rfl ?_; intro v1 w1 hO1 hG1 hA1; have HI1 := Lib.hid (HI.out.push (j := i + 2) _ hO1 hG1 (by omega)); clear hO1 hG1 hA1)
            go_roundw
            case rel => exact ⟨i + 2, np + 1, 0, P ++ [bstr C], [], by omega, by go_num, HE2.out, HI1.out⟩
            case measure => simp [intOf]; omega
          · have hy2 : ((key[i + 1].toNat : Int) == 1) = false := by
              rw [← hy]
              simp only [beq_eq_false_iff_ne, ne_eq]
              intro h; exact h1 (UInt8.toNat_inj.1 (by have : (1 : UInt8).toNat = 1 := rfl; omega))
            rw [spl_other h1] at HE1
            have HE2 := Lib.hid HE1
            clear HE1 hy hyl hd2 h1
            go_wp2_with (at_builtin; refine wp_appB w.heap.size (HI.out.oc.alloc _) (Rd.lit wr [0] 1 rfl (by omega)) (by have := HI.out.below.size; simp; omega) (by omega) _ _ rfl rfl rfl rfl ?_; intro v1 w1 hO1 hG1 hA1; have HI1 := Lib.hid (HI.out.app (j := i + 2) _ hO1 hG1 hA1 (by omega)); clear hO1 hG1 hA1)
            go_roundw
            case rel => exact ⟨i + 2, np, nc + 1, P, C ++ [0], by omega, by go_num, HE2.out, HI1.out⟩
            case measure => simp [intOf]; omega
        · have hik : i + 1 = key.size := by omega
          have hwi : ¬ (i : Int) + 1 < (key.size : Int) := by omega
          have hdn : l.drop (i + 1) = [] := List.drop_eq_nil_of_le (by rw [HL.out]; omega)
          rw [hdn] at HE1
          rw [spl_end] at HE1
          have HE2 := Lib.hid (show spl l [] [] = spl (l.drop (i + 2)) (C ++ [0]) P by
            rw [HE1, List.drop_eq_nil_of_le (by rw [HL.out]; omega), spl])
          clear HE1 hdn
          go_wp2_with (at_builtin; refine wp_appB w.heap.size (HI.out.oc.alloc _) (Rd.lit wr [0] 1 rfl (by omega)) (by have := HI.out.below.size; simp; omega) (by omega) _ _ rfl rfl rfl rfl ?_; intro v1 w1 hO1 hG1 hA1; have HI1 := Lib.hid (HI.out.app (j := i + 2) _ hO1 hG1 hA1 (by omega)); clear hO1 hG1 hA1)
          go_roundw
          case rel => exact ⟨i + 2, np, nc + 1, P, C ++ [0], by omega, by go_num, HE2.out, HI1.out⟩
          case measure => simp [intOf]; omega
      · have hx1 : ((key[i].toNat : Int) != 0) = true := by
          rw [← hx]
          simp only [bne_iff_ne, ne_eq]
          intro h; exact h0 (UInt8.toNat_inj.1 (by simp; omega))
        rw [spl_ne h0] at HE1
        have HE2 := Lib.hid HE1
        clear HE1 hd hxl h0
        subst hx
        go_wp2_with (at_builtin; refine wp_appB w.heap.size (HI.out.oc.alloc _) (Rd.lit wr [key[i]] 1 rfl (by omega)) (by have := HI.out.below.size; simp; omega) (by omega) _ _ rfl rfl rfl rfl ?_; intro v1 w1 hO1 hG1 hA1; have HI1 := Lib.hid (HI.out.app (j := i + 1) _ hO1 hG1 hA1 (by omega)); clear hO1 hG1 hA1)
        go_roundw
        case rel => exact ⟨i + 1, np, nc + 1, P, C ++ [key[i]], by omega, by go_num, HE2.out, HI1.out⟩
        case measure => simp [intOf]; omega
    · have hdn : l.drop i = [] := List.drop_eq_nil_of_le (by rw [HL.out]; omega)
      have HE1 := HE.out
      rw [hdn, spl] at HE1
      have hpl : P.length = np := HI.out.op.len
      obtain ⟨A4, c4, rfl, hR4⟩ := HI.out.op.rd (by omega)
      have HR4 := Lib.hid hR4
      have hps : ∀ x ∈ P, x.size ≤ 1048576 := HSZ.out P HE1
      have HPS := Lib.hid hps
      have hfin : ¬ (i : Int) < (key.size : Int) := by omega
      have HSP := Lib.hid HE1
      have HPL := Lib.hid hpl
      clear HE1 hdn hpl hR4 hps
      go_wp2_with fail
      refine (kr_Make A4 np c4 P wr HR4.out HPS.out).mono ?_
      rintro e w2 ⟨rfl, hB2⟩
      have HB2 := Lib.hid (HI.out.below.trans (hB2.mono HI.out.below.size))
      have HO2 := Lib.hid (HI.out.op.ext hB2)
      have hrf : rfA l = if (mkA P).2 ≠ 0 ∨ (mkA P).1 ≠ bstr l then ([], 2) else (P, 0) := by unfold rfA; rw [HSP.out]
      have hkb : bstr l = key := by rw [HLE.out]; exact bstr_eq key
      rw [hkb] at hrf
      have HRF := Lib.hid hrf
      obtain ⟨me, hme⟩ : ∃ me, me = (mkA P).2 := ⟨_, rfl⟩
      obtain ⟨ms, hms⟩ : ∃ ms, ms = (mkA P).1 := ⟨_, rfl⟩
      rw [← hme, ← hms] at HRF ⊢
      clear hB2 hrf hkb hme hms
      by_cases h1 : me = 0
      · have e1 : (me != 0) = false := by simp [h1]
        by_cases h2 : ms = key
        · have HR2 := Lib.hid (show rfA l = (P, 0) by rw [HRF.out, if_neg (by simp [h1, h2])])
          subst h2
          clear h1
          go_wp2
          go_ret2
          unfold SpPost
          rw [HR2.out]
          refine ⟨_, rfl, ?_, HB2.out⟩
          dsimp only
          rw [HPL.out]; exact HO2.out
        · have HR2 := Lib.hid (show rfA l = ([], 2) by rw [HRF.out, if_pos (.inr h2)])
          have e2 : ¬ ms.toList = key.toList := fun h => h2 (strs_inj h)
          have e3 : (ms.toList == key.toList) = false := beq_eq_false_iff_ne.2 e2
          clear h1 h2
          go_wp2
          go_ret2
          unfold SpPost
          rw [HR2.out]
          exact ⟨_, rfl, OwnT.nil _ _, HB2.out⟩
      · have e1 : (me != 0) = true := by simpa using h1
        have HR2 := Lib.hid (show rfA l = ([], 2) by rw [HRF.out, if_pos (.inl h1)])
        clear h1
        go_wp2
        go_ret2
        unfold SpPost
        rw [HR2.out]
        exact ⟨_, rfl, OwnT.nil _ _, HB2.out⟩
end Go.Proofs.YtdgcfhlfihpbiaaDoor
