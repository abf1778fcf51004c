/- The walk of KeyBetween. -/
import Derived.Test.YtdgcfhlfihpbiaaDoorKyBt
import Derived.Test.YtdgcfhlfihpbiaaDoorKy6
set_option linter.unusedVariables false
set_option linter.unusedSimpArgs false
set_option maxRecDepth 100000
namespace Go.Proofs.YtdgcfhlfihpbiaaDoor
open Go.RowKit
theorem bt_form {l m : List UInt8} (h : Op.bytesLess l m = true) : ∃ p z l2 b m', l = p ++ l2 ∧ m = p ++ b :: m' ∧ btL l m = p ++ [z] ∧ z.toNat ≤ b.toNat ∧ ((l2 = [] ∧ z = 0) ∨ ∃ a l', l2 = a :: l' ∧ z.toNat = a.toNat + 1) := by
  obtain ⟨p, b, m', h1, h2, h3⟩ := cp_cases l m h
  rcases h3 with h3 | ⟨a, l', h3, h4⟩
  · refine ⟨p, 0, [], b, m', by rw [h3]; simp, h1, ?_, Nat.zero_le _, .inl ⟨rfl, rfl⟩⟩
    unfold btL
    rw [if_pos (by rw [← h2, h3]), h3]
  · have hb := b.toNat_lt
    have hz : (a + 1).toNat = a.toNat + 1 := by
      rw [UInt8.toNat_add]
      have : (1 : UInt8).toNat = 1 := rfl
      omega
    refine ⟨p, a + 1, a :: l', b, m', h3, h1, ?_, by omega, .inr ⟨a, l', rfl, hz⟩⟩
    unfold btL
    rw [if_neg (by rw [← h2, h3]; simp), ← h2, h3]
    congr 1
    · simp
    · simp [List.getD_eq_getElem?_getD]
theorem bt_above {l m : List UInt8} (h : Op.bytesLess l m = true) : Op.bytesLess (btL l m) l = false ∧ btL l m ≠ l := by
  obtain ⟨p, z, l2, b, m', h1, h2, h3, h4, h5⟩ := bt_form h
  rw [h3, h1, bl_pre]
  rcases h5 with ⟨rfl, rfl⟩ | ⟨a, l', rfl, hz⟩
  · exact ⟨rfl, by simp⟩
  · have hne : z ≠ a := fun e => by rw [e] at hz; omega
    refine ⟨?_, by simp [hne]⟩
    rw [bl_ne hne]
    exact decide_eq_false (fun e => by have := UInt8.lt_iff_toNat_lt.1 e; omega)
theorem bt_most {l m : List UInt8} (h : Op.bytesLess l m = true) : Op.bytesLess (btL l m) m = true ∨ (Op.bytesLess (btL l m) m = false ∧ btL l m = m) := by
  obtain ⟨p, z, l2, b, m', h1, h2, h3, h4, h5⟩ := bt_form h
  rcases bl_tri (btL l m) m with h6 | h6 | h6
  · exact .inr ⟨by rw [h6]; exact bl_irr _, h6⟩
  · exact .inl h6.1
  · exfalso
    have h7 := h6.2
    rw [h3, h2, bl_pre] at h7
    by_cases e : b = z
    · rw [e, bl_eq, bl_nil] at h7; cases h7
    · rw [bl_ne e] at h7
      have := UInt8.lt_iff_toNat_lt.1 (of_decide_eq_true h7)
      omega
theorem bl_front (x y : List UInt8) : Op.bytesLess (x ++ y) x = false := by
  have h := bl_pre x y []
  rw [List.append_nil] at h
  rw [h, bl_nil]
theorem bt_cut {l m : List UInt8} (h : Op.bytesLess l m = true) (k : Nat) (hk : k < (btL l m).length) : Op.bytesLess l ((btL l m).take k) = false := by
  obtain ⟨p, z, l2, b, m', h1, h2, h3, h4, h5⟩ := bt_form h
  rw [h3] at hk ⊢
  have hk2 : k ≤ p.length := by simp at hk; omega
  rw [List.take_append_of_le_length hk2, h1]
  have h9 := bl_front (p.take k) (p.drop k ++ l2)
  rw [← List.append_assoc, List.take_append_drop] at h9
  exact h9
theorem bt_least {l m : List UInt8} (h : Op.bytesLess l m = true) (k q : Nat) (c : UInt8) (t : List UInt8) (hk : k < (btL l m).length) (hq : 1 ≤ q) (hq2 : q ≤ ((btL l m).getD k 0).toNat) (hc : c.toNat = ((btL l m).getD k 0).toNat - q) (ht : k + 1 + t.length ≤ (btL l m).length) :
    Op.bytesLess l ((btL l m).take k ++ c :: t) = false := by
  obtain ⟨p, z, l2, b, m', h1, h2, h3, h4, h5⟩ := bt_form h
  rw [h3] at hk hq2 hc ht ⊢
  have hk2 : k ≤ p.length := by simp at hk; omega
  rw [List.take_append_of_le_length hk2, h1]
  by_cases hkp : k < p.length
  · have hd := dropG p k hkp
    have hg : (p ++ [z]).getD k 0 = p.getD k 0 := by
      rw [List.getD_eq_getElem?_getD, List.getElem?_append_left hkp, List.getD_eq_getElem?_getD]
    rw [hg] at hq2 hc
    have e9 : p ++ l2 = p.take k ++ (p.getD k 0 :: (p.drop (k + 1) ++ l2)) := by
      rw [← List.cons_append, ← hd, ← List.append_assoc, List.take_append_drop]
    rw [e9, bl_pre, bl_ne (fun e => by rw [e] at hq2 hc; omega)]
    exact decide_eq_false (fun e => by have := UInt8.lt_iff_toNat_lt.1 e; omega)
  · obtain rfl : k = p.length := by omega
    have hg : (p ++ [z]).getD p.length 0 = z := by simp [List.getD_eq_getElem?_getD]
    rw [hg] at hq2 hc
    rw [List.take_of_length_le (Nat.le_refl _), bl_pre]
    have ht0 : t = [] := List.eq_nil_of_length_eq_zero (by simp at ht; omega)
    subst ht0
    rcases h5 with ⟨rfl, rfl⟩ | ⟨a, l', rfl, hz⟩
    · have : (0 : UInt8).toNat = 0 := rfl
      omega
    · by_cases e : a = c
      · rw [e, bl_eq, bl_nil]
      · rw [bl_ne e]
        exact decide_eq_false (fun e => by have := UInt8.lt_iff_toNat_lt.1 e; omega)
theorem bstr_tl2 (l : List UInt8) : (bstr l).toList = l := by rw [ByteArray.toList_eq]; rfl
theorem bstr_app (l m : List UInt8) : bstr l ++ bstr m = bstr (l ++ m) := by
  apply data_inj
  rw [ByteArray.data_append]
  unfold bstr
  simp
theorem ext_bstr2 (l : List UInt8) (k : Nat) : (bstr l).extract 0 k = bstr (l.take k) := by
  apply data_inj
  rw [ByteArray.data_extract]
  unfold bstr
  simp
theorem app_nil (a : ByteArray) : a ++ bstr [] = a := by
  apply data_inj
  rw [ByteArray.data_append]
  unfold bstr
  simp
theorem bt_strD (v : Int) (c : UInt8) (h : v = (c.toNat : Int)) (W : World) : (convert 42 9 (.slice (some ⟨W.heap.size, 0, none⟩) 1 1)).run Tryd.prog (W.alloc (.cells #[.int .u8 v] 5)).drew = .ok (.string (bstr [c])) (W.alloc (.cells #[.int .u8 v] 5)).drew := by
  have h1 := ((Rd.lit W [c] 1 rfl (by omega)).drew 1).str
  rw [h]
  exact h1
set_option maxHeartbeats 2000000 in
theorem walk_KeyBetween (a b : ByteArray) (at_ d : Int) (tail : ByteArray) (w : World) (hm : MaxL w) (ha : a.size ≤ 140737488351232) (hb : b.size ≤ 140737488351232) (hat : -9223372036854775808 ≤ at_ ∧ at_ < 9223372036854775808) (hd : -9223372036854775808 ≤ d ∧ d < 9223372036854775808) (ht : tail.size ≤ 140737488351232) :
    Calls Tryd.prog 10 #[.string a, .string b, .int .i64 at_, .int .i64 d, .string tail] w fun e w' => e = .returned (.bool true) ∧ Below w.heap.size w w' := by
  have HM := Lib.hid hm
  have HBT := Lib.hid (fun w => ky_Between a b w ha hb)
  unfold BtPost at HBT
  clear hm
  cases h : ltS a b with
  | false =>
    rw [show btA a b = (⟨#[]⟩, 1) by unfold btA; rw [h]; rfl] at HBT
    have h1 : Op.bytesLess a.toList b.toList = false := h
    clear h
    go_enter Tryd.func10, Tryd.ntmps10
    go_wp2_with fail
    refine (l5_fixed w HM.out).mono ?_
    rintro e w1 ⟨rfl, hB1⟩
    have HB1 := Lib.hid hB1
    clear hB1
    go_wp2_with fail
    refine (HBT.out w1).mono ?_
    rintro e w2 ⟨rfl, hB2⟩
    have HB2 := Lib.hid (HB1.out.trans (hB2.mono HB1.out.size))
    clear hB2
    go_wp2
    go_ret
    exact ⟨by simp, HB2.out⟩
  | true =>
    rw [show btA a b = (bstr (btL a.data.toList b.data.toList), 0) by unfold btA; rw [h]; rfl] at HBT
    have h1 : Op.bytesLess a.toList b.toList = true := h
    have hlt : Op.bytesLess a.data.toList b.data.toList = true := by rw [ltS_data]; exact h
    have hab := bt_above hlt
    have hmo := bt_most hlt
    have HCUT := Lib.hid (fun k hk => bt_cut hlt k hk)
    have HLE := Lib.hid (fun k q c t h1 h2 h3 h4 h5 => bt_least hlt k q c t h1 h2 h3 h4 h5)
    have hsz : (btL a.data.toList b.data.toList).length ≤ 140737488351233 := by
      obtain ⟨p, z, l2, b', m', e1, e2, e3, e4, e5⟩ := bt_form hlt
      have := congrArg List.length e1
      rw [str_len, List.length_append] at this
      rw [e3, List.length_append, List.length_singleton]; omega
    obtain ⟨l, hl⟩ : ∃ l, l = btL a.data.toList b.data.toList := ⟨_, rfl⟩
    rw [← hl] at HBT hab hmo HCUT HLE hsz
    obtain ⟨S, hS⟩ : ∃ S, S = bstr l := ⟨_, rfl⟩
    rw [← hS] at HBT
    have hSt : S.toList = l := by rw [hS, bstr_tl2]
    have hat2 : a.data.toList = a.toList := (ByteArray.toList_eq a).symm
    have hbt2 : b.data.toList = b.toList := (ByteArray.toList_eq b).symm
    have e1 : Op.bytesLess S.toList a.toList = false := by rw [hSt, ← hat2]; exact hab.1
    have e2 : (S.toList == a.toList) = false := by rw [hSt, ← hat2]; exact beq_eq_false_iff_ne.2 hab.2
    have e3 : Op.bytesLess S.toList b.toList = true ∨ (Op.bytesLess S.toList b.toList = false ∧ (S.toList == b.toList) = true) := by
      rw [hSt, ← hbt2]
      rcases hmo with h9 | h9
      · exact .inl h9
      · exact .inr ⟨h9.1, beq_iff_eq.2 h9.2⟩
    have hSs : S.size = l.length := by rw [hS, bstr_size]
    have hSl : S.size ≤ 140737488351233 := by omega
    have HC2 := Lib.hid (fun (k : Nat) (hk : k < S.size) => show Op.bytesLess a.toList (S.extract 0 k).toList = false by
      rw [hS, ext_bstr2, bstr_tl2, ← hat2]
      exact HCUT.out k (by omega))
    have HS := Lib.hid hS
    have HSS := Lib.hid hSs
    have HA2 := Lib.hid hat2
    clear h hlt hab hmo hl hS hSt hat2 hbt2 hSs hsz
    rcases e3 with e3 | ⟨e3, e4⟩
    all_goals (
      go_enter Tryd.func10, Tryd.ntmps10
      go_wp2_with fail
      refine (l5_fixed w HM.out).mono ?_
      rintro e w1 ⟨rfl, hB1⟩
      have HB1 := Lib.hid hB1
      clear hB1
      go_wp2_with fail
      refine (HBT.out w1).mono ?_
      rintro e w2 ⟨rfl, hB2⟩
      have HB2 := Lib.hid (HB1.out.trans (hB2.mono HB1.out.size))
      clear hB2
      rcases (by omega : at_ < 0 ∨ (¬ at_ < 0 ∧ (S.size : Int) ≤ at_) ∨ (0 ≤ at_ ∧ at_ < (S.size : Int))) with g1 | ⟨g1, g2⟩ | ⟨g1, g2⟩
      · go_wp2
        go_ret
        exact ⟨by simp, HB2.out⟩
      · go_wp2
        go_ret
        exact ⟨by simp, HB2.out⟩
      · obtain ⟨k, rfl⟩ : ∃ k : Nat, at_ = k := ⟨at_.toNat, by omega⟩
        have hk : k < S.size := by omega
        have hcut := HC2.out k hk
        have hg : S[k] = l.getD k 0 := by
          have h9 := bget S k hk
          rw [h9, HS.out]; rfl
        have hlt := (S[k]).toNat_lt
        rcases (by omega : d < 1 ∨ (¬ d < 1 ∧ ((S[k].toNat : Nat) : Int) < d) ∨ (1 ≤ d ∧ d ≤ ((S[k].toNat : Nat) : Int))) with g3 | ⟨g3, g4⟩ | ⟨g3, g4⟩
        · clear hg hlt
          go_wp2
          go_ret
          exact ⟨by simp, HB2.out⟩
        · clear hg hlt
          go_wp2
          go_ret
          exact ⟨by simp, HB2.out⟩
        · obtain ⟨q, rfl⟩ : ∃ q : Nat, d = q := ⟨d.toNat, by omega⟩
          have hq : 1 ≤ q ∧ q ≤ 255 := by omega
          obtain ⟨c, hc⟩ : ∃ c : UInt8, c = UInt8.ofNat (S[k].toNat - q) := ⟨_, rfl⟩
          have hcn : c.toNat = S[k].toNat - q := by rw [hc, UInt8.toNat_ofNat']; omega
          have hstr := bt_strD ((S[k].toNat : Int) - (q : Int)) c (by rw [hcn]; omega) w2
          obtain ⟨st, hst⟩ : ∃ st, st = bstr [c] := ⟨_, rfl⟩
          have hs1 : st.size = 1 := by rw [hst]; rfl
          rw [← hst] at hstr
          have hex : (S.extract 0 k).size = k := by rw [ByteArray.size_extract]; omega
          have HL := Lib.hid (fun (t : List UInt8) (ht : k + 1 + t.length ≤ S.size) => show Op.bytesLess a.toList (S.extract 0 k ++ st ++ bstr t).toList = false by
            rw [HS.out, ext_bstr2, hst, bstr_app, bstr_app, bstr_tl2, ← HA2.out, List.append_assoc]
            refine HLE.out k q c t (by have := HSS.out; omega) hq.1 (by rw [← hg]; omega) (by rw [hcn, hg]) (by have := HSS.out; omega))
          clear hc hcn hst hg
          go_wp2_with fail
          go_region
          obtain ⟨w3, hw3⟩ : ∃ w3, w3 = (w2.alloc (.cells #[.int .u8 ((S[k].toNat : Int) - (q : Int))] 5)).drew := ⟨_, rfl⟩
          have HB3 := Lib.hid (show Below w.heap.size w w3 by rw [hw3]; exact below_drewN (HB2.out.alloc HB2.out.size _) 1)
          rw [← hw3]
          obtain ⟨L0, hL0⟩ : ∃ L0, L0 = S.extract 0 k ++ st := ⟨_, rfl⟩
          have hLs : L0.size = k + 1 := by rw [hL0, ByteArray.size_append, hex, hs1]
          rw [← hL0]
          simp only [← hL0] at HL
          have HLS := Lib.hid hLs
          clear hw3 hstr hex hs1 hL0 hLs hcut hlt g3 g4 hq
          go_wp2_with fail
          go_loopw [16, 17, 18] (fun vl vi _ wx => ∃ (t : List UInt8) (L : ByteArray), vl = .string L ∧ vi = .int .i64 (t.length : Nat) ∧ k + 1 + t.length ≤ S.size ∧ L = L0 ++ bstr t ∧ Below w.heap.size w wx) (fun _ vi _ _ => S.size - (intOf vi).toNat)
          case atStart => exact ⟨[], L0, rfl, rfl, by simp; omega, (app_nil L0).symm, HB3.out⟩
          case round =>
            obtain ⟨t, L, rfl, rfl, hkt, hL, hB⟩ := hrel
            have HB := Lib.hid hB
            have hLz : L.size = k + 1 + t.length := by rw [hL, ByteArray.size_append, bstr_size, HLS.out]
            have HLL := Lib.hid hL
            have HT := Lib.hid (HL.out t hkt)
            have hz := hB.size
            obtain ⟨j, hj⟩ : ∃ j, j = t.length := ⟨_, rfl⟩
            rw [← hj] at hLz hkt ⊢
            have HJ := Lib.hid hj
            clear hL hB hj
            by_cases hjn : k + 1 + j < S.size
            · by_cases hjt : j < tail.size
              · obtain ⟨c1, hc1⟩ : ∃ c1, c1 = tail[j] := ⟨_, rfl⟩
                have hstr := bt_str ((tail[j].toNat : Nat) : Int) c1 (by rw [hc1]) wr
                obtain ⟨s1, hs1⟩ : ∃ s1, s1 = bstr [c1] := ⟨_, rfl⟩
                have hz1 : s1.size = 1 := by rw [hs1]; rfl
                rw [← hs1] at hstr
                have HS1 := Lib.hid hs1
                clear hs1
                go_wp2
                go_roundw
                case rel => exact ⟨t ++ [c1], L ++ s1, rfl, by rw [List.length_append, List.length_singleton, ← HJ.out]; go_num, by rw [List.length_append, List.length_singleton, ← HJ.out]; omega, by rw [HLL.out, HS1.out, ByteArray.append_assoc, bstr_app], HB.out.alloc hz _⟩
                case measure => simp [intOf]; omega
              · have hstr := bt_str 255 255 rfl wr
                obtain ⟨s1, hs1⟩ : ∃ s1, s1 = bstr [(255 : UInt8)] := ⟨_, rfl⟩
                have hz1 : s1.size = 1 := by rw [hs1]; rfl
                rw [← hs1] at hstr
                have HS1 := Lib.hid hs1
                clear hs1
                go_wp2
                go_roundw
                case rel => exact ⟨t ++ [255], L ++ s1, rfl, by rw [List.length_append, List.length_singleton, ← HJ.out]; go_num, by rw [List.length_append, List.length_singleton, ← HJ.out]; omega, by rw [HLL.out, HS1.out, ByteArray.append_assoc, bstr_app], HB.out.alloc hz _⟩
                case measure => simp [intOf]; omega
            · have hfin := HT.out
              rw [← HLL.out] at hfin
              have e9 : ¬ (L.size : Int) < (S.size : Int) := by omega
              clear HT
              go_wp2
              go_ret
              exact ⟨by simp, HB.out⟩)
end Go.Proofs.YtdgcfhlfihpbiaaDoor
