/- The walk of the law PageBack. -/
import Derived.Test.YtlandlgjhnnaiaaPgB
set_option linter.unusedVariables false
set_option linter.unusedSimpArgs false
set_option maxRecDepth 100000
namespace Go.Proofs.Ytlandlgjhnnaiaa
open Go.RowKit SumMath
set_option maxHeartbeats 1000000 in
theorem walk_PageBack (n : Nd) (vE vC vK vD : Value) (at_ : Int) (mask : BitVec 32) (A : Option Addr) (m c : Nat) (L : List UInt8) (w : World) (hN : NdR w n vE vC vK vD) (hnb : NdB n) (hat : -9223372036854775808 ≤ at_ ∧ at_ < 9223372036854775808) (hr : Rd w A m c L) (hm : m ≤ 140737488351232) :
    Calls Try.prog 5 #[.agg (ndC n vE vC vK vD), .int .i64 at_, .int .u32 mask.toNat, .slice A m c] w fun e w' => e = .returned (.bool true) ∧ Below w.heap.size w w' := by
  have HLN := Lib.hid hr.len
  obtain ⟨p, hp⟩ : ∃ p, p = w.heap.size := ⟨_, rfl⟩
  obtain ⟨W0, hW0⟩ : ∃ V, V = w.alloc (.cells (ndC n vE vC vK vD) 26) := ⟨_, rfl⟩
  have HB0 := Lib.hid (show Below w.heap.size w W0 by rw [hW0]; exact (Below.refl _ _).alloc (Nat.le_refl _) _)
  have HR0 := Lib.hid (hr.ext HB0.out)
  have HN0 := Lib.hid (hN.ext HB0.out)
  have HP := Lib.hid (show W0.heap[p]? = some (.cells (ndC n vE vC vK vD) 26 (0, 0)) by rw [hW0, hp]; exact heap_alloc_new w _)
  have HCL := Lib.hid (fun (V : World) (hb : Below W0.heap.size W0 V) => cell7 (n := n) ((hb.block p (lt_of_block HP.out)).trans HP.out))
  have HCP := Lib.hid (fun (V : World) (hb : Below W0.heap.size W0 V) => l9_copied n vE vC vK vD V (HN0.out.ext hb) hnb)
  have HNB := Lib.hid hnb
  have HAT := Lib.hid hat
  clear hr hN hnb hat
  unfold ndC at hW0
  unfold ndC at HCP
  unfold ndC
  go_enter Try.func5, Try.ntmps5
  go_wp2_with fail
  rw [← hW0, ← hp]
  clear hW0 hp
  refine (l9_fixed W0).mono ?_
  rintro e W1 ⟨rfl, hb⟩
  have HB1 := Lib.hid hb
  have c7 := HCL.out W1 HB1.out
  clear hb
  go_wp2_with fail
  clear c7
  refine (HCP.out W1 HB1.out).mono ?_
  rintro e W2 ⟨uE, uC, uK, uD, rfl, hO, hb⟩
  have HB2 := Lib.hid (HB1.out.trans (hb.mono HB1.out.size))
  have HN2 := Lib.hid (hO.rdB HNB.out)
  clear hO hb
  by_cases hf : fitsN n = true
  · have HF := Lib.hid hf
    clear hf
    go_wp2_with fail
    refine (pg_Encode n uE uC uK uD W2 HN2.out HF.out).mono ?_
    rintro e W3 ⟨g, rfl, hg, hB, hb⟩
    have HB3 := Lib.hid (HB2.out.trans (hb.mono HB2.out.size))
    have HE3 := Lib.hid hB
    clear hg hB hb
    have c7 := HCL.out W3 HB3.out
    go_wp2_with fail
    clear c7
    refine (HCP.out W3 HB3.out).mono ?_
    rintro e W4 ⟨xE, xC, xK, xD, rfl, hO, hb⟩
    have HB4 := Lib.hid (HB3.out.trans (hb.mono HB3.out.size))
    have HE4 := Lib.hid (HE3.out.ext hb)
    have HFT := Lib.hid (pg_Fits n xE xC xK xD W4 (hO.rdB HNB.out))
    rw [HF.out] at HFT
    clear hO hb
    go_wp2_with fail
    refine HFT.out.mono ?_
    rintro e W5 ⟨rfl, hb⟩
    have HB5 := Lib.hid (HB4.out.trans (hb.mono HB4.out.size))
    have HE5 := Lib.hid (HE4.out.ext hb)
    clear hb HFT
    go_wp2_with fail
    refine (l9_own W5 (some ⟨g, 0, none⟩) 512 512 (encN n) HE5.out.rd (by decide)).mono ?_
    rintro e W6 ⟨v6, rfl, hO, hb⟩
    obtain ⟨A6, c6, rfl, hr6⟩ := hO.rd (by decide)
    have HB6 := Lib.hid (HB5.out.trans (hb.mono HB5.out.size))
    have HE6 := Lib.hid (HE5.out.ext hb)
    have HD7 := Lib.hid (pg_DecodeA A6 512 c6 (encN n) W6 hr6)
    rw [decA_enc n HF.out] at HD7
    (try dsimp only at HD7)
    clear hO hb hr6
    go_wp2_with fail
    refine HD7.out.mono ?_
    rintro e W7 ⟨AE, cE, AC, cC, AK, cK, AD, cD, rfl, hO, hb⟩
    have HB7 := Lib.hid (HB6.out.trans (hb.mono HB6.out.size))
    have HE7 := Lib.hid (HE6.out.ext hb)
    have HN7 := Lib.hid (hO.rdB HNB.out)
    clear hO hb HD7
    obtain ⟨q, hq⟩ : ∃ q, q = W7.heap.size := ⟨_, rfl⟩
    obtain ⟨W8, hW8⟩ : ∃ V, V = W7.alloc (.cells (ndC n (.slice AE n.ents.length cE) (.slice AC n.chs.length cC) (.slice AK n.keys.length cK) (.slice AD n.kids.length cD)) 26) := ⟨_, rfl⟩
    have HQ := Lib.hid (show W8.heap[q]? = some (.cells (ndC n (.slice AE n.ents.length cE) (.slice AC n.chs.length cC) (.slice AK n.keys.length cK) (.slice AD n.kids.length cD)) 26 (0, 0)) by rw [hW8, hq]; exact heap_alloc_new W7 _)
    have HB8 := Lib.hid (show Below W0.heap.size W0 W8 by rw [hW8]; exact HB7.out.alloc HB7.out.size _)
    have hb78 : Below W7.heap.size W7 W8 := by rw [hW8]; exact (Below.refl _ _).alloc (Nat.le_refl _) _
    have HN8 := Lib.hid (HN7.out.ext hb78)
    have HE8 := Lib.hid (HE7.out.ext hb78)
    unfold ndC at hW8
    unfold ndC
    (try dsimp only)
    clear hb78
    go_upto_region 9 with fail
    (try rw [← hq])
    rw [← hW8]
    clear hW8 hq
    have c0 : W8.cell? ⟨g, 0, none⟩ = some (.int .u8 181) := by
      have h9 := HE8.out.cell 0 (by decide)
      rw [enc_get0] at h9
      exact h9
    have c7 := cell7 (n := n) HQ.out
    have d7 := HCL.out W8 HB8.out
    have HSN := Lib.hid (l9_sameNode n n _ _ _ _ vE vC vK vD W8 HN8.out (HN0.out.ext HB8.out))
    rw [decide_eq_true rfl] at HSN
    unfold ndC at HSN
    (try dsimp only at HSN)
    go_wp2_with fail
    clear c0 c7 d7
    refine HSN.out.mono ?_
    rintro e W9 ⟨rfl, hb⟩
    have HB9 := Lib.hid (HB8.out.trans (hb.mono HB8.out.size))
    have HE9 := Lib.hid (HE8.out.ext hb)
    clear hb HSN
    have HEL := Lib.hid (encN_len n HF.out)
    by_cases hin : at_ < 0 ∨ 8 * (512 : Int) ≤ at_
    · have HTU := Lib.hid (l9_turned_out (some ⟨g, 0, none⟩) 512 512 (encN n) at_ mask W9 HE9.out.rd (by decide) (by simpa using hin))
      clear hin
      go_wp2_with fail
      refine HTU.out.mono ?_
      rintro e W10 ⟨v10, rfl, hO, hb⟩
      obtain ⟨A10, c10, rfl, hr10⟩ := hO.rd (by decide)
      have HB10 := Lib.hid (HB9.out.trans (hb.mono HB9.out.size))
      have HD11 := Lib.hid (pg_DecodeA A10 512 c10 (encN n) W10 hr10)
      obtain ⟨de0, hde0⟩ : ∃ d, d = (decA (encN n)).2 := ⟨_, rfl⟩
      rw [← hde0] at HD11
      clear hO hb hr10 HTU hde0
      go_wp2_with fail
      refine HD11.out.mono ?_
      rintro e W11 ⟨BE, eE, BC, eC, BK, eK, BD, eD, rfl, -, hb⟩
      have HB11 := Lib.hid (HB10.out.trans (hb.mono HB10.out.size))
      clear hb HD11
      have HBW := Lib.hid (HB0.out.trans (HB11.out.mono HB0.out.size))
      go_wp2_with fail
      refine (l9_own W11 A m c L (HR0.out.ext HB11.out) (by omega)).mono ?_
      rintro e W31 ⟨v31, rfl, hO, hb⟩
      obtain ⟨A31, c31, rfl, hr31⟩ := hO.rd (by omega)
      have HB31 := Lib.hid (HB11.out.trans (hb.mono HB11.out.size))
      have HR31 := Lib.hid hr31
      clear hO hb hr31
      go_wp2_with fail
      refine (pg_DecodeA A31 m c31 L W31 HR31.out).mono ?_
      rintro e W32 ⟨AE, cE, AC, cC, AK, cK, AD, cD, rfl, hO, hb⟩
      have HB32 := Lib.hid (HB31.out.trans (hb.mono HB31.out.size))
      have HN32 := Lib.hid (hO.rdS (decA_len L))
      clear hO hb
      obtain ⟨dn, hdn⟩ : ∃ d, d = (decA L).1 := ⟨_, rfl⟩
      obtain ⟨de, hde⟩ : ∃ d, d = (decA L).2 := ⟨_, rfl⟩
      rw [← hdn] at HN32
      rw [← hdn, ← hde]
      have HDN := Lib.hid hdn
      have HDE := Lib.hid hde
      clear hdn hde
      unfold ndC
      (try dsimp only)
      obtain ⟨q, hq⟩ : ∃ q, q = W32.heap.size := ⟨_, rfl⟩
      obtain ⟨W33, hW33⟩ : ∃ V, V = W32.alloc (.cells (ndC dn (.slice AE dn.ents.length cE) (.slice AC dn.chs.length cC) (.slice AK dn.keys.length cK) (.slice AD dn.kids.length cD)) 26) := ⟨_, rfl⟩
      have HQ := Lib.hid (show W33.heap[q]? = some (.cells (ndC dn (.slice AE dn.ents.length cE) (.slice AC dn.chs.length cC) (.slice AK dn.keys.length cK) (.slice AD dn.kids.length cD)) 26 (0, 0)) by rw [hW33, hq]; exact heap_alloc_new W32 _)
      have HB33 := Lib.hid (show Below W0.heap.size W0 W33 by rw [hW33]; exact HB32.out.alloc HB32.out.size _)
      have HN33 := Lib.hid (HN32.out.ext (show Below W32.heap.size W32 W33 by rw [hW33]; exact (Below.refl _ _).alloc (Nat.le_refl _) _))
      unfold ndC at hW33
      go_upto_region 18 with fail
      (try rw [← hq])
      rw [← hW33]
      clear hW33 hq
      have c7 := cell7 (n := dn) HQ.out
      have HML := Lib.hid (show m = L.length from HLN.out.symm)
      rcases decA_cases L with ⟨h1, h2⟩ | ⟨h1, h3, h2⟩ | ⟨h1, h3, h2⟩
      · have hde : de = 61 := by rw [HDE.out, h2]
        have hdz : dn = zNd := by rw [HDN.out, h2]
        subst hde
        have hml : ((m : Int) != 512) = true := by have := HML.out; simp; omega
        have HSN := Lib.hid (l9_sameNode dn zNd _ _ _ _ nilV nilV nilV nilV W33 HN33.out ⟨⟨none, 0, rfl, RdE.nil _⟩, ⟨none, 0, rfl, RdI.nil _ _⟩, ⟨none, 0, rfl, RdT.nil _⟩, ⟨none, 0, rfl, RdI.nil _ _⟩⟩)
        rw [decide_eq_true hdz] at HSN
        unfold ndC zNd nilV at HSN
        (try dsimp only at HSN)
        clear h1 h2 hdz
        go_wp2_with fail
        refine HSN.out.mono ?_
        rintro e W34 ⟨rfl, hb⟩
        have HB34 := Lib.hid (HB33.out.trans (hb.mono HB33.out.size))
        clear hb c7
        go_wp2
        go_ret
        exact ⟨rfl, HB0.out.trans (HB34.out.mono HB0.out.size)⟩
      · have hde : de = 2 := by rw [HDE.out, h2]
        have hdz : dn = zNd := by rw [HDN.out, h2]
        subst hde
        obtain rfl : m = 512 := by have := HML.out; omega
        have HSN := Lib.hid (l9_sameNode dn zNd _ _ _ _ nilV nilV nilV nilV W33 HN33.out ⟨⟨none, 0, rfl, RdE.nil _⟩, ⟨none, 0, rfl, RdI.nil _ _⟩, ⟨none, 0, rfl, RdT.nil _⟩, ⟨none, 0, rfl, RdI.nil _ _⟩⟩)
        rw [decide_eq_true hdz] at HSN
        unfold ndC zNd nilV at HSN
        (try dsimp only at HSN)
        clear h1 h2 h3 hdz
        go_wp2_with fail
        refine HSN.out.mono ?_
        rintro e W34 ⟨rfl, hb⟩
        have HB34 := Lib.hid (HB33.out.trans (hb.mono HB33.out.size))
        clear hb c7
        go_wp2
        go_ret
        exact ⟨rfl, HB0.out.trans (HB34.out.mono HB0.out.size)⟩
      · have hde : de = 0 := by rw [HDE.out, h2]
        have hfd : fitsN dn = true := by rw [HDN.out, h2]; exact h3.2.1
        have hed : encN dn = L := by rw [HDN.out, h2]; exact h3.2.2
        subst hde
        have HEC := Lib.hid (pg_Encode dn _ _ _ _ W33 HN33.out hfd)
        rw [hed] at HEC
        have HFT := Lib.hid (fun (V : World) (hb : Below W33.heap.size W33 V) => pg_Fits dn _ _ _ _ V (HN33.out.ext hb))
        rw [hfd] at HFT
        have HCQ := Lib.hid (fun (V : World) (hb : Below W33.heap.size W33 V) => cell7 (n := dn) ((hb.block q (lt_of_block HQ.out)).trans HQ.out))
        unfold ndC at HEC HFT
        (try dsimp only at HEC HFT)
        clear h1 h2 h3 hfd hed
        go_wp2_with fail
        refine HEC.out.mono ?_
        rintro e W34 ⟨g34, rfl, hg, hB, hb⟩
        have HB34 := Lib.hid (HB33.out.trans (hb.mono HB33.out.size))
        have HB334 := Lib.hid hb
        have HSM := Lib.hid (l9_same (some ⟨g34, 0, none⟩) A 512 512 m c L L W34 hB.rd (HR0.out.ext HB34.out))
        rw [decide_eq_true rfl] at HSM
        clear hg hB hb c7 HEC
        have c7 := HCQ.out W34 HB334.out
        go_wp2_with fail
        refine HSM.out.mono ?_
        rintro e W35 ⟨rfl, rfl⟩
        go_wp2_with fail
        clear c7
        refine (HFT.out _ HB334.out).mono ?_
        rintro e W36 ⟨rfl, hb⟩
        have HB36 := Lib.hid (HB34.out.trans (hb.mono HB34.out.size))
        clear hb
        go_wp2
        go_ret
        exact ⟨rfl, HB0.out.trans (HB36.out.mono HB0.out.size)⟩
    · obtain ⟨a, rfl⟩ : ∃ a : Nat, at_ = a := ⟨at_.toNat, by omega⟩
      have HTU := Lib.hid (l9_turned (some ⟨g, 0, none⟩) 512 512 (encN n) a mask W9 HE9.out.rd (by decide) (by omega))
      have HTO := Lib.hid (page_told n HF.out a mask)
      obtain ⟨many, hmany⟩ : ∃ k, k = tuN 4 512 a mask 32 := ⟨_, rfl⟩
      rw [← hmany] at HTU HTO
      have hmn : many ≤ 32 := by rw [hmany]; exact tuN_le 4 512 a mask 32
      clear hin hmany
      go_wp2_with fail
      refine HTU.out.mono ?_
      rintro e W10 ⟨v10, rfl, hO, hb⟩
      obtain ⟨A10, c10, rfl, hr10⟩ := hO.rd (by decide)
      have HB10 := Lib.hid (HB9.out.trans (hb.mono HB9.out.size))
      have HD11 := Lib.hid (pg_DecodeA A10 512 c10 _ W10 hr10)
      obtain ⟨de0, hde0⟩ : ∃ d, d = (decA (tuB 4 a mask (encN n) 32)).2 := ⟨_, rfl⟩
      have HTE := Lib.hid (fun (h : 0 < many) => show de0 = 2 by rw [hde0, HTO.out h])
      rw [← hde0] at HD11
      clear hO hb hr10 HTU hde0
      go_wp2_with fail
      refine HD11.out.mono ?_
      rintro e W11 ⟨BE, eE, BC, eC, BK, eK, BD, eD, rfl, -, hb⟩
      have HB11 := Lib.hid (HB10.out.trans (hb.mono HB10.out.size))
      clear hb HD11
      by_cases hm0 : many = 0
      · subst hm0
        have HBW := Lib.hid (HB0.out.trans (HB11.out.mono HB0.out.size))
        go_wp2_with fail
        refine (l9_own W11 A m c L (HR0.out.ext HB11.out) (by omega)).mono ?_
        rintro e W31 ⟨v31, rfl, hO, hb⟩
        obtain ⟨A31, c31, rfl, hr31⟩ := hO.rd (by omega)
        have HB31 := Lib.hid (HB11.out.trans (hb.mono HB11.out.size))
        have HR31 := Lib.hid hr31
        clear hO hb hr31
        go_wp2_with fail
        refine (pg_DecodeA A31 m c31 L W31 HR31.out).mono ?_
        rintro e W32 ⟨AE, cE, AC, cC, AK, cK, AD, cD, rfl, hO, hb⟩
        have HB32 := Lib.hid (HB31.out.trans (hb.mono HB31.out.size))
        have HN32 := Lib.hid (hO.rdS (decA_len L))
        clear hO hb
        obtain ⟨dn, hdn⟩ : ∃ d, d = (decA L).1 := ⟨_, rfl⟩
        obtain ⟨de, hde⟩ : ∃ d, d = (decA L).2 := ⟨_, rfl⟩
        rw [← hdn] at HN32
        rw [← hdn, ← hde]
        have HDN := Lib.hid hdn
        have HDE := Lib.hid hde
        clear hdn hde
        unfold ndC
        (try dsimp only)
        obtain ⟨q, hq⟩ : ∃ q, q = W32.heap.size := ⟨_, rfl⟩
        obtain ⟨W33, hW33⟩ : ∃ V, V = W32.alloc (.cells (ndC dn (.slice AE dn.ents.length cE) (.slice AC dn.chs.length cC) (.slice AK dn.keys.length cK) (.slice AD dn.kids.length cD)) 26) := ⟨_, rfl⟩
        have HQ := Lib.hid (show W33.heap[q]? = some (.cells (ndC dn (.slice AE dn.ents.length cE) (.slice AC dn.chs.length cC) (.slice AK dn.keys.length cK) (.slice AD dn.kids.length cD)) 26 (0, 0)) by rw [hW33, hq]; exact heap_alloc_new W32 _)
        have HB33 := Lib.hid (show Below W0.heap.size W0 W33 by rw [hW33]; exact HB32.out.alloc HB32.out.size _)
        have HN33 := Lib.hid (HN32.out.ext (show Below W32.heap.size W32 W33 by rw [hW33]; exact (Below.refl _ _).alloc (Nat.le_refl _) _))
        unfold ndC at hW33
        go_upto_region 18 with fail
        (try rw [← hq])
        rw [← hW33]
        clear hW33 hq
        have c7 := cell7 (n := dn) HQ.out
        have HML := Lib.hid (show m = L.length from HLN.out.symm)
        rcases decA_cases L with ⟨h1, h2⟩ | ⟨h1, h3, h2⟩ | ⟨h1, h3, h2⟩
        · have hde : de = 61 := by rw [HDE.out, h2]
          have hdz : dn = zNd := by rw [HDN.out, h2]
          subst hde
          have hml : ((m : Int) != 512) = true := by have := HML.out; simp; omega
          have HSN := Lib.hid (l9_sameNode dn zNd _ _ _ _ nilV nilV nilV nilV W33 HN33.out ⟨⟨none, 0, rfl, RdE.nil _⟩, ⟨none, 0, rfl, RdI.nil _ _⟩, ⟨none, 0, rfl, RdT.nil _⟩, ⟨none, 0, rfl, RdI.nil _ _⟩⟩)
          rw [decide_eq_true hdz] at HSN
          unfold ndC zNd nilV at HSN
          (try dsimp only at HSN)
          clear h1 h2 hdz
          go_wp2_with fail
          refine HSN.out.mono ?_
          rintro e W34 ⟨rfl, hb⟩
          have HB34 := Lib.hid (HB33.out.trans (hb.mono HB33.out.size))
          clear hb c7
          go_wp2
          go_ret
          exact ⟨rfl, HB0.out.trans (HB34.out.mono HB0.out.size)⟩
        · have hde : de = 2 := by rw [HDE.out, h2]
          have hdz : dn = zNd := by rw [HDN.out, h2]
          subst hde
          obtain rfl : m = 512 := by have := HML.out; omega
          have HSN := Lib.hid (l9_sameNode dn zNd _ _ _ _ nilV nilV nilV nilV W33 HN33.out ⟨⟨none, 0, rfl, RdE.nil _⟩, ⟨none, 0, rfl, RdI.nil _ _⟩, ⟨none, 0, rfl, RdT.nil _⟩, ⟨none, 0, rfl, RdI.nil _ _⟩⟩)
          rw [decide_eq_true hdz] at HSN
          unfold ndC zNd nilV at HSN
          (try dsimp only at HSN)
          clear h1 h2 h3 hdz
          go_wp2_with fail
          refine HSN.out.mono ?_
          rintro e W34 ⟨rfl, hb⟩
          have HB34 := Lib.hid (HB33.out.trans (hb.mono HB33.out.size))
          clear hb c7
          go_wp2
          go_ret
          exact ⟨rfl, HB0.out.trans (HB34.out.mono HB0.out.size)⟩
        · have hde : de = 0 := by rw [HDE.out, h2]
          have hfd : fitsN dn = true := by rw [HDN.out, h2]; exact h3.2.1
          have hed : encN dn = L := by rw [HDN.out, h2]; exact h3.2.2
          subst hde
          have HEC := Lib.hid (pg_Encode dn _ _ _ _ W33 HN33.out hfd)
          rw [hed] at HEC
          have HFT := Lib.hid (fun (V : World) (hb : Below W33.heap.size W33 V) => pg_Fits dn _ _ _ _ V (HN33.out.ext hb))
          rw [hfd] at HFT
          have HCQ := Lib.hid (fun (V : World) (hb : Below W33.heap.size W33 V) => cell7 (n := dn) ((hb.block q (lt_of_block HQ.out)).trans HQ.out))
          unfold ndC at HEC HFT
          (try dsimp only at HEC HFT)
          clear h1 h2 h3 hfd hed
          go_wp2_with fail
          refine HEC.out.mono ?_
          rintro e W34 ⟨g34, rfl, hg, hB, hb⟩
          have HB34 := Lib.hid (HB33.out.trans (hb.mono HB33.out.size))
          have HB334 := Lib.hid hb
          have HSM := Lib.hid (l9_same (some ⟨g34, 0, none⟩) A 512 512 m c L L W34 hB.rd (HR0.out.ext HB34.out))
          rw [decide_eq_true rfl] at HSM
          clear hg hB hb c7 HEC
          have c7 := HCQ.out W34 HB334.out
          go_wp2_with fail
          refine HSM.out.mono ?_
          rintro e W35 ⟨rfl, rfl⟩
          go_wp2_with fail
          clear c7
          refine (HFT.out _ HB334.out).mono ?_
          rintro e W36 ⟨rfl, hb⟩
          have HB36 := Lib.hid (HB34.out.trans (hb.mono HB34.out.size))
          clear hb
          go_wp2
          go_ret
          exact ⟨rfl, HB0.out.trans (HB36.out.mono HB0.out.size)⟩
      · have hmi : (0 : Int) < (many : Int) := by omega
        have hd2 : de0 = 2 := HTE.out (by omega)
        subst hd2
        have HBW := Lib.hid (HB0.out.trans (HB11.out.mono HB0.out.size))
        go_wp2_with fail
        refine (l9_own W11 A m c L (HR0.out.ext HB11.out) (by omega)).mono ?_
        rintro e W31 ⟨v31, rfl, hO, hb⟩
        obtain ⟨A31, c31, rfl, hr31⟩ := hO.rd (by omega)
        have HB31 := Lib.hid (HB11.out.trans (hb.mono HB11.out.size))
        have HR31 := Lib.hid hr31
        clear hO hb hr31
        go_wp2_with fail
        refine (pg_DecodeA A31 m c31 L W31 HR31.out).mono ?_
        rintro e W32 ⟨AE, cE, AC, cC, AK, cK, AD, cD, rfl, hO, hb⟩
        have HB32 := Lib.hid (HB31.out.trans (hb.mono HB31.out.size))
        have HN32 := Lib.hid (hO.rdS (decA_len L))
        clear hO hb
        obtain ⟨dn, hdn⟩ : ∃ d, d = (decA L).1 := ⟨_, rfl⟩
        obtain ⟨de, hde⟩ : ∃ d, d = (decA L).2 := ⟨_, rfl⟩
        rw [← hdn] at HN32
        rw [← hdn, ← hde]
        have HDN := Lib.hid hdn
        have HDE := Lib.hid hde
        clear hdn hde
        unfold ndC
        (try dsimp only)
        obtain ⟨q, hq⟩ : ∃ q, q = W32.heap.size := ⟨_, rfl⟩
        obtain ⟨W33, hW33⟩ : ∃ V, V = W32.alloc (.cells (ndC dn (.slice AE dn.ents.length cE) (.slice AC dn.chs.length cC) (.slice AK dn.keys.length cK) (.slice AD dn.kids.length cD)) 26) := ⟨_, rfl⟩
        have HQ := Lib.hid (show W33.heap[q]? = some (.cells (ndC dn (.slice AE dn.ents.length cE) (.slice AC dn.chs.length cC) (.slice AK dn.keys.length cK) (.slice AD dn.kids.length cD)) 26 (0, 0)) by rw [hW33, hq]; exact heap_alloc_new W32 _)
        have HB33 := Lib.hid (show Below W0.heap.size W0 W33 by rw [hW33]; exact HB32.out.alloc HB32.out.size _)
        have HN33 := Lib.hid (HN32.out.ext (show Below W32.heap.size W32 W33 by rw [hW33]; exact (Below.refl _ _).alloc (Nat.le_refl _) _))
        unfold ndC at hW33
        go_upto_region 18 with fail
        (try rw [← hq])
        rw [← hW33]
        clear hW33 hq
        have c7 := cell7 (n := dn) HQ.out
        have HML := Lib.hid (show m = L.length from HLN.out.symm)
        rcases decA_cases L with ⟨h1, h2⟩ | ⟨h1, h3, h2⟩ | ⟨h1, h3, h2⟩
        · have hde : de = 61 := by rw [HDE.out, h2]
          have hdz : dn = zNd := by rw [HDN.out, h2]
          subst hde
          have hml : ((m : Int) != 512) = true := by have := HML.out; simp; omega
          have HSN := Lib.hid (l9_sameNode dn zNd _ _ _ _ nilV nilV nilV nilV W33 HN33.out ⟨⟨none, 0, rfl, RdE.nil _⟩, ⟨none, 0, rfl, RdI.nil _ _⟩, ⟨none, 0, rfl, RdT.nil _⟩, ⟨none, 0, rfl, RdI.nil _ _⟩⟩)
          rw [decide_eq_true hdz] at HSN
          unfold ndC zNd nilV at HSN
          (try dsimp only at HSN)
          clear h1 h2 hdz
          go_wp2_with fail
          refine HSN.out.mono ?_
          rintro e W34 ⟨rfl, hb⟩
          have HB34 := Lib.hid (HB33.out.trans (hb.mono HB33.out.size))
          clear hb c7
          go_wp2
          go_ret
          exact ⟨rfl, HB0.out.trans (HB34.out.mono HB0.out.size)⟩
        · have hde : de = 2 := by rw [HDE.out, h2]
          have hdz : dn = zNd := by rw [HDN.out, h2]
          subst hde
          obtain rfl : m = 512 := by have := HML.out; omega
          have HSN := Lib.hid (l9_sameNode dn zNd _ _ _ _ nilV nilV nilV nilV W33 HN33.out ⟨⟨none, 0, rfl, RdE.nil _⟩, ⟨none, 0, rfl, RdI.nil _ _⟩, ⟨none, 0, rfl, RdT.nil _⟩, ⟨none, 0, rfl, RdI.nil _ _⟩⟩)
          rw [decide_eq_true hdz] at HSN
          unfold ndC zNd nilV at HSN
          (try dsimp only at HSN)
          clear h1 h2 h3 hdz
          go_wp2_with fail
          refine HSN.out.mono ?_
          rintro e W34 ⟨rfl, hb⟩
          have HB34 := Lib.hid (HB33.out.trans (hb.mono HB33.out.size))
          clear hb c7
          go_wp2
          go_ret
          exact ⟨rfl, HB0.out.trans (HB34.out.mono HB0.out.size)⟩
        · have hde : de = 0 := by rw [HDE.out, h2]
          have hfd : fitsN dn = true := by rw [HDN.out, h2]; exact h3.2.1
          have hed : encN dn = L := by rw [HDN.out, h2]; exact h3.2.2
          subst hde
          have HEC := Lib.hid (pg_Encode dn _ _ _ _ W33 HN33.out hfd)
          rw [hed] at HEC
          have HFT := Lib.hid (fun (V : World) (hb : Below W33.heap.size W33 V) => pg_Fits dn _ _ _ _ V (HN33.out.ext hb))
          rw [hfd] at HFT
          have HCQ := Lib.hid (fun (V : World) (hb : Below W33.heap.size W33 V) => cell7 (n := dn) ((hb.block q (lt_of_block HQ.out)).trans HQ.out))
          unfold ndC at HEC HFT
          (try dsimp only at HEC HFT)
          clear h1 h2 h3 hfd hed
          go_wp2_with fail
          refine HEC.out.mono ?_
          rintro e W34 ⟨g34, rfl, hg, hB, hb⟩
          have HB34 := Lib.hid (HB33.out.trans (hb.mono HB33.out.size))
          have HB334 := Lib.hid hb
          have HSM := Lib.hid (l9_same (some ⟨g34, 0, none⟩) A 512 512 m c L L W34 hB.rd (HR0.out.ext HB34.out))
          rw [decide_eq_true rfl] at HSM
          clear hg hB hb c7 HEC
          have c7 := HCQ.out W34 HB334.out
          go_wp2_with fail
          refine HSM.out.mono ?_
          rintro e W35 ⟨rfl, rfl⟩
          go_wp2_with fail
          clear c7
          refine (HFT.out _ HB334.out).mono ?_
          rintro e W36 ⟨rfl, hb⟩
          have HB36 := Lib.hid (HB34.out.trans (hb.mono HB34.out.size))
          clear hb
          go_wp2
          go_ret
          exact ⟨rfl, HB0.out.trans (HB36.out.mono HB0.out.size)⟩
  · rw [Bool.not_eq_true] at hf
    have HF := Lib.hid hf
    clear hf
    go_wp2_with fail
    refine (pg_Encode_bad n uE uC uK uD W2 HN2.out HF.out).mono ?_
    rintro e W3 ⟨rfl, hb⟩
    have HB3 := Lib.hid (HB2.out.trans (hb.mono HB2.out.size))
    clear hb
    have c7 := HCL.out W3 HB3.out
    go_wp2_with fail
    clear c7
    refine (HCP.out W3 HB3.out).mono ?_
    rintro e W4 ⟨xE, xC, xK, xD, rfl, hO, hb⟩
    have HB4 := Lib.hid (HB3.out.trans (hb.mono HB3.out.size))
    have HFT := Lib.hid (pg_Fits n xE xC xK xD W4 (hO.rdB HNB.out))
    rw [HF.out] at HFT
    clear hO hb
    go_wp2_with fail
    refine HFT.out.mono ?_
    rintro e W5 ⟨rfl, hb⟩
    have HB5 := Lib.hid (HB4.out.trans (hb.mono HB4.out.size))
    clear hb HFT
    have HBW := Lib.hid (HB0.out.trans (HB5.out.mono HB0.out.size))
    go_wp2_with fail
    refine (l9_own W5 A m c L (HR0.out.ext HB5.out) (by omega)).mono ?_
    rintro e W31 ⟨v31, rfl, hO, hb⟩
    obtain ⟨A31, c31, rfl, hr31⟩ := hO.rd (by omega)
    have HB31 := Lib.hid (HB5.out.trans (hb.mono HB5.out.size))
    have HR31 := Lib.hid hr31
    clear hO hb hr31
    go_wp2_with fail
    refine (pg_DecodeA A31 m c31 L W31 HR31.out).mono ?_
    rintro e W32 ⟨AE, cE, AC, cC, AK, cK, AD, cD, rfl, hO, hb⟩
    have HB32 := Lib.hid (HB31.out.trans (hb.mono HB31.out.size))
    have HN32 := Lib.hid (hO.rdS (decA_len L))
    clear hO hb
    obtain ⟨dn, hdn⟩ : ∃ d, d = (decA L).1 := ⟨_, rfl⟩
    obtain ⟨de, hde⟩ : ∃ d, d = (decA L).2 := ⟨_, rfl⟩
    rw [← hdn] at HN32
    rw [← hdn, ← hde]
    have HDN := Lib.hid hdn
    have HDE := Lib.hid hde
    clear hdn hde
    unfold ndC
    (try dsimp only)
    obtain ⟨q, hq⟩ : ∃ q, q = W32.heap.size := ⟨_, rfl⟩
    obtain ⟨W33, hW33⟩ : ∃ V, V = W32.alloc (.cells (ndC dn (.slice AE dn.ents.length cE) (.slice AC dn.chs.length cC) (.slice AK dn.keys.length cK) (.slice AD dn.kids.length cD)) 26) := ⟨_, rfl⟩
    have HQ := Lib.hid (show W33.heap[q]? = some (.cells (ndC dn (.slice AE dn.ents.length cE) (.slice AC dn.chs.length cC) (.slice AK dn.keys.length cK) (.slice AD dn.kids.length cD)) 26 (0, 0)) by rw [hW33, hq]; exact heap_alloc_new W32 _)
    have HB33 := Lib.hid (show Below W0.heap.size W0 W33 by rw [hW33]; exact HB32.out.alloc HB32.out.size _)
    have HN33 := Lib.hid (HN32.out.ext (show Below W32.heap.size W32 W33 by rw [hW33]; exact (Below.refl _ _).alloc (Nat.le_refl _) _))
    unfold ndC at hW33
    go_upto_region 18 with fail
    (try rw [← hq])
    rw [← hW33]
    clear hW33 hq
    have c7 := cell7 (n := dn) HQ.out
    have HML := Lib.hid (show m = L.length from HLN.out.symm)
    rcases decA_cases L with ⟨h1, h2⟩ | ⟨h1, h3, h2⟩ | ⟨h1, h3, h2⟩
    · have hde : de = 61 := by rw [HDE.out, h2]
      have hdz : dn = zNd := by rw [HDN.out, h2]
      subst hde
      have hml : ((m : Int) != 512) = true := by have := HML.out; simp; omega
      have HSN := Lib.hid (l9_sameNode dn zNd _ _ _ _ nilV nilV nilV nilV W33 HN33.out ⟨⟨none, 0, rfl, RdE.nil _⟩, ⟨none, 0, rfl, RdI.nil _ _⟩, ⟨none, 0, rfl, RdT.nil _⟩, ⟨none, 0, rfl, RdI.nil _ _⟩⟩)
      rw [decide_eq_true hdz] at HSN
      unfold ndC zNd nilV at HSN
      (try dsimp only at HSN)
      clear h1 h2 hdz
      go_wp2_with fail
      refine HSN.out.mono ?_
      rintro e W34 ⟨rfl, hb⟩
      have HB34 := Lib.hid (HB33.out.trans (hb.mono HB33.out.size))
      clear hb c7
      go_wp2
      go_ret
      exact ⟨rfl, HB0.out.trans (HB34.out.mono HB0.out.size)⟩
    · have hde : de = 2 := by rw [HDE.out, h2]
      have hdz : dn = zNd := by rw [HDN.out, h2]
      subst hde
      obtain rfl : m = 512 := by have := HML.out; omega
      have HSN := Lib.hid (l9_sameNode dn zNd _ _ _ _ nilV nilV nilV nilV W33 HN33.out ⟨⟨none, 0, rfl, RdE.nil _⟩, ⟨none, 0, rfl, RdI.nil _ _⟩, ⟨none, 0, rfl, RdT.nil _⟩, ⟨none, 0, rfl, RdI.nil _ _⟩⟩)
      rw [decide_eq_true hdz] at HSN
      unfold ndC zNd nilV at HSN
      (try dsimp only at HSN)
      clear h1 h2 h3 hdz
      go_wp2_with fail
      refine HSN.out.mono ?_
      rintro e W34 ⟨rfl, hb⟩
      have HB34 := Lib.hid (HB33.out.trans (hb.mono HB33.out.size))
      clear hb c7
      go_wp2
      go_ret
      exact ⟨rfl, HB0.out.trans (HB34.out.mono HB0.out.size)⟩
    · have hde : de = 0 := by rw [HDE.out, h2]
      have hfd : fitsN dn = true := by rw [HDN.out, h2]; exact h3.2.1
      have hed : encN dn = L := by rw [HDN.out, h2]; exact h3.2.2
      subst hde
      have HEC := Lib.hid (pg_Encode dn _ _ _ _ W33 HN33.out hfd)
      rw [hed] at HEC
      have HFT := Lib.hid (fun (V : World) (hb : Below W33.heap.size W33 V) => pg_Fits dn _ _ _ _ V (HN33.out.ext hb))
      rw [hfd] at HFT
      have HCQ := Lib.hid (fun (V : World) (hb : Below W33.heap.size W33 V) => cell7 (n := dn) ((hb.block q (lt_of_block HQ.out)).trans HQ.out))
      unfold ndC at HEC HFT
      (try dsimp only at HEC HFT)
      clear h1 h2 h3 hfd hed
      go_wp2_with fail
      refine HEC.out.mono ?_
      rintro e W34 ⟨g34, rfl, hg, hB, hb⟩
      have HB34 := Lib.hid (HB33.out.trans (hb.mono HB33.out.size))
      have HB334 := Lib.hid hb
      have HSM := Lib.hid (l9_same (some ⟨g34, 0, none⟩) A 512 512 m c L L W34 hB.rd (HR0.out.ext HB34.out))
      rw [decide_eq_true rfl] at HSM
      clear hg hB hb c7 HEC
      have c7 := HCQ.out W34 HB334.out
      go_wp2_with fail
      refine HSM.out.mono ?_
      rintro e W35 ⟨rfl, rfl⟩
      go_wp2_with fail
      clear c7
      refine (HFT.out _ HB334.out).mono ?_
      rintro e W36 ⟨rfl, hb⟩
      have HB36 := Lib.hid (HB34.out.trans (hb.mono HB34.out.size))
      clear hb
      go_wp2
      go_ret
      exact ⟨rfl, HB0.out.trans (HB36.out.mono HB0.out.size)⟩
end Go.Proofs.Ytlandlgjhnnaiaa
