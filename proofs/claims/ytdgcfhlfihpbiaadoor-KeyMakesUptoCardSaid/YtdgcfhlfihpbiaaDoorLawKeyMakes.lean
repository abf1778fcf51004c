/- The walk of KeyMakes (over arguments of bulk at most 1048576). -/
import Derived.Test.YtdgcfhlfihpbiaaDoorKy6
import Derived.Test.YtdgcfhlfihpbiaaDoorRowTU
set_option linter.unusedVariables false
set_option linter.unusedSimpArgs false
set_option maxRecDepth 100000
namespace Go.Proofs.YtdgcfhlfihpbiaaDoor
open Go.RowKit
theorem walk_KeyMakes (A : Option Addr) (n c : Nat) (l : List ByteArray) (w : World) (hm : MaxL w) (hr : RdT w A n c l) (hz : bulkT l ≤ 1048576) :
    Calls Tryd.prog 8 #[.slice A n c] w fun e w' => e = .returned (.bool true) ∧ Below w.heap.size w w' := by
  have HM := Lib.hid hm
  have HP := Lib.hid hm.pos
  have HR := Lib.hid hr
  have HL := Lib.hid hr.len
  have HS := Lib.hid (show ∀ x ∈ l, x.size ≤ 1048576 from fun x hx => by have := bulkT_mem hx; omega)
  have hn : n ≤ 1048576 := by have := bulkT_len l; rw [hr.len] at this; omega
  clear hm hr hz
  go_enter Tryd.func8, Tryd.ntmps8
  go_wp2_with fail
  refine (l5_fixed w HM.out).mono ?_
  rintro e w1 ⟨rfl, hB1⟩
  have HB1 := Lib.hid hB1
  clear hB1
  go_wp2_with fail
  refine (l5_roomy A n c l w1 (HR.out.ext HB1.out) (by omega)).mono ?_
  rintro e w2 ⟨u2, rfl, hO2, hB2⟩
  obtain ⟨Ax, cx, rfl, hRx⟩ := hO2.rd (by omega)
  have hcx := cut_toT Ax (n + 2) cx n (by omega) hRx.cap
  have HTx := Lib.hid (show RdT w2 Ax n cx l by
    have h := hRx.takeT n (by omega)
    rwa [List.take_left' HL.out] at h)
  have HRx := Lib.hid hRx
  have HB2 := Lib.hid (HB1.out.trans (hB2.mono HB1.out.size))
  have HMK := Lib.hid (ky_Make Ax n cx l w2 HTx.out HS.out (HM.out.ext HB2.out HP.out))
  obtain ⟨K, hK⟩ : ∃ K, K = mkA l := ⟨_, rfl⟩
  unfold MkPost at HMK
  rw [← hK] at HMK
  have HK := Lib.hid hK
  clear hO2 hB2 hRx hK
  go_wp2_with fail
  refine HMK.out.mono ?_
  rintro e w3 ⟨rfl, hB3⟩
  have HTx3 := Lib.hid (HTx.out.ext hB3)
  have HRx3 := Lib.hid (HRx.out.ext hB3)
  have HB3 := Lib.hid (HB2.out.trans (hB3.mono HB2.out.size))
  clear hB3
  go_wp2_with fail
  refine (l5_own A n c l w3 (HR.out.ext HB3.out) (by omega)).mono ?_
  rintro e w4 ⟨u4, rfl, hO4, hB4⟩
  obtain ⟨A4, c4, rfl, hR4⟩ := hO4.rd (by omega)
  have HTx4 := Lib.hid (HTx3.out.ext hB4)
  have HRx4 := Lib.hid (HRx3.out.ext hB4)
  have HB4 := Lib.hid (HB3.out.trans (hB4.mono HB3.out.size))
  have HMK2 := Lib.hid (kr_Make A4 n c4 l w4 hR4 HS.out)
  unfold MkPost at HMK2
  rw [← HK.out] at HMK2
  clear hO4 hB4 hR4
  go_wp2_with fail
  refine HMK2.out.mono ?_
  rintro e w5 ⟨rfl, hB5⟩
  have HTx5 := Lib.hid (HTx4.out.ext hB5)
  have HRx5 := Lib.hid (HRx4.out.ext hB5)
  have HB5 := Lib.hid (HB4.out.trans (hB5.mono HB4.out.size))
  clear hB5
  go_wp2_with fail
  refine (l5_intact Ax A (n + 2) cx n c (l ++ [markS, markS]) l w5 HRx5.out (HR.out.ext HB5.out) (by omega)).mono ?_
  rintro e w6 ⟨rfl, hB6⟩
  rw [decide_eq_true rfl]
  have HTx6 := Lib.hid (HTx5.out.ext hB6)
  have HRx6 := Lib.hid (HRx5.out.ext hB6)
  have HB6 := Lib.hid (HB5.out.trans (hB6.mono HB5.out.size))
  have HRG := Lib.hid (ky_Range Ax n cx l w6 HTx6.out HS.out (HM.out.ext HB6.out HP.out))
  obtain ⟨G, hG⟩ : ∃ G, G = rgA l := ⟨_, rfl⟩
  unfold RgPost at HRG
  rw [← hG] at HRG
  have HG := Lib.hid hG
  clear hB6 hG
  go_wp2_with fail
  refine HRG.out.mono ?_
  rintro e w7 ⟨rfl, hB7⟩
  have HRx7 := Lib.hid (HRx6.out.ext hB7)
  have HB7 := Lib.hid (HB6.out.trans (hB7.mono HB6.out.size))
  clear hB7
  go_wp2_with fail
  refine (l5_own A n c l w7 (HR.out.ext HB7.out) (by omega)).mono ?_
  rintro e w8 ⟨u8, rfl, hO8, hB8⟩
  obtain ⟨A8, c8, rfl, hR8⟩ := hO8.rd (by omega)
  have HRx8 := Lib.hid (HRx7.out.ext hB8)
  have HB8 := Lib.hid (HB7.out.trans (hB8.mono HB7.out.size))
  have HRG2 := Lib.hid (kr_Range A8 n c8 l w8 hR8 HS.out)
  unfold RgPost at HRG2
  rw [← HG.out] at HRG2
  clear hO8 hB8 hR8
  go_wp2_with fail
  refine HRG2.out.mono ?_
  rintro e w9 ⟨rfl, hB9⟩
  have HRx9 := Lib.hid (HRx8.out.ext hB9)
  have HB9 := Lib.hid (HB8.out.trans (hB9.mono HB8.out.size))
  clear hB9 hcx
  go_wp2_with fail
  refine (l5_intact Ax A (n + 2) cx n c (l ++ [markS, markS]) l w9 HRx9.out (HR.out.ext HB9.out) (by omega)).mono ?_
  rintro e w10 ⟨rfl, hB10⟩
  rw [decide_eq_true rfl]
  have HB10 := Lib.hid (HB9.out.trans (hB10.mono HB9.out.size))
  clear hB10
  go_wp2
  go_ret
  exact ⟨by simp, HB10.out⟩
end Go.Proofs.YtdgcfhlfihpbiaaDoor
