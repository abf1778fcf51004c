/- The walk of KeyParts. -/
import Derived.Test.YtdgcfhlfihpbiaaDoorKyBt
import Derived.Test.YtdgcfhlfihpbiaaDoorKy6
set_option linter.unusedVariables false
set_option linter.unusedSimpArgs false
set_option maxRecDepth 100000
namespace Go.Proofs.YtdgcfhlfihpbiaaDoor
open Go.RowKit
theorem walk_KeyParts (a b : ByteArray) (n : Int) (s : ByteArray) (w : World) (hm : MaxL w) (ha : a.size ≤ 140737488351232) (hb : b.size ≤ 140737488351232) (hn : -9223372036854775808 ≤ n ∧ n < 9223372036854775808) (hs : s.size ≤ 140737488351232) :
    Calls Tryd.prog 12 #[.string a, .string b, .int .i64 n, .string s] w fun e w' => e = .returned (.bool true) ∧ Below w.heap.size w w' := by
  have HM := Lib.hid hm
  have HA := Lib.hid ha
  have HB := Lib.hid hb
  have HN := Lib.hid hn
  have HS := Lib.hid hs
  clear hm
  go_enter Tryd.func12, Tryd.ntmps12
  go_wp2_with fail
  refine (l5_fixed w HM.out).mono ?_
  rintro e w1 ⟨rfl, hB1⟩
  have HB1 := Lib.hid hB1
  clear hB1
  obtain ⟨t, ht⟩ : ∃ t, t = btA a b := ⟨_, rfl⟩
  obtain ⟨u, hu⟩ : ∃ u, u = nbA n := ⟨_, rfl⟩
  obtain ⟨v, hv⟩ : ∃ v, v = unA s := ⟨_, rfl⟩
  have HBT := Lib.hid (fun w => ky_Between a b w HA.out HB.out)
  have HBT2 := Lib.hid (fun w => kr_Between a b w HA.out HB.out)
  have HNB := Lib.hid (fun w => ky_Number n HN.out.1 (by have := HN.out; omega) w)
  have HNB2 := Lib.hid (fun w => kr_Number n HN.out.1 (by have := HN.out; omega) w)
  have HUN := Lib.hid (fun w => ky_Unnumber s w (by have := HS.out; omega))
  have HUN2 := Lib.hid (fun w => kr_Unnumber s w (by have := HS.out; omega))
  unfold BtPost at HBT HBT2
  unfold NbPost at HNB HNB2
  unfold UnPost at HUN HUN2
  rw [← ht] at HBT HBT2
  rw [← hu] at HNB HNB2
  rw [← hv] at HUN HUN2
  clear ht hu hv
  go_wp2_with fail
  refine (HBT.out w1).mono ?_
  rintro e w2 ⟨rfl, hB2⟩
  have HB2 := Lib.hid (HB1.out.trans (hB2.mono HB1.out.size))
  clear hB2
  go_wp2_with fail
  refine (HBT2.out w2).mono ?_
  rintro e w3 ⟨rfl, hB3⟩
  have HB3 := Lib.hid (HB2.out.trans (hB3.mono HB2.out.size))
  clear hB3
  go_wp2_with fail
  refine (HNB.out w3).mono ?_
  rintro e w4 ⟨rfl, hB4⟩
  have HB4 := Lib.hid (HB3.out.trans (hB4.mono HB3.out.size))
  clear hB4
  go_wp2_with fail
  refine (HNB2.out w4).mono ?_
  rintro e w5 ⟨rfl, hB5⟩
  have HB5 := Lib.hid (HB4.out.trans (hB5.mono HB4.out.size))
  clear hB5
  go_wp2_with fail
  refine (HUN.out w5).mono ?_
  rintro e w6 ⟨rfl, rfl⟩
  go_wp2_with fail
  refine (HUN2.out w6).mono ?_
  rintro e w7 ⟨rfl, rfl⟩
  go_wp2
  go_ret
  exact ⟨by simp, HB5.out⟩
end Go.Proofs.YtdgcfhlfihpbiaaDoor
