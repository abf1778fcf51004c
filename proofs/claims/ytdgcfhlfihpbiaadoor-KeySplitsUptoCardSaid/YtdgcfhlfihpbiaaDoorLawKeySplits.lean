/- The walk of KeySplits (over arguments of bulk at most 1048576). -/
import Derived.Test.YtdgcfhlfihpbiaaDoorKy5
set_option linter.unusedVariables false
set_option linter.unusedSimpArgs false
set_option maxRecDepth 100000
namespace Go.Proofs.YtdgcfhlfihpbiaaDoor
open Go.RowKit
theorem walk_KeySplits (k : ByteArray) (w : World) (hm : MaxL w) (hk : k.size ≤ 1048576) :
    Calls Tryd.prog 3 #[.string k] w fun e w' => e = .returned (.bool true) ∧ Below w.heap.size w w' := by
  have HM := Lib.hid hm
  clear hm
  go_enter Tryd.func3, Tryd.ntmps3
  go_wp2_with fail
  refine (l5_fixed w HM.out).mono ?_
  rintro e w1 ⟨rfl, hB1⟩
  have HB1 := Lib.hid hB1
  clear hB1
  go_wp2_with fail
  refine (ky_Split k w1 hk).mono ?_
  rintro e w2 ⟨u2, rfl, hO2, hB2⟩
  have hlen : (spA k.data.toList).1.length ≤ 8 := by
    rcases Classical.em ((spA k.data.toList).2 = 0) with h | h
    · exact (spA_ok h).2.1
    · rw [spA_bad h]; simp
  obtain ⟨P, hP⟩ : ∃ P, P = (spA k.data.toList).1 := ⟨_, rfl⟩
  obtain ⟨er, her⟩ : ∃ er, er = (spA k.data.toList).2 := ⟨_, rfl⟩
  rw [← hP] at hO2 hlen
  rw [← her]
  obtain ⟨n, hn⟩ : ∃ n, n = P.length := ⟨_, rfl⟩
  rw [← hn] at hO2 hlen
  obtain ⟨A2, c2, rfl, hR2⟩ := hO2.rd (by omega)
  have HR2 := Lib.hid hR2
  have HB2 := Lib.hid (HB1.out.trans (hB2.mono HB1.out.size))
  have HP := Lib.hid (And.intro hP (And.intro her hn))
  clear hO2 hB2 hR2 hP her hn
  go_wp2_with fail
  refine (kr_Split k w2 hk).mono ?_
  rintro e w3 ⟨u3, rfl, hO3, hB3⟩
  rw [rfA_eq, ← HP.out.1, ← HP.out.2.2] at hO3
  rw [rfA_eq, ← HP.out.2.1]
  obtain ⟨A3, c3, rfl, hR3⟩ := hO3.rd (by omega)
  have HR3 := Lib.hid hR3
  have HR23 := Lib.hid (HR2.out.ext hB3)
  have HB3 := Lib.hid (HB2.out.trans (hB3.mono HB2.out.size))
  clear hO3 hB3 hR3
  go_wp2_with fail
  refine (l5_same A2 A3 n c2 n c3 P P w3 HR23.out HR3.out).mono ?_
  rintro e w4 ⟨rfl, hO4⟩
  rw [decide_eq_true rfl]
  have HB4 := Lib.hid (HB3.out.trans (hO4.below HB3.out.size (by simp)))
  clear hO4
  go_wp2
  go_ret
  exact ⟨by simp, HB4.out⟩
end Go.Proofs.YtdgcfhlfihpbiaaDoor
