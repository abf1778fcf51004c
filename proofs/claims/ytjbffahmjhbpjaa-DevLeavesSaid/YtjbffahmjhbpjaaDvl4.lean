/- The laws' own helpers over the device: lives, its walk. -/
import Derived.Test.YtjbffahmjhbpjaaDvl3
set_option linter.unusedVariables false
set_option linter.unusedSimpArgs false
set_option maxRecDepth 100000
namespace Go.Proofs.Ytjbffahmjhbpjaa
open Go.RowKit
set_option maxHeartbeats 2000000 in
theorem l6_lives (w : World) : Calls Try.prog 14 #[] w fun e w' => ∃ b g vc, e = .returned (.pointer (some ⟨b, 0, none⟩)) ∧ IsV w' b g vc liveD ∧ (∀ k ∈ dvS b g vc, w.heap.size ≤ k) ∧ Below w.heap.size w w' := by
  go_enter Try.func14, Try.ntmps14
  go_wp2_with fail
  refine (dv_New_ok 64 (by omega) (by omega) w).mono ?_
  rintro e w1 ⟨rfl, hD, hB⟩
  obtain ⟨b, hb⟩ : ∃ b, b = w.heap.size + 1 := ⟨_, rfl⟩
  obtain ⟨g, hg⟩ : ∃ g, g = w.heap.size := ⟨_, rfl⟩
  rw [← hb, ← hg] at hD
  rw [← hb]
  have hV := IsV.ofNew hD
  rw [newD_64] at hV
  have HV1 := Lib.hid hV
  have HB1 := Lib.hid hB
  have HBG := Lib.hid (And.intro hb hg)
  clear hD hB hV hb hg
  go_wp2_with fail
  refine (l6_full 5 w1).mono ?_
  rintro e w2 ⟨u2, rfl, k2, rfl, hO2, hB2⟩
  have HO2 := Lib.hid hO2
  have HB2 := Lib.hid hB2
  have HV2 := Lib.hid (HV1.out.ext hB2)
  have hB12 := hB2
  obtain ⟨A9, c9, he9, hR2⟩ := hO2.rd (by omega)
  injection he9 with he1 he2 he3
  subst he1 he3
  have hlt := HV1.out.lt
  have hbase := hO2.base_le
  have HW := Lib.hid (dv_Write w2 b g _ newD64 63 _ 512 512 _ HV2.out hR2 (fun _ p hp hm => by
    have e1 : (⟨k2, 0, none⟩ : Addr) = p := Option.some.inj hp
    have h9 := hlt _ hm
    rw [← e1] at h9
    have h10 : k2 < w1.heap.size := h9
    omega) (by decide) (by decide) (by decide))
  clear hO2 hB2 hR2 hlt hbase
  have hlw := live_wr
  unfold fiveL at hlw
  rw [hlw] at HW
  go_wp2_with fail
  refine HW.out.mono ?_
  rintro e w3 ⟨rfl, vc3, hV3, hF3⟩
  have HF := Lib.hid ((Fr.below (dvS b g (.slice none 0 0)) hB12).trans hF3)
  have HFL := Lib.hid (dv_Flush w3 b g vc3 wrD64 hV3 (by decide) (by decide) (by decide))
  rw [live_fl] at HFL
  clear hV3 hF3 hlw
  go_wp2_with fail
  refine HFL.out.mono ?_
  rintro e w4 ⟨rfl, vc4, hV4, hF4⟩
  have HF4 := Lib.hid (HF.out.trans hF4)
  have HV4 := Lib.hid hV4
  have HRW := Lib.hid (dv_Raw w4 b g vc4 liveD 63 hV4 (by decide))
  rw [show blkM liveD.M 63 = List.replicate 512 5 from live_raw] at HRW
  clear hV4 hF4
  go_wp2_with fail
  refine HRW.out.mono ?_
  rintro e w5 ⟨u5, rfl, k5, rfl, hO5, hB5⟩
  have HO5 := Lib.hid hO5
  have hB45 := hB5
  clear hO5 hB5
  go_wp2_with fail
  refine (l6_full 5 w5).mono ?_
  rintro e w6 ⟨u6, rfl, k6, rfl, hO6, hB6⟩
  have hO56 := HO5.out.ext hB6
  obtain ⟨A7, c7, he7, hR7⟩ := hO56.rd (by omega)
  injection he7 with he1 he2 he3
  subst he1 he3
  obtain ⟨A8, c8, he8, hR8⟩ := hO6.rd (by omega)
  injection he8 with he1 he2 he3
  subst he1 he3
  have HSM := Lib.hid (l6_same _ _ 512 512 512 512 _ _ w6 hR7 hR8)
  rw [decide_eq_true rfl] at HSM
  have HV6 := Lib.hid ((HV4.out.ext hB45).ext hB6)
  have HF6 := Lib.hid ((HF4.out.trans (Fr.below _ hB45)).trans (Fr.below _ hB6))
  clear hO6 hB6 hO56 hR7 hR8 hB45
  go_wp2_with fail
  refine HSM.out.mono ?_
  rintro e w7 ⟨rfl, rfl⟩
  go_wp2
  go_ret
  have hbl := HF6.out.toBelow (B := w.heap.size) HB1.out.size (by
    intro k hk
    simp only [dvS, Value.ownBlock, Option.toList_none, List.mem_cons, List.not_mem_nil, or_false] at hk
    have := HBG.out
    omega)
  exact ⟨b, g, vc4, rfl, HV6.out, hbl.2, HB1.out.trans hbl.1⟩
end Go.Proofs.Ytjbffahmjhbpjaa
