/- A page's seal; the entries of a leaf are laid. -/
import Derived.Test.YtlandlgjhnnaiaaPg11
import Derived.Test.YtlandlgjhnnaiaaSumW5
import Derived.Deep.RegionHeld3
set_option linter.unusedVariables false
set_option linter.unusedSimpArgs false
set_option maxRecDepth 100000
namespace Go.Proofs.Ytlandlgjhnnaiaa
open Go.RowKit SumMath
theorem pg_seal (A : Option Addr) (c : Nat) (L : List UInt8) (w : World) (hr : Rd w A 512 c L) :
    Calls Try.prog 40 #[.slice A 512 c] w fun e w' => e = .returned (.int .u32 ((sealL L).toNat : Int)) ∧ Below w.heap.size w w' := by
  obtain ⟨A8, e8, r8⟩ := cut_from A 512 c 8 (by omega)
  have hc4 : (4 : Int) ≤ (c : Int) := by have := hr.cap; omega
  have e4 : ∀ (W : World), (Instr.slice 31 (.slice A 512 c) none (some (.int .i64 4)) none).run Try.prog W = .ok (.slice A 4 c) W := fun W => by
    have hel : Try.prog.elem 31 = 5 := by simp [Program.elem, Try.underlying31]
    have hu : Try.prog.underlying 31 = some (.slice (Try.prog.elem 31)) := by rw [hel]; exact Try.underlying31
    obtain ⟨i0, hi, hzz⟩ := Option.map_eq_some_iff.1 info_u8
    simp only [Prod.mk.injEq] at hzz
    rw [run_slice_h W 31 A 512 c hu .i64 4 (by omega) hc4, hel]
    obtain ⟨b9, o9, rfl, -⟩ := hr.at_ (by omega)
    simp [sizeOf, typeInfo, hi, hzz.2.1, sliced, Result.andThen, Addr.add_mid]

  have HSM := Lib.hid (sum_Sum A 4 c (L.take 4) w.drew ((hr.take 4 (by omega)).drew 1))
  obtain ⟨c1, hc1⟩ : ∃ c1, c1 = crc 0#32 (L.take 4) := ⟨_, rfl⟩
  rw [← hc1] at HSM
  have HSU := Lib.hid (fun (W : World) (hb : Below w.heap.size w W) => sum_Update c1 A8 (512 - 8) (c - 8) (L.drop 8) W ((r8 w L hr).ext hb))
  have HCC := Lib.hid (show sealL L = crc c1 (L.drop 8) by rw [hc1]; rfl)
  have e8 : ∀ (W : World), (Instr.slice 31 (.slice A 512 c) (some (.int .i64 8)) none none).run Try.prog W = .ok (.slice A8 504 (c - 8)) W := e8
  have HSU : Hid (∀ (W : World), Below w.heap.size w W → Calls Try.prog 60 #[.int .u32 (c1.toNat : Int), .slice A8 504 (c - 8)] W _) := HSU
  clear hr r8 hc1
  go_enter Try.func40, Try.ntmps40
  go_wp2_with fail
  go_region_held3 (fun w' => True)
    (trivial)
    (first | (go_at_call 60; refine (HSU.out _ HB8.out).mono ?_; rintro e w9 ⟨rfl, hB9⟩; have HB9 := Lib.hid (HB8.out.trans (hB9.mono HB8.out.size)); clear hB9)
           | (go_at_call 61; refine HSM.out.mono ?_; rintro e w8 ⟨rfl, hB8⟩; have HB8 := Lib.hid (show Below w.heap.size w w8 from ((Below.refl _ w).drew).trans hB8); clear hB8))
  rename_i hHeld
  clear hHeld
  go_wp2
  go_ret
  exact ⟨by rw [HCC.out]; rfl, HB9.out⟩
end Go.Proofs.Ytlandlgjhnnaiaa
