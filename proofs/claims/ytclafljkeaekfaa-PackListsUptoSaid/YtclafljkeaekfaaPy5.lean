/- Walk of the laws' roomy. -/
import Derived.Test.YtclafljkeaekfaaPk12
set_option linter.unusedVariables false
set_option linter.unusedSimpArgs false
set_option maxRecDepth 100000
namespace Go.Proofs.Ytclafljkeaekfaa
open Go.RowKit
theorem cut_toB' (A : Option Addr) (n c hi : Nat) (h2 : hi ≤ n) (h3 : n ≤ c) (W : World) : (Instr.slice 28 (.slice A n c) none (some (.int .i64 (hi : Int))) none).run Try.prog W = .ok (.slice A hi c) W := by
  obtain ⟨i0, hi0, hzz⟩ := Option.map_eq_some_iff.1 info_u8
  simp only [Prod.mk.injEq] at hzz
  obtain ⟨hz0, hz1, hz2⟩ := hzz
  have hel : Try.prog.elem 28 = 5 := by simp [Program.elem, Try.underlying28]
  have hu : Try.prog.underlying 28 = some (.slice (Try.prog.elem 28)) := by rw [hel]; exact Try.underlying28
  rw [run_slice_h W 28 A n c hu .i64 (hi : Int) (Int.natCast_nonneg _) (by omega), hel]
  have ha : A.map (fun x => x.add 0) = A := by cases A <;> simp [Addr.add]
  simp [sizeOf, typeInfo, hi0, hz1, sliced, Result.andThen, ha]
def marks (k : Nat) : List UInt8 := List.replicate k 167
theorem l2_roomy (A : Option Addr) (n c : Nat) (l : List UInt8) (w : World) (hr : Rd w A n c l) (hn : n ≤ 140737488351232) :
    Calls Try.prog 26 #[.slice A n c] w fun e w' => ∃ u, e = .returned u ∧ Own w' w.heap.size u (n + 64) (l ++ marks 64) ∧ Below w.heap.size w w' := by
  have HR := Lib.hid hr
  clear hr
  go_enter Try.func26, Try.ntmps26
  go_wp2_with fail
  refine (l2_own A n c l w HR.out).mono ?_
  rintro e w1 ⟨u, rfl, hO, hB⟩
  have HO1 := Lib.hid hO
  have HB1 := Lib.hid hB
  clear hO hB
  go_wp2_with fail
  go_loopw [3, 4] (fun v x wr => ∃ k : Nat, k ≤ 64 ∧ x = .int .i64 k ∧ Own wr w.heap.size v (n + k) (l ++ marks k) ∧ Below w.heap.size w wr) (fun _ x _ => 64 - (intOf x).toNat)
  case atStart => exact ⟨0, by omega, rfl, by simpa [marks] using HO1.out, HB1.out⟩
  case round =>
    obtain ⟨k, hk, rfl, hO, hB⟩ := hrel
    have HO := Lib.hid hO
    have HB := Lib.hid hB
    have hz := hB.size
    clear hO hB
    by_cases hkn : k < 64
    · have HT := Lib.hid (show l ++ marks (k + 1) = (l ++ marks k) ++ [167] by rw [marks, List.replicate_succ', ← List.append_assoc]; rfl)
      go_wp2_with (at_builtin; refine wp_appB w.heap.size (HO.out.alloc _) (Rd.lit wr [167] 1 rfl (by omega)) (by simp; omega) (by omega) _ _ rfl rfl rfl rfl ?_; intro v1 w1 hO1 hG1 hA1; have HO1 := Lib.hid hO1; have HG1 := Lib.hid hG1; clear hO1 hG1 hA1)
      go_roundw
      case rel => exact ⟨k + 1, by omega, by go_num, by rw [HT.out]; exact HO1.out, (HB.out.alloc HB.out.size _).grown HG1.out (by simp; omega) (fun q hq => (HO.out.blk q hq).1)⟩
      case measure => simp [intOf]; omega
    · obtain rfl : k = 64 := by omega
      go_wp2
      go_ret
      exact ⟨_, rfl, HO.out, HB.out⟩
end Go.Proofs.Ytclafljkeaekfaa
