/- Walks of the laws' helpers: own, same. -/
import Derived.Test.YtclafljkeaekfaaPkL2
set_option linter.unusedVariables false
set_option linter.unusedSimpArgs false
set_option maxRecDepth 100000
namespace Go.Proofs.Ytclafljkeaekfaa
open Go.RowKit
theorem l2_same (A A' : Option Addr) (n c n' c' : Nat) (l l' : List UInt8) (w : World) (hr : Rd w A n c l) (hr' : Rd w A' n' c' l') :
    Calls Try.prog 16 #[.slice A n c, .slice A' n' c'] w fun e w' => e = .returned (.bool (decide (l = l'))) ∧ w' = w := by
  have h1 := hr.str
  have h2 := hr'.str
  clear hr hr'
  generalize hs : bstr l = s at *
  generalize hs' : bstr l' = s' at *
  have HS := Lib.hid hs
  have HS' := Lib.hid hs'
  clear hs hs'
  go_enter Try.func16, Try.ntmps16
  go_wp2
  go_ret
  refine ⟨congrArg (fun b => Ending.returned (.bool b)) ?_, rfl⟩
  rw [← HS.out, ← HS'.out, ByteArray.toList_eq, ByteArray.toList_eq]
  rw [Bool.eq_iff_iff]
  simp [bstr]
theorem l2_own (A : Option Addr) (n c : Nat) (l : List UInt8) (w : World) (hr : Rd w A n c l) :
    Calls Try.prog 43 #[.slice A n c] w fun e w' => ∃ u, e = .returned u ∧ Own w' w.heap.size u n l ∧ Below w.heap.size w w' := by
  have HR := Lib.hid hr
  have hmx := hr.max
  have HL := Lib.hid hr.len
  clear hr
  go_enter Try.func43, Try.ntmps43
  go_wp2_with fail
  go_loopw [3, 4] (fun v x wr => ∃ k : Nat, k ≤ n ∧ x = .int .i64 k ∧ Own wr w.heap.size v k (l.take k) ∧ Below w.heap.size w wr) (fun _ x _ => n - (intOf x).toNat)
  case atStart => exact ⟨0, by omega, rfl, Own.nil _ _, Below.refl _ _⟩
  case round =>
    obtain ⟨k, hk, rfl, hO, hB⟩ := hrel
    have HO := Lib.hid hO
    have HB := Lib.hid hB
    have hz := hB.size
    clear hO hB
    by_cases hkn : k < n
    · obtain ⟨bb, oo, rfl, hc⟩ := HR.out.at_ (by omega)
      have hc := cell_ext (w' := wr) (w := w) (hb := (HB.out)) (hc k hkn)
      obtain ⟨x, hx⟩ : ∃ x, x = l.getD k 0 := ⟨_, rfl⟩
      rw [← hx] at hc
      have HT := Lib.hid (show l.take (k + 1) = l.take k ++ [x] by rw [hx]; exact take_snoc l k 0 (by rw [HL.out]; exact hkn))
      clear hx
      go_wp2_with (at_builtin; refine wp_appB w.heap.size (HO.out.alloc _) (Rd.lit wr [x] 1 rfl (by omega)) (by simp; omega) (by omega) _ _ rfl rfl rfl rfl ?_; intro v1 w1 hO1 hG1 hA1; have HO1 := Lib.hid hO1; have HG1 := Lib.hid hG1; clear hO1 hG1 hA1)
      go_roundw
      case rel => exact ⟨k + 1, by omega, by go_num, by rw [HT.out]; exact HO1.out, (HB.out.alloc HB.out.size _).grown HG1.out (by simp; omega) (fun q hq => (HO.out.blk q hq).1)⟩
      case measure => simp [intOf]; omega
    · obtain rfl : n = k := by omega
      have HT := Lib.hid (show l.take n = l from List.take_of_length_le (by rw [HL.out]; omega))
      go_wp2
      go_ret
      exact ⟨_, rfl, by rw [← HT.out]; exact HO.out, HB.out⟩
theorem RdV.lit (w : World) (x : ValV) (hx : x.ok) : RdV (w.alloc (.cells #[.int .i64 x.kind, .int .u64 x.u, .int .i64 x.i, .string x.s] 27)) (some ⟨w.heap.size, 0, none⟩) 1 1 [x] :=
  ⟨rfl, Nat.le_refl _, by omega, fun y hy => by simp at hy; subst hy; exact hx, fun _ => ⟨_, _, rfl, fun j hj => by
    obtain rfl : j = 0 := by omega
    simp only [cell_of_row _ _ _ _ _ _ (heap_alloc_new w _)]
    exact ⟨rfl, rfl, rfl, rfl⟩⟩⟩
theorem Rt.wrn_fit {y : ValV} (h : Rt y) (hl : (form y).length ≤ 1048576) : wrn 1048576 [y] 1 = (form y, 0) := by
  have := h.fits (lim := 1048576) (L := []) (by simpa using hl)
  show (stL 1048576 [] 0 y, stE 1048576 [] 0 y) = _
  rw [this.1, this.2]; rfl
theorem Rt.short {y : ValV} (h : Rt y) (hs : y.s.size ≤ 1048573) : (form y).length ≤ 1048576 := by
  rcases h.cases with ⟨u, rfl, _⟩ | ⟨i, rfl, _⟩ | ⟨i, rfl, _⟩ | ⟨u, rfl, _⟩ | ⟨s, rfl⟩ | ⟨i, rfl, h1, h2⟩
  · have := h.len.1; rw [show (⟨0, u, 0, ⟨#[]⟩⟩ : ValV).s.size = 0 from rfl] at this; omega
  · have := h.len.1; rw [show (⟨1, 0, i, ⟨#[]⟩⟩ : ValV).s.size = 0 from rfl] at this; omega
  · have := h.len.1; rw [show (⟨2, 0, i, ⟨#[]⟩⟩ : ValV).s.size = 0 from rfl] at this; omega
  · have := h.len.1; rw [show (⟨3, u, 0, ⟨#[]⟩⟩ : ValV).s.size = 0 from rfl] at this; omega
  · show (nf s.size ++ s.data.toList).length ≤ 1048576
    have h2 : s.size ≤ 1048573 := hs
    have := nf_short s.size (by omega)
    rw [List.length_append, str_len]; omega
  · have := h.len.1; rw [show (⟨5, 0, i, ⟨#[]⟩⟩ : ValV).s.size = 0 from rfl] at this; omega
theorem run_field0 (a0 a1 a2 a3 : Value) (W : World) : (Instr.field 27 (.agg #[a0, a1, a2, a3]) 0).run Try.prog W = .ok a0 W := by
  simp [Instr.field, run_underlying Try.underlying27, asAgg, go_sem]
theorem rgt_kind (x : ValV) : ∃ r : Nat, r < 6 ∧ (rgt x).kind = (r : Int) := by
  have h := rk_lt x.kind
  refine ⟨rk x.kind, h, ?_⟩
  unfold rgt
  rcases (show rk x.kind = 0 ∨ rk x.kind = 1 ∨ rk x.kind = 2 ∨ rk x.kind = 3 ∨ rk x.kind = 4 ∨ rk x.kind = 5 by omega) with e | e | e | e | e | e <;> rw [e] <;> rfl
end Go.Proofs.Ytclafljkeaekfaa
