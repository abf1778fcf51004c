/- The laws' own and same; when two nodes are alike. -/
import Derived.Test.YtlandlgjhnnaiaaPg18
set_option linter.unusedVariables false
set_option linter.unusedSimpArgs false
set_option maxRecDepth 100000
namespace Go.Proofs.Ytlandlgjhnnaiaa
open Go.RowKit
theorem l9_own (w : World) (A : Option Addr) (n c : Nat) (l : List UInt8) (hr : Rd w A n c l) (hn : n ≤ 140737488355328) :
    Calls Try.prog 22 #[.slice A n c] w fun e w' => ∃ u, e = .returned u ∧ Own w' w.heap.size u n l ∧ Below w.heap.size w w' := by
  have HR := Lib.hid hr
  have hl := Lib.hid hr.len
  clear hr
  go_enter Try.func22, Try.ntmps22
  go_wp2_with fail
  go_loopw [3, 4] (fun v x wx => ∃ k : Nat, k ≤ n ∧ x = .int .i64 k ∧ Own wx w.heap.size v k (l.take k) ∧ Below w.heap.size w wx) (fun _ x _ => n - (intOf x).toNat)
  case atStart => exact ⟨0, by omega, rfl, Own.nil _ _, Below.refl _ _⟩
  case round =>
    obtain ⟨k, hk, rfl, hO, hB⟩ := hrel
    have HO := Lib.hid hO
    have HB := Lib.hid hB
    have hz := hB.size
    clear hO hB
    by_cases hkn : k < n
    · obtain ⟨b, o, rfl, hc⟩ := (HR.out.ext HB.out).at_ (by omega)
      have hcell := hc k hkn
      obtain ⟨y, hy⟩ : ∃ y, y = l.getD k 0 := ⟨_, rfl⟩
      rw [← hy] at hcell
      have HST := Lib.hid (show l.take (k + 1) = l.take k ++ [y] by rw [hy]; exact take_snoc l k 0 (by rw [hl.out]; exact hkn))
      have hki : (0 : Int) ≤ (k : Int) ∧ (k : Int) < (n : Int) := by omega
      clear hc hy
      go_wp2_with (at_builtin; refine wp_app1 (w0 := w) w.heap.size y HO.out HB.out hz (by omega) _ _ rfl rfl rfl rfl ?_; intro v1 w1 hO1 hB1 hG1 hA1; have HO1 := Lib.hid hO1; have HB1 := Lib.hid hB1; clear hO1 hB1 hG1 hA1)
      go_roundw
      case rel => exact ⟨k + 1, by omega, by go_num, by rw [HST.out]; exact HO1.out, HB1.out⟩
      case measure => simp [intOf]; omega
    · obtain rfl : k = n := by omega
      have HT := Lib.hid (show l.take k = l from List.take_of_length_le (by rw [hl.out]; exact Nat.le_refl _))
      rw [HT.out] at HO
      go_wp2
      go_ret
      exact ⟨_, rfl, HO.out, HB.out⟩
theorem l9_same (A A' : Option Addr) (n c n' c' : Nat) (L L' : List UInt8) (w : World) (hr : Rd w A n c L) (hr' : Rd w A' n' c' L') :
    Calls Try.prog 20 #[.slice A n c, .slice A' n' c'] w fun e w' => e = .returned (.bool (decide (L = L'))) ∧ w' = w := by
  have h1 := hr.str
  have h2 := hr'.str
  obtain ⟨x, hx⟩ : ∃ x, x = bstr L := ⟨_, rfl⟩
  obtain ⟨y, hy⟩ : ∃ y, y = bstr L' := ⟨_, rfl⟩
  rw [← hx] at h1
  rw [← hy] at h2
  by_cases h : L = L'
  · have e1 : (x.toList == y.toList) = true := by rw [hx, hy, bstr_list', bstr_list']; exact beq_iff_eq.2 h
    rw [decide_eq_true h]
    clear hr hr' hx hy h
    go_enter Try.func20, Try.ntmps20
    go_wp2
    go_ret
    exact ⟨by first | (simp; done) | (simp; exact beq_iff_eq.1 e1), rfl⟩
  · have e1 : (x.toList == y.toList) = false := by rw [hx, hy, bstr_list', bstr_list']; exact beq_eq_false_iff_ne.2 h
    rw [decide_eq_false h]
    clear hr hr' hx hy h
    go_enter Try.func20, Try.ntmps20
    go_wp2
    go_ret
    exact ⟨by first | (simp; done) | (simp; exact beq_eq_false_iff_ne.1 e1), rfl⟩
instance : DecidableEq En := fun a b => decidable_of_iff (a.key = b.key ∧ a.val = b.val) ⟨fun h => by cases a; cases b; simp only [En.mk.injEq]; exact h, fun h => by subst h; exact ⟨rfl, rfl⟩⟩
theorem Nd_eq (a b : Nd) : (a.kind = b.kind ∧ a.next = b.next ∧ a.data = b.data ∧ a.ents = b.ents ∧ a.chs = b.chs ∧ a.keys = b.keys ∧ a.kids = b.kids) ↔ a = b := by
  constructor
  · rintro ⟨h1, h2, h3, h4, h5, h6, h7⟩
    cases a; cases b
    simp only [Nd.mk.injEq]
    exact ⟨h1, h4, h5, h6, h7, h2, h3⟩
  · intro h; subst h; exact ⟨rfl, rfl, rfl, rfl, rfl, rfl, rfl⟩
instance : DecidableEq Nd := fun a b => decidable_of_iff _ (Nd_eq a b)
theorem list_ne {α : Type} [BEq α] {l m : List α} (h : l.length ≠ m.length) : l ≠ m := fun e => h (by rw [e])
end Go.Proofs.Ytlandlgjhnnaiaa
