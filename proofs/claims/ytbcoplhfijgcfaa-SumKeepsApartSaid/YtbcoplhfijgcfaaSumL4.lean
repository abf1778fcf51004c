/- Walks of the laws' helpers roomy and marked. -/
import Derived.Test.YtbcoplhfijgcfaaSumL1
set_option linter.unusedVariables false
set_option linter.unusedSimpArgs false
namespace Go.Proofs.Ytbcoplhfijgcfaa
open Go.RowKit SumMath
def marks3 : List UInt8 := [171, 172, 173]
theorem law_roomy (A : Option Addr) (n c : Nat) (l : List UInt8) (w : World) (hr : Rd w A n c l) (hn : n + 3 ≤ 140737488355328) :
    Calls Try.prog 29 #[.slice A n c] w fun e w' => ∃ g cap, e = .returned (.slice (some ⟨g, 0, none⟩) n cap) ∧ Own w' w.heap.size (.slice (some ⟨g, 0, none⟩) (n + 3) cap) (n + 3) (l ++ marks3) ∧ Below w.heap.size w w' := by
  have HR := Lib.hid hr
  clear hr
  go_enter Try.func29, Try.ntmps29
  go_wp2_with fail
  refine (law_dup _ _ _ l _ HR.out).mono ?_
  rintro e w1 ⟨v, rfl, hO, hb⟩
  have HO := Lib.hid hO
  have hz := hb.size
  clear hO
  go_wp2_with (at_builtin; refine wp_app (w0 := w) (ys := marks3) w.heap.size (HO.out.alloc _) (by exact Rd.lit w1 [171, 172, 173] 3 rfl (by decide)) (hb.alloc hz _) (by simp; omega) (by omega) _ _ rfl rfl rfl rfl ?_; intro v1 w2 hO1 hB1 hG1 hat1; clear hG1 hat1; obtain ⟨g, cap, rfl, hg1, hg2⟩ := hO1.form (by omega); have HO1 := Lib.hid hO1; have HC := Lib.hid (show n ≤ cap by obtain ⟨A9, c9, h9, h9'⟩ := hO1.rd (by omega); injection h9 with h91 h92 h93; subst h93; have := h9'.cap; omega); clear hO1)
  have hnc := HC.out
  go_wp2
  go_ret
  exact ⟨g, cap, rfl, HO1.out, hB1⟩
theorem marks_get (l : List UInt8) (n j : Nat) (h : l.length = n) : (l ++ marks3).getD (n + j) 0 = marks3.getD j 0 := by
  rw [List.getD_eq_getElem?_getD, List.getElem?_append_right (by omega), ← List.getD_eq_getElem?_getD]
  congr 1; omega
theorem law_marked (g n cap : Nat) (A : Option Addr) (c : Nat) (l : List UInt8) (w : World) (hr : Rd w (some ⟨g, 0, none⟩) (n + 3) cap (l ++ marks3)) (hr' : Rd w A n c l) :
    Calls Try.prog 30 #[.slice (some ⟨g, 0, none⟩) n cap, .slice A n c] w fun e w' => e = .returned (.bool true) ∧ w' = w := by
  have hcap := hr.cap
  have hmx := hr.max
  have HR := Lib.hid (show Rd w (some ⟨g, 0, none⟩) n cap l by have := hr.take n (by omega); rwa [List.take_append_of_le_length (by rw [hr'.len]; exact Nat.le_refl _), List.take_of_length_le (by rw [hr'.len]; exact Nat.le_refl _)] at this)
  have HR' := Lib.hid hr'
  obtain ⟨b', o', hbo, hc⟩ := hr.at_ (by omega)
  injection hbo with hbo
  injection hbo with hb1 ho1
  subst hb1 ho1
  have m0 := hc n (by omega)
  have m1 := hc (n + 1) (by omega)
  have m2 := hc (n + 2) (by omega)
  have e0 := marks_get l n 0 hr'.len
  rw [Nat.add_zero] at e0
  rw [e0] at m0
  rw [marks_get l n 1 hr'.len] at m1
  rw [marks_get l n 2 hr'.len] at m2
  simp only [marks3, List.getD_cons_zero, List.getD_cons_succ, Nat.zero_add] at m0 m1 m2
  have q0 : w.cell? ⟨g, n, none⟩ = some (.int .u8 171) := m0
  have q1 : w.cell? ⟨g, n + 1, none⟩ = some (.int .u8 172) := m1
  have q2 : w.cell? ⟨g, n + 2, none⟩ = some (.int .u8 173) := m2
  clear hr hr' hc m0 m1 m2 e0
  go_enter Try.func30, Try.ntmps30
  go_wp2_with (go_at_call 17; refine (law_same_true _ _ _ _ _ _ l _ HR.out HR'.out).mono ?_; rintro e w' ⟨rfl, rfl⟩)
  go_ret
  exact ⟨rfl, rfl⟩
end Go.Proofs.Ytbcoplhfijgcfaa
