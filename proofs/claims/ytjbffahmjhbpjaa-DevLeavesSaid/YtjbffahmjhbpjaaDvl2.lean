/- The laws' own helpers over the device: same. -/
import Derived.Test.YtjbffahmjhbpjaaDvl1
import Derived.Laws.Cover1
set_option linter.unusedVariables false
set_option linter.unusedSimpArgs false
set_option maxRecDepth 100000
namespace Go.Proofs.Ytjbffahmjhbpjaa
open Go.RowKit
theorem bstr_list (l : List UInt8) : (bstr l).toList = l := by rw [ByteArray.toList_eq]; rfl
theorem l6_same (A A' : Option Addr) (n c n' c' : Nat) (L L' : List UInt8) (w : World) (hr : Rd w A n c L) (hr' : Rd w A' n' c' L') :
    Calls Try.prog 17 #[.slice A n c, .slice A' n' c'] w fun e w' => e = .returned (.bool (decide (L = L'))) ∧ w' = w := by
  have h1 := hr.str
  have h2 := hr'.str
  obtain ⟨x, hx⟩ : ∃ x, x = bstr L := ⟨_, rfl⟩
  obtain ⟨y, hy⟩ : ∃ y, y = bstr L' := ⟨_, rfl⟩
  rw [← hx] at h1
  rw [← hy] at h2
  by_cases h : L = L'
  · have e1 : (x.toList == y.toList) = true := by rw [hx, hy, bstr_list, bstr_list]; exact beq_iff_eq.2 h
    rw [decide_eq_true h]
    clear hr hr' hx hy h
    go_enter Try.func17, Try.ntmps17
    go_wp2
    go_ret
    exact ⟨by first | (simp; done) | (simp; exact beq_iff_eq.1 e1), rfl⟩
  · have e1 : (x.toList == y.toList) = false := by rw [hx, hy, bstr_list, bstr_list]; exact beq_eq_false_iff_ne.2 h
    rw [decide_eq_false h]
    clear hr hr' hx hy h
    go_enter Try.func17, Try.ntmps17
    go_wp2
    go_ret
    exact ⟨by first | (simp; done) | (simp; exact beq_eq_false_iff_ne.1 e1), rfl⟩
end Go.Proofs.Ytjbffahmjhbpjaa
