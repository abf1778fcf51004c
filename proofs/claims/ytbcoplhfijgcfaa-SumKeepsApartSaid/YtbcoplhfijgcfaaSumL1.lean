/- Walks of the laws' helpers dup and same. -/
import Derived.Test.YtbcoplhfijgcfaaSumW5
import Derived.Test.YtbcoplhfijgcfaaOwn
set_option linter.unusedVariables false
set_option linter.unusedSimpArgs false
namespace Go.Proofs.Ytbcoplhfijgcfaa
open Go.RowKit SumMath
theorem law_dup (A : Option Addr) (n c : Nat) (l : List UInt8) (w : World) (hr : Rd w A n c l) :
    Calls Try.prog 14 #[.slice A n c] w fun e w' => ∃ v, e = .returned v ∧ Own w' w.heap.size v n l ∧ Below w.heap.size w w' := by
  have hm := hr.max
  have HR := Lib.hid hr
  clear hr
  go_enter Try.func14, Try.ntmps14
  go_wp2_with (at_builtin; refine wp_app w.heap.size (Own.nil _ _) HR.out (Below.refl _ _) (Nat.le_refl _) (by omega) _ _ rfl rfl rfl rfl ?_; intro v1 w1 hO hB hG hat; rw [Nat.zero_add, List.nil_append] at hO; have HO := Lib.hid hO; clear hO)
  go_ret
  exact ⟨_, rfl, HO.out, hB⟩
theorem toByteArray_ext {a b : ByteArray} (h : a.data.toList = b.data.toList) : a = b := by
  cases a; cases b; congr 1; exact Array.toList_inj.1 h
theorem law_same (A A' : Option Addr) (n c n' c' : Nat) (l l' : List UInt8) (w : World) (hr : Rd w A n c l) (hr' : Rd w A' n' c' l') :
    Calls Try.prog 17 #[.slice A n c, .slice A' n' c'] w fun e w' => e = .returned (.bool (decide (l = l'))) ∧ w' = w := by
  have h1 := hr.str
  have h2 := hr'.str
  clear hr hr'
  generalize hs : bstr l = s at *
  generalize hs' : bstr l' = s' at *
  have HS := Lib.hid hs
  have HS' := Lib.hid hs'
  clear hs hs'
  go_enter Try.func17, Try.ntmps17
  go_wp2
  go_ret
  refine ⟨congrArg (fun b => Ending.returned (.bool b)) ?_, rfl⟩
  rw [← HS.out, ← HS'.out, ByteArray.toList_eq, ByteArray.toList_eq]
  rw [Bool.eq_iff_iff]
  simp [bstr]
theorem law_same_true (A A' : Option Addr) (n c n' c' : Nat) (l : List UInt8) (w : World) (hr : Rd w A n c l) (hr' : Rd w A' n' c' l) :
    Calls Try.prog 17 #[.slice A n c, .slice A' n' c'] w fun e w' => e = .returned (.bool true) ∧ w' = w := by
  have := law_same A A' n c n' c' l l w hr hr'
  rwa [decide_eq_true (rfl : l = l)] at this
end Go.Proofs.Ytbcoplhfijgcfaa
