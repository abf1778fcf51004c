/- SpacePlays, plain: what New lays. -/
import Derived.Test.YtodondpggkohjaaSpR
import Derived.Test.YtodondpggkohjaaSp4
set_option linter.unusedVariables false
set_option linter.unusedSimpArgs false
namespace Go.Proofs.Ytodondpggkohjaa
open Go.RowKit
theorem sel_nk (p : Int → Bool) (h0 : p 0 = false) (h2 : p 2 = true) (first blocks : Nat) (l : List Int) (hfb : first ≤ blocks) : ∀ k, k ≤ l.length → (∀ i, i < k → tok l first blocks i = true) → sel p first (nk l first (blocks - first) k) (blocks - first) = l.take k
  | 0, _, _ => by
    rw [List.take_zero, nk]
    have h := sel_zeros p h0 first (List.replicate (blocks - first) 0) 0 (blocks - first) (fun j _ _ => by
      rw [List.getD_eq_getElem?_getD, List.getElem?_replicate]; split <;> rfl)
    rw [Nat.zero_add] at h
    rw [h]; rfl
  | k + 1, hk, h => by
    have ih := sel_nk p h0 h2 first blocks l hfb k (by omega) (fun i hi => h i (by omega))
    have ht := of_decide_eq_true (h k (by omega))
    obtain ⟨m, hm⟩ : ∃ m, m = blocks - first := ⟨_, rfl⟩
    rw [← hm] at ih ⊢
    obtain ⟨i, hi⟩ : ∃ i : Nat, l.getD k 0 - first = i := ⟨(l.getD k 0 - first).toNat, by omega⟩
    have him : i < m := by omega
    have hz := nk_zero l first blocks m k (fun j hj => h j (by omega))
    have hlow : 0 < k → (l.getD (k - 1) 0 - first).toNat < i := fun hp => by
      have h1 := ht.2.2 hp
      have h3 := of_decide_eq_true (h (k - 1) (by omega))
      omega
    have hlen := nk_length l first m k
    rw [nk, show (l.getD k 0 - first).toNat = i by omega]
    have hput := sel_put p first (nk l first m k) i 2 h2 (by rw [hlen]; exact him) (by rw [hz i hlow]; exact h0)
    rw [hlen] at hput
    rw [hput]
    have hsel : sel p first (nk l first m k) i = l.take k := by
      obtain ⟨d, hd⟩ : ∃ d, m = i + d := ⟨m - i, by omega⟩
      rw [← ih, hd]
      rw [hd] at hz
      exact (sel_zeros p h0 first (nk l first (i + d) k) i d (fun j h1 h3 => hz j (fun hp => by have := hlow hp; omega))).symm
    rw [hsel, ih, List.drop_eq_nil_of_le (by omega), List.take_succ_eq_append_getElem (by omega)]
    congr 2
    have : l.getD k 0 = l[k] := by rw [List.getD_eq_getElem?_getD, List.getElem?_eq_getElem (by omega)]; rfl
    omega
theorem st4_nk (l : List Int) (first m : Nat) : ∀ k, St4 (nk l first m k)
  | 0 => fun i hi => by
    rw [nk, List.getD_eq_getElem?_getD, List.getElem?_replicate]; split <;> decide
  | k + 1 => st4_set (st4_nk l first m k) _ _ (by decide)
end Go.Proofs.Ytodondpggkohjaa
