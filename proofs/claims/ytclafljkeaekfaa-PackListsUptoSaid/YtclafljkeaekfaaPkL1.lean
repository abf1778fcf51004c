/- The plain law of right values: their forms, how long they are, how a writer takes them. -/
import Derived.Test.YtclafljkeaekfaaPk10
set_option linter.unusedVariables false
set_option linter.unusedSimpArgs false
set_option maxRecDepth 100000
namespace Go.Proofs.Ytclafljkeaekfaa
open Go.RowKit
theorem rk_nat (r : Nat) (h : r < 6) : rk (r : Int) = r := by
  unfold rk
  rw [Int.natAbs_tmod]
  simp; omega
theorem rgt_rgt (x : ValV) : rgt (rgt x) = rgt x := by
  have h := rk_lt x.kind
  unfold rgt
  rcases (show rk x.kind = 0 ∨ rk x.kind = 1 ∨ rk x.kind = 2 ∨ rk x.kind = 3 ∨ rk x.kind = 4 ∨ rk x.kind = 5 by omega) with e | e | e | e | e | e
  all_goals (rw [e]; simp only [rk_nat 0 (by omega), rk_nat 1 (by omega), rk_nat 2 (by omega), rk_nat 3 (by omega), rk_nat 4 (by omega), rk_nat 5 (by omega)])
  · rfl
  · rfl
  · show (⟨2, 0, x.i % 2 % 2, _⟩ : ValV) = _
    rw [show x.i % 2 % 2 = x.i % 2 by omega]
  · show (⟨3, x.u % 256 % 256, 0, _⟩ : ValV) = _
    rw [show x.u % 256 % 256 = x.u % 256 by omega]
  · rfl
  · show (⟨5, 0, x.i % 8192 % 4097 % 8192 % 4097, _⟩ : ValV) = _
    rw [show x.i % 8192 % 4097 % 8192 % 4097 = x.i % 8192 % 4097 by omega]
/-- a right value -/
structure Rt (y : ValV) : Prop where
  ok : y.ok
  rt : rgt y = y
/-- what a right value is -/
theorem Rt.cases {y : ValV} (h : Rt y) : (∃ u, y = ⟨0, u, 0, ⟨#[]⟩⟩ ∧ u < 18446744073709551616) ∨ (∃ i, y = ⟨1, 0, i, ⟨#[]⟩⟩ ∧ -9223372036854775808 ≤ i ∧ i < 9223372036854775808) ∨ (∃ i, y = ⟨2, 0, i, ⟨#[]⟩⟩ ∧ (i = 0 ∨ i = 1)) ∨
    (∃ u, y = ⟨3, u, 0, ⟨#[]⟩⟩ ∧ u < 256) ∨ (∃ s, y = ⟨4, 0, 0, s⟩) ∨ (∃ i, y = ⟨5, 0, i, ⟨#[]⟩⟩ ∧ 0 ≤ i ∧ i ≤ 4096) := by
  have h1 := h.ok
  have h2 := h.rt
  have h3 := rk_lt y.kind
  unfold rgt at h2
  rcases (show rk y.kind = 0 ∨ rk y.kind = 1 ∨ rk y.kind = 2 ∨ rk y.kind = 3 ∨ rk y.kind = 4 ∨ rk y.kind = 5 by omega) with e | e | e | e | e | e
  all_goals (rw [e] at h2)
  · exact .inl ⟨_, h2.symm, h1.u⟩
  · exact .inr (.inl ⟨_, h2.symm, h1.i⟩)
  · exact .inr (.inr (.inl ⟨_, h2.symm, by omega⟩))
  · exact .inr (.inr (.inr (.inl ⟨_, h2.symm, by omega⟩)))
  · exact .inr (.inr (.inr (.inr (.inl ⟨_, h2.symm⟩))))
  · exact .inr (.inr (.inr (.inr (.inr ⟨_, h2.symm, by omega, by omega⟩))))
theorem Rt.preE {y : ValV} (h : Rt y) (e : Int) : preE e y = e := by
  rcases h.cases with ⟨u, rfl, _⟩ | ⟨i, rfl, _⟩ | ⟨i, rfl, _⟩ | ⟨u, rfl, _⟩ | ⟨s, rfl⟩ | ⟨i, rfl, h1, h2⟩
  · exact if_neg (by simp)
  · exact if_neg (by simp)
  · exact if_neg (by simp)
  · exact if_neg (by simp)
  · exact if_neg (by simp)
  · show (if (5 : Int) = 5 then cntE e i else e) = e
    rw [if_pos rfl, cntE, if_neg (by omega)]
theorem Rt.len {y : ValV} (h : Rt y) : (form y).length ≤ 10 + y.s.size ∧ 1 ≤ (form y).length := by
  rcases h.cases with ⟨u, rfl, _⟩ | ⟨i, rfl, _⟩ | ⟨i, rfl, _⟩ | ⟨u, rfl, _⟩ | ⟨s, rfl⟩ | ⟨i, rfl, h1, h2⟩
  · show (nf u).length ≤ 10 + 0 ∧ 1 ≤ (nf u).length
    have := nf_length_le u; have := nf_length_pos u; omega
  · show (nf (zz i)).length ≤ 10 + 0 ∧ 1 ≤ (nf (zz i)).length
    have := nf_length_le (zz i); have := nf_length_pos (zz i); omega
  · show [if i ≠ 0 then (1 : UInt8) else 0].length ≤ 10 + 0 ∧ 1 ≤ [if i ≠ 0 then (1 : UInt8) else 0].length
    simp
  · show [UInt8.ofNat u].length ≤ 10 + 0 ∧ 1 ≤ [UInt8.ofNat u].length
    simp
  · show (nf s.size ++ s.data.toList).length ≤ 10 + s.size ∧ 1 ≤ (nf s.size ++ s.data.toList).length
    have := nf_length_le s.size; have := nf_length_pos s.size
    rw [List.length_append, str_len]; omega
  · show (nf (cntN i)).length ≤ 10 + 0 ∧ 1 ≤ (nf (cntN i)).length
    have := nf_length_le (cntN i); have := nf_length_pos (cntN i); omega
theorem Rt.of (x : ValV) (h : x.ok) : Rt (rgt x) := ⟨rgt_ok x h, rgt_rgt x⟩
/-- what a list of right values takes at most -/
def bulk : List ValV → Nat
  | [] => 0
  | y :: r => 10 + y.s.size + bulk r
theorem sml_bulk : ∀ (l : List ValV) (sum : Nat), sum ≤ 1048576 → sum + bulk (sml l sum) ≤ 1048576
  | [], sum, h => by simpa [sml, bulk] using h
  | x :: r, sum, h => by
    rw [sml]
    split
    · simpa [bulk] using h
    · rename_i hb
      have := sml_bulk r (sum + 10 + (rgt x).s.size) (by omega)
      rw [bulk]; omega
theorem sml_rt : ∀ (l : List ValV) (sum : Nat), (∀ x ∈ l, x.ok) → ∀ y ∈ sml l sum, Rt y
  | [], sum, _, y, hy => by simp [sml] at hy
  | x :: r, sum, h, y, hy => by
    rw [sml] at hy
    split at hy
    · simp at hy
    · rcases List.mem_cons.1 hy with rfl | hy
      · exact Rt.of x (h x (by simp))
      · exact sml_rt r _ (fun z hz => h z (by simp [hz])) y hy
theorem bulk_at : ∀ (l : List ValV) (k : Nat), k < l.length → 10 + (l.getD k default).s.size ≤ bulk l
  | [], k, h => by simp at h
  | y :: r, 0, h => by simp [bulk]
  | y :: r, k + 1, h => by
    have := bulk_at r k (by simpa using h)
    rw [bulk]; simp only [List.getD_cons_succ]; omega
theorem bulk_len : ∀ (l : List ValV), 10 * l.length ≤ bulk l
  | [] => by simp
  | y :: r => by have := bulk_len r; rw [bulk]; simp; omega
/-- a right value in a writer -/
theorem Rt.fits {y : ValV} (h : Rt y) {lim : Nat} {L : List UInt8} (hf : L.length + (form y).length ≤ lim) : stL lim L 0 y = L ++ form y ∧ stE lim L 0 y = 0 := by
  unfold stL stE; rw [h.preE]; exact lay_fits hf
theorem Rt.long {y : ValV} (h : Rt y) {lim : Nat} {L : List UInt8} (hf : lim < L.length + (form y).length) : stL lim L 0 y = L ∧ stE lim L 0 y = 23 := by
  unfold stL stE; rw [h.preE]; exact lay_long hf
theorem Rt.stuck {y : ValV} (h : Rt y) {lim : Nat} {L : List UInt8} {e : Int} (he : e ≠ 0) : stL lim L e y = L ∧ stE lim L e y = e := by
  unfold stL stE; rw [h.preE]; exact lay_stuck he
theorem Rt.wrn_one {y : ValV} (h : Rt y) (hl : 10 + y.s.size ≤ 1048576) : wrn 1048576 [y] 1 = (form y, 0) := by
  have h1 := h.len
  have := h.fits (lim := 1048576) (L := []) (by simp; omega)
  show (stL 1048576 [] 0 y, stE 1048576 [] 0 y) = _
  rw [this.1, this.2]; rfl
theorem RdV.keep {w w' : World} {A : Option Addr} {n c : Nat} {l : List ValV} {S : List Nat} (h : RdV w A n c l) (hw : Only S w w') (hs : ∀ p, A = some p → p.block ∉ S) : RdV w' A n c l :=
  ⟨h.len, h.cap, h.max, h.ok, fun hn => by
    obtain ⟨b, o, e, hc⟩ := h.at_ hn
    have hb : b ∉ S := hs ⟨b, o, none⟩ e
    have key : ∀ i u, w.cell? ⟨b, i, none⟩ = some u → w'.cell? ⟨b, i, none⟩ = some u := fun i u h1 => by
      have h4 := hw.blk b (World.block_lt_of_cell? w _ h1) hb
      simp only [World.cell?] at h1 ⊢
      rw [h4]
      exact h1
    exact ⟨b, o, e, fun j hj => ⟨key _ _ (hc j hj).1, key _ _ (hc j hj).2.1, key _ _ (hc j hj).2.2.1, key _ _ (hc j hj).2.2.2⟩⟩⟩
/-- one element, as a list of its own -/
theorem RdV.one {w : World} {bb oo n c : Nat} {l : List ValV} (h : RdV w (some ⟨bb, oo, none⟩) n c l) (k : Nat) (hk : k < n) : RdV w (some ⟨bb, oo + k * 4, none⟩) 1 (c - k) [l.getD k default] := by
  have h1 := h.cap
  refine ⟨rfl, by omega, by omega, fun y hy => ?_, fun _ => ⟨bb, oo + k * 4, rfl, fun j hj => ?_⟩⟩
  · simp at hy; subst hy
    have := okV h.ok k (by rw [h.len]; exact hk)
    simpa using this
  · obtain rfl : j = 0 := by omega
    obtain ⟨b, o, e, hc⟩ := h.at_ (by omega)
    injection e with e
    injection e with e1 e2
    subst e1 e2
    simpa using hc k hk
end Go.Proofs.Ytclafljkeaekfaa
