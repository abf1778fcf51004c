/- SpacePlays: a step on both spaces. -/
import Derived.Test.YtodondpggkohjaaSpQ4
import Derived.Test.YtodondpggkohjaaSpR2
import Derived.Test.YtodondpggkohjaaSpL1
import Derived.Deep.RegionHeld3
set_option linter.unusedVariables false
set_option linter.unusedSimpArgs false
set_option maxRecDepth 100000
namespace Go.Proofs.Ytodondpggkohjaa
open Go.RowKit
theorem frN_count {first : Nat} {is : List Int} (h : St4 is) : ∀ k, k ≤ is.length → frN first (sel pW first is is.length) (sel pT first is is.length) k = (is.take k).count 0
  | 0, _ => by simp [frN]
  | k + 1, hk => by
    rw [frN, frN_count h k (by omega), count_take is k (by omega)]
    have hf := free_iff (first := first) h k (by omega)
    by_cases h0 : is.getD k 0 = 0
    · rw [if_pos (hf.2 h0), if_pos h0]
    · rw [if_neg (fun hx => h0 (hf.1 hx)), if_neg h0]; rfl
/-- a space of the program's and one of the reference's, in the same state -/
structure Pr (D : List Nat) (w : World) (b g r first N : Nat) (is : List Int) : Prop where
  sp : IsSp w b g first is
  n : N = first + is.length
  st : St4 is
  rs : RsOk D w r N first (sel pW first is is.length) (sel pT first is is.length)
  dr : r ∈ D
  db : b ∈ D
  dg : g ∈ D
  lt : ∀ k ∈ D, k < w.heap.size
  rb : r ≠ b
  rg : r ≠ g
theorem Pr.only {D S : List Nat} {w w' : World} {b g r first N : Nat} {is : List Int} (h : Pr D w b g r first N is) (hw : Only S w w') (hS : ∀ k ∈ S, k ∈ D) (h1 : b ∉ S) (h2 : g ∉ S) (h3 : r ∉ S) : Pr D w' b g r first N is :=
  ⟨h.sp.only hw h1 h2, h.n, h.st, h.rs.only hw h3 hS, h.dr, h.db, h.dg, fun k hk => Nat.lt_of_lt_of_le (h.lt k hk) hw.size, h.rb, h.rg⟩
theorem Pr.ext {D : List Nat} {w w' : World} {b g r first N : Nat} {is : List Int} (h : Pr D w b g r first N is) (hb : Below w.heap.size w w') : Pr D w' b g r first N is := h.only (Only.of_below [] hb) (by simp) (by simp) (by simp) (by simp)
theorem Pr.small {D : List Nat} {w : World} {b g r first N : Nat} {is : List Int} (h : Pr D w b g r first N is) : first ≤ N ∧ N ≤ 8192 := by
  have h1 := h.sp.small
  have h2 := h.n
  omega
theorem Pr.len {D : List Nat} {w : World} {b g r first N : Nat} {is : List Int} (h : Pr D w b g r first N is) (p : Int → Bool) : (sel p first is is.length).length ≤ 4096 := Nat.le_trans (sel_length p first is is.length) h.sp.small.1
/-- the least free block -/
theorem least0 : ∀ (is : List Int), (∃ i, i < is.length ∧ is.getD i 0 = 0) → ∃ i, i < is.length ∧ is.getD i 0 = 0 ∧ ∀ j, j < i → is.getD j 0 ≠ 0
  | [], h => by obtain ⟨i, hi, _⟩ := h; simp at hi
  | x :: r, h => by
    by_cases hx : x = 0
    · exact ⟨0, by simp, by simpa using hx, fun j hj => by omega⟩
    · obtain ⟨i, hi, h0⟩ := h
      cases i with
      | zero => simp at h0; exact absurd h0 hx
      | succ i =>
        obtain ⟨j, hj, hj0, hjl⟩ := least0 r ⟨i, by simpa using hi, by simpa using h0⟩
        refine ⟨j + 1, by simpa using hj, by simpa using hj0, fun k hk => ?_⟩
        cases k with
        | zero => simpa using hx
        | succ k => simpa using hjl k (by omega)
section
variable {D : List Nat} {w : World} {b g r first N : Nat} {is : List Int}
/-- both Takes -/
theorem pr_Take (h : Pr D w b g r first N is) (hN : N ≤ 4096) : ∃ x e is',
    (Calls Try.prog 21 #[.pointer (some ⟨b, 0, none⟩)] w fun E w' => E = .returned (.tuple #[.int .i64 x, .int .i64 e]) ∧ IsSp w' b g first is' ∧ Only [b, g] w w') ∧
    ∀ w1, IsSp w1 b g first is' → Only [b, g] w w1 → Calls Try.prog 28 #[.pointer (some ⟨r, 0, none⟩)] w1 fun E w' => E = .returned (.tuple #[.int .i64 x, .int .i64 e]) ∧ Pr D w' b g r first N is' ∧ Only [b, g, r] w w' := by
  have hs := h.small
  have hsub : ∀ k ∈ [b, g], k ∈ D := by
    intro k hk
    simp only [List.mem_cons, List.not_mem_nil, or_false] at hk
    rcases hk with rfl | rfl
    · exact h.db
    · exact h.dg
  have hrn : r ∉ [b, g] := by simp only [List.mem_cons, List.not_mem_nil, or_false]; exact fun e => e.elim h.rb h.rg
  by_cases hex : ∃ i, i < is.length ∧ is.getD i 0 = 0
  · obtain ⟨i, hi, h0, hlow⟩ := least0 is hex
    refine ⟨((first + i : Nat) : Int), 0, is.set i 1, sp_Take_ok b g first is w h.sp i hi h0 hlow, fun w1 hI hO => ?_⟩
    have hR := h.rs.only hO hrn hsub
    have hlt : ∀ k ∈ D, k < w1.heap.size := fun k hk => Nat.lt_of_lt_of_le (h.lt k hk) hO.size
    refine (rs_Take_ok i (first + i) rfl hR h.dr hlt hN (by rw [h.n]; omega) ((free_iff h.st i hi).2 h0) (fun j hj hx => hlow j hj ((free_iff h.st j (by omega)).1 hx)) (by have := h.len pT; omega)).mono ?_
    rintro E w' ⟨rfl, hr', ho⟩
    obtain ⟨d, hd⟩ : ∃ d, is.length = i + d := ⟨is.length - i, by omega⟩
    have hb := sel_below pT first is i d
    rw [← hd] at hb
    rw [hb, ← sel_take first is i hi h0] at hr'
    have hw := selW_set first is i 0 1 hi h0 (by decide)
    have ho2 : Only [b, g, r] w w' := (hO.mono (by simp)).trans (ho.mono (by simp))
    refine ⟨rfl, ⟨hI.only ho (by simpa using fun e => h.rb e.symm) (by simpa using fun e => h.rg e.symm), by rw [List.length_set]; exact h.n, st4_set h.st i 1 (by decide), ?_, h.dr, h.db, h.dg, fun k hk => Nat.lt_of_lt_of_le (hlt k hk) ho.size, h.rb, h.rg⟩, ho2⟩
    rw [List.length_set, hw]
    exact hr'
  · have hno : ∀ j, j < is.length → is.getD j 0 ≠ 0 := fun j hj h0 => hex ⟨j, hj, h0⟩
    refine ⟨-1, 3, is, (sp_Take_none b g first is w h.sp hno).mono ?_, fun w1 hI hO => ?_⟩
    · rintro E w' ⟨rfl, rfl⟩; exact ⟨rfl, h.sp, Only.refl _ _⟩
    have hR := h.rs.only hO hrn hsub
    refine (rs_Take_none hR hs.1 hN (fun j hj hx => hno j (by have := h.n; omega) ((free_iff h.st j (by have := h.n; omega)).1 hx))).mono ?_
    rintro E w' ⟨rfl, rfl⟩
    exact ⟨rfl, ⟨hI, h.n, h.st, hR, h.dr, h.db, h.dg, fun k hk => Nat.lt_of_lt_of_le (h.lt k hk) hO.size, h.rb, h.rg⟩, hO.mono (by simp)⟩
/-- Give of the reference, behind that of the program -/
theorem pr_Give (h : Pr D w b g r first N is) (hN : N ≤ 4096) (blk : Int) (w1 : World) (hI : IsSp w1 b g first (giveS first is blk)) (hO : Only [b, g] w w1) :
    Calls Try.prog 29 #[.pointer (some ⟨r, 0, none⟩), .int .i64 blk] w1 fun E w' => E = .returned (.int .i64 (giveE first is blk)) ∧ Pr D w' b g r first N (giveS first is blk) ∧ Only [b, g, r] w w' := by
  have hsub : ∀ k ∈ [b, g], k ∈ D := by
    intro k hk
    simp only [List.mem_cons, List.not_mem_nil, or_false] at hk
    rcases hk with rfl | rfl
    · exact h.db
    · exact h.dg
  have hrn : r ∉ [b, g] := by simp only [List.mem_cons, List.not_mem_nil, or_false]; exact fun e => e.elim h.rb h.rg
  have hR := h.rs.only hO hrn hsub
  have hlt : ∀ k ∈ D, k < w1.heap.size := fun k hk => Nat.lt_of_lt_of_le (h.lt k hk) hO.size
  have hsame : giveS first is blk = is → Pr D w1 b g r first N (giveS first is blk) := fun e => by
    rw [e] at hI ⊢
    exact ⟨hI, h.n, h.st, hR, h.dr, h.db, h.dg, hlt, h.rb, h.rg⟩
  by_cases hok : (first : Int) ≤ blk ∧ blk - first < is.length
  rotate_left
  · obtain ⟨e1, e2⟩ := give_bad hok
    rw [e1]
    refine (rs_Give_bad blk hR (by rw [h.n]; omega)).mono ?_
    rintro E w' ⟨rfl, rfl⟩
    exact ⟨rfl, hsame e2, hO.mono (by simp)⟩
  obtain ⟨i, hi⟩ : ∃ i : Nat, blk - first = i := ⟨(blk - first).toNat, by omega⟩
  have hil : i < is.length := by omega
  have hbk : blk = ((first + i : Nat) : Int) := by omega
  obtain ⟨e1, e2⟩ := give_ok hi hil
  have hmem : blk ∈ sel pT first is is.length ↔ pT (is.getD i 0) = true := by rw [hbk]; exact mem_sel_at hil
  have hin : (first : Int) ≤ blk ∧ blk < (N : Int) := by rw [h.n]; omega
  have gave : ∀ v, pT v = false → 0 ≤ v ∧ v ≤ 3 → pW (is.getD i 0) = pW v → pT (is.getD i 0) = true → giveE first is blk = 0 → giveS first is blk = is.set i v → Calls Try.prog 29 #[.pointer (some ⟨r, 0, none⟩), .int .i64 blk] w1 fun E w' => E = .returned (.int .i64 (giveE first is blk)) ∧ Pr D w' b g r first N (giveS first is blk) ∧ Only [b, g, r] w w' := fun v hv hv2 hw hp a1 a2 => by
    rw [a1]
    rw [a2] at hI ⊢
    refine (rs_Give_ok blk hR h.dr hlt hin (hmem.2 hp) (by have := h.len pT; omega)).mono ?_
    rintro E w' ⟨rfl, hr', ho⟩
    refine ⟨rfl, ⟨hI.only ho (by simpa using fun e => h.rb e.symm) (by simpa using fun e => h.rg e.symm), by rw [List.length_set]; exact h.n, st4_set h.st i v hv2, ?_, h.dr, h.db, h.dg, fun k hk => Nat.lt_of_lt_of_le (hlt k hk) ho.size, h.rb, h.rg⟩, (hO.mono (by simp)).trans (ho.mono (by simp))⟩
    rw [List.length_set, selW_set first is i _ v hil rfl hw, sel_give first is i v hil hv, ← hbk]
    exact hr'
  rcases st4_cases h.st i hil with e | e | e | e
  · rw [e] at e1 e2 hmem
    rw [if_neg (by decide), if_neg (by decide)] at e1 e2
    rw [e1]
    refine (rs_Give_none blk hR hin (fun hm => absurd (hmem.1 hm) (by decide))).mono ?_
    rintro E w' ⟨rfl, rfl⟩
    exact ⟨rfl, hsame e2, hO.mono (by simp)⟩
  · refine gave 0 (by decide) (by decide) (by rw [e]; decide) (by rw [e]; decide) ?_ ?_
    · rw [e1, if_pos e]
    · rw [e2, if_pos e]
  · refine gave 3 (by decide) (by decide) (by rw [e]; decide) (by rw [e]; decide) ?_ ?_
    · rw [e1, if_neg (by rw [e]; decide), if_pos e]
    · rw [e2, if_neg (by rw [e]; decide), if_pos e]
  · rw [e] at e1 e2 hmem
    rw [if_neg (by decide), if_neg (by decide)] at e1 e2
    rw [e1]
    refine (rs_Give_none blk hR hin (fun hm => absurd (hmem.1 hm) (by decide))).mono ?_
    rintro E w' ⟨rfl, rfl⟩
    exact ⟨rfl, hsame e2, hO.mono (by simp)⟩
end
end Go.Proofs.Ytodondpggkohjaa
