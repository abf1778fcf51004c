/- SpacePlays, plain: the reference's two lists are told from the blocks' states. -/
import Derived.Test.YtodondpggkohjaaSp3
import Derived.Test.YtodondpggkohjaaSp2
set_option linter.unusedVariables false
set_option linter.unusedSimpArgs false
namespace Go.Proofs.Ytodondpggkohjaa
open Go.RowKit
def pW (x : Int) : Bool := decide (x = 2 ∨ x = 3)
theorem sel_eq (p : Int → Bool) (first : Nat) (is : List Int) : ∀ k, sel p first is k = ((List.range k).filter fun i => p (is.getD i 0)).map fun i => ((first + i : Nat) : Int)
  | 0 => rfl
  | k + 1 => by
    rw [sel, sel_eq p first is k, List.range_succ, List.filter_append, List.map_append]
    by_cases h : p (is.getD k 0) = true
    · rw [if_pos h, List.filter_cons_of_pos (by simpa using h)]; rfl
    · rw [if_neg h, List.filter_cons_of_neg (by simpa using h)]; simp
theorem mem_sel {p : Int → Bool} {first k : Nat} {is : List Int} {x : Int} : x ∈ sel p first is k ↔ ∃ i, i < k ∧ p (is.getD i 0) = true ∧ x = ((first + i : Nat) : Int) := by
  rw [sel_eq]
  simp only [List.mem_map, List.mem_filter, List.mem_range]
  constructor
  · rintro ⟨i, ⟨h1, h2⟩, rfl⟩; exact ⟨i, h1, h2, rfl⟩
  · rintro ⟨i, h1, h2, rfl⟩; exact ⟨i, ⟨h1, h2⟩, rfl⟩
theorem mem_sel_at {p : Int → Bool} {first k i : Nat} {is : List Int} (h : i < k) : ((first + i : Nat) : Int) ∈ sel p first is k ↔ p (is.getD i 0) = true := by
  rw [mem_sel]
  constructor
  · rintro ⟨j, h1, h2, h3⟩
    obtain rfl : i = j := by omega
    exact h2
  · intro h2; exact ⟨i, h, h2, rfl⟩
theorem sel_congr {p q : Int → Bool} {first : Nat} {is js : List Int} : ∀ k, (∀ i, i < k → p (is.getD i 0) = q (js.getD i 0)) → sel p first is k = sel q first js k
  | 0, _ => rfl
  | k + 1, h => by
    rw [sel, sel, sel_congr k (fun i hi => h i (by omega)), h k (by omega)]
/-- from k on, d more -/
def selR (p : Int → Bool) (first : Nat) (is : List Int) (k : Nat) : Nat → List Int
  | 0 => []
  | d + 1 => if p (is.getD (k + d) 0) then selR p first is k d ++ [((first + (k + d) : Nat) : Int)] else selR p first is k d
theorem sel_add (p : Int → Bool) (first : Nat) (is : List Int) (k : Nat) : ∀ d, sel p first is (k + d) = sel p first is k ++ selR p first is k d
  | 0 => by simp [selR]
  | d + 1 => by
    rw [← Nat.add_assoc, sel, sel_add p first is k d, selR]
    split
    · rw [List.append_assoc]
    · rfl
theorem selR_ge {p : Int → Bool} {first : Nat} {is : List Int} {k : Nat} : ∀ {d : Nat} {x : Int}, x ∈ selR p first is k d → ((first + k : Nat) : Int) ≤ x
  | 0, x, h => by simp [selR] at h
  | d + 1, x, h => by
    rw [selR] at h
    split at h
    · rcases List.mem_append.1 h with h | h
      · exact selR_ge h
      · simp at h; omega
    · exact selR_ge h
theorem selR_congr {p q : Int → Bool} {first k : Nat} {is js : List Int} : ∀ d, (∀ i, i < d → p (is.getD (k + i) 0) = q (js.getD (k + i) 0)) → selR p first is k d = selR q first js k d
  | 0, _ => rfl
  | d + 1, h => by rw [selR, selR, selR_congr d (fun i hi => h i (by omega)), h d (by omega)]
theorem sel_lt {p : Int → Bool} {first k : Nat} {is : List Int} {x : Int} (h : x ∈ sel p first is k) : (first : Int) ≤ x ∧ x < ((first + k : Nat) : Int) := by
  obtain ⟨i, h1, _, rfl⟩ := mem_sel.1 h
  omega
theorem takeWhile_split {α : Type} (p : α → Bool) : ∀ (a b : List α), (∀ x ∈ a, p x = true) → (∀ x ∈ b, p x = false) → (a ++ b).takeWhile p = a
  | [], [], _, _ => rfl
  | [], y :: r, _, h => by simp [h y (by simp)]
  | x :: a, b, h, k => by simp [h x (by simp), takeWhile_split p a b (fun y hy => h y (by simp [hy])) k]
/-- the blocks below b of the list -/
theorem sel_below (p : Int → Bool) (first : Nat) (is : List Int) (i d : Nat) : (sel p first is (i + d)).takeWhile (fun x => decide (x < ((first + i : Nat) : Int))) = sel p first is i := by
  rw [sel_add]
  refine takeWhile_split _ _ _ (fun x hx => ?_) (fun x hx => ?_)
  · have := sel_lt hx; simpa using this.2
  · have := selR_ge hx; simpa using this
/-- Take: the block put in its place -/
theorem sel_put (p : Int → Bool) (first : Nat) (is : List Int) (i : Nat) (v : Int) (hv : p v = true) (hi : i < is.length) (h0 : p (is.getD i 0) = false) :
    sel p first (is.set i v) is.length = sel p first is i ++ ((first + i : Nat) : Int) :: (sel p first is is.length).drop (sel p first is i).length := by
  obtain ⟨d, hd⟩ : ∃ d, is.length = i + (1 + d) := ⟨is.length - i - 1, by omega⟩
  have hs : ∀ j, j ≠ i → (is.set i v).getD j 0 = is.getD j 0 := fun j hj => by
    rw [List.getD_eq_getElem?_getD, List.getD_eq_getElem?_getD, List.getElem?_set_ne (fun e => hj e.symm)]
  have hi1 : (is.set i v).getD i 0 = v := by rw [List.getD_eq_getElem?_getD, List.getElem?_set_self hi]; rfl
  rw [hd, sel_add p first is i (1 + d), sel_add p first (is.set i v) i (1 + d), List.drop_left]
  rw [sel_congr (p := p) (q := p) (is := is.set i v) (js := is) i (fun j hj => by rw [hs j (by omega)])]
  congr 1
  have e1 : ∀ (js : List Int), selR p first js i (1 + d) = (if p (js.getD i 0) then [((first + i : Nat) : Int)] else []) ++ selR p first js (i + 1) d := fun js => by
    have h1 := sel_add p first js i (1 + d)
    have h2 := sel_add p first js (i + 1) d
    rw [show i + (1 + d) = i + 1 + d by omega, h2, sel] at h1
    by_cases h : p (js.getD i 0) = true
    · rw [if_pos h] at h1 ⊢
      rw [List.append_assoc] at h1
      exact (List.append_cancel_left h1).symm
    · rw [if_neg h] at h1 ⊢
      exact (List.append_cancel_left h1).symm
  rw [e1, e1, hi1, if_pos hv, if_neg (by rw [h0]; decide), selR_congr (p := p) (q := p) (is := is.set i v) (js := is) d (fun j _ => by rw [hs _ (by omega)])]
  rfl
theorem sel_take (first : Nat) (is : List Int) (i : Nat) (hi : i < is.length) (h0 : is.getD i 0 = 0) :
    sel pT first (is.set i 1) is.length = sel pT first is i ++ ((first + i : Nat) : Int) :: (sel pT first is is.length).drop (sel pT first is i).length := sel_put pT first is i 1 (by decide) hi (by rw [h0]; decide)
theorem sel_zeros (p : Int → Bool) (h0 : p 0 = false) (first : Nat) (is : List Int) (i : Nat) : ∀ d, (∀ j, i ≤ j → j < i + d → is.getD j 0 = 0) → sel p first is (i + d) = sel p first is i
  | 0, _ => rfl
  | d + 1, h => by
    rw [← Nat.add_assoc, sel, h (i + d) (by omega) (by omega), h0, if_neg (by decide)]
    exact sel_zeros p h0 first is i d (fun j h1 h2 => h j h1 (by omega))
/-- Give: the block left out -/
theorem sel_give (first : Nat) (is : List Int) (i : Nat) (v : Int) (hi : i < is.length) (hv : pT v = false) :
    sel pT first (is.set i v) is.length = (sel pT first is is.length).filter fun x => decide (x ≠ ((first + i : Nat) : Int)) := by
  rw [sel_eq, sel_eq, List.filter_map, List.filter_filter]
  congr 1
  apply List.filter_congr
  intro j hj
  by_cases e : j = i
  · subst e
    rw [List.getD_eq_getElem?_getD, List.getElem?_set_self hi]
    simp [hv]
  · rw [List.getD_eq_getElem?_getD, List.getElem?_set_ne (fun h => e h.symm), ← List.getD_eq_getElem?_getD]
    simp; intro _; omega
theorem selW_set (first : Nat) (is : List Int) (i : Nat) (u v : Int) (hi : i < is.length) (hu : is.getD i 0 = u) (hp : pW u = pW v) : sel pW first (is.set i v) is.length = sel pW first is is.length := by
  refine sel_congr _ (fun j hj => ?_)
  by_cases e : j = i
  · subst e
    rw [List.getD_eq_getElem?_getD, List.getElem?_set_self hi, hu]; exact hp.symm
  · rw [List.getD_eq_getElem?_getD, List.getElem?_set_ne (fun h => e h.symm), ← List.getD_eq_getElem?_getD]
def St4 (is : List Int) : Prop := ∀ i, i < is.length → 0 ≤ is.getD i 0 ∧ is.getD i 0 ≤ 3
theorem getD_map0 (f : Int → Int) (is : List Int) (i : Nat) (h : i < is.length) : (is.map f).getD i 0 = f (is.getD i 0) := by
  rw [List.getD_eq_getElem?_getD, List.getD_eq_getElem?_getD, List.getElem?_map, List.getElem?_eq_getElem h]; rfl
theorem commit_get (is : List Int) (i : Nat) (h : i < is.length) : (commitS is).getD i 0 = (let x := (if is.getD i 0 = 1 then 2 else is.getD i 0); if x = 3 then 0 else x) := by
  unfold commitS
  rw [getD_map0 _ _ _ (by rw [List.length_map]; exact h), getD_map0 _ _ _ h]
theorem back_get (is : List Int) (i : Nat) (h : i < is.length) : (backS is).getD i 0 = (let x := (if is.getD i 0 = 1 then 0 else is.getD i 0); if x = 3 then 2 else x) := by
  unfold backS
  rw [getD_map0 _ _ _ (by rw [List.length_map]; exact h), getD_map0 _ _ _ h]
theorem commit_len (is : List Int) : (commitS is).length = is.length := by unfold commitS; rw [List.length_map, List.length_map]
theorem back_len (is : List Int) : (backS is).length = is.length := by unfold backS; rw [List.length_map, List.length_map]
theorem st4_cases {is : List Int} (h : St4 is) (i : Nat) (hi : i < is.length) : is.getD i 0 = 0 ∨ is.getD i 0 = 1 ∨ is.getD i 0 = 2 ∨ is.getD i 0 = 3 := by have := h i hi; omega
theorem sel_commit (first : Nat) (is : List Int) (h : St4 is) : sel pT first (commitS is) is.length = sel pT first is is.length ∧ sel pW first (commitS is) is.length = sel pT first is is.length :=
  ⟨sel_congr _ (fun i hi => by rw [commit_get is i hi]; rcases st4_cases h i hi with e | e | e | e <;> rw [e] <;> decide), sel_congr _ (fun i hi => by rw [commit_get is i hi]; rcases st4_cases h i hi with e | e | e | e <;> rw [e] <;> decide)⟩
theorem sel_back (first : Nat) (is : List Int) (h : St4 is) : sel pT first (backS is) is.length = sel pW first is is.length ∧ sel pW first (backS is) is.length = sel pW first is is.length :=
  ⟨sel_congr _ (fun i hi => by rw [back_get is i hi]; rcases st4_cases h i hi with e | e | e | e <;> rw [e] <;> decide), sel_congr _ (fun i hi => by rw [back_get is i hi]; rcases st4_cases h i hi with e | e | e | e <;> rw [e] <;> decide)⟩
theorem st4_commit {is : List Int} (h : St4 is) : St4 (commitS is) := fun i hi => by
  rw [commit_len] at hi
  rw [commit_get is i hi]; rcases st4_cases h i hi with e | e | e | e <;> rw [e] <;> decide
theorem st4_back {is : List Int} (h : St4 is) : St4 (backS is) := fun i hi => by
  rw [back_len] at hi
  rw [back_get is i hi]; rcases st4_cases h i hi with e | e | e | e <;> rw [e] <;> decide
theorem st4_set {is : List Int} (h : St4 is) (i : Nat) (v : Int) (hv : 0 ≤ v ∧ v ≤ 3) : St4 (is.set i v) := fun j hj => by
  rw [List.length_set] at hj
  by_cases e : j = i
  · subst e; rw [List.getD_eq_getElem?_getD, List.getElem?_set_self hj]; exact hv
  · rw [List.getD_eq_getElem?_getD, List.getElem?_set_ne (fun h => e h.symm), ← List.getD_eq_getElem?_getD]; exact h j hj
theorem st4_give {first : Nat} {is : List Int} {blk : Int} (h : St4 is) : St4 (giveS first is blk) := by
  unfold giveS
  split
  · split
    · exact st4_set h _ _ (by decide)
    · split
      · exact st4_set h _ _ (by decide)
      · exact h
  · exact h
/-- free, as the reference tells it -/
theorem free_iff {first : Nat} {is : List Int} (h : St4 is) (i : Nat) (hi : i < is.length) : (((first + i : Nat) : Int) ∉ sel pT first is is.length ∧ ((first + i : Nat) : Int) ∉ sel pW first is is.length) ↔ is.getD i 0 = 0 := by
  rw [mem_sel_at hi, mem_sel_at hi]
  rcases st4_cases h i hi with e | e | e | e <;> rw [e] <;> decide
/-- Held: then and not now -/
theorem sel_held (first : Nat) (is : List Int) (h : St4 is) : (sel pW first is is.length).filter (fun x => decide (x ∉ sel pT first is is.length)) = sel pH first is is.length := by
  rw [sel_eq pW, sel_eq pH, List.filter_map, List.filter_filter]
  congr 1
  apply List.filter_congr
  intro j hj
  have hj2 : j < is.length := List.mem_range.1 hj
  simp only [Function.comp]
  rw [show decide (((first + j : Nat) : Int) ∉ sel pT first is is.length) = decide (¬ pT (is.getD j 0) = true) from decide_eq_decide.2 (not_congr (mem_sel_at hj2))]
  have hv : ∀ v : Int, (v = 0 ∨ v = 1 ∨ v = 2 ∨ v = 3) → (decide (¬ pT v = true) && pW v) = pH v := by rintro v (rfl | rfl | rfl | rfl) <;> decide
  exact hv _ (st4_cases h j hj2)
/-- Free: how many -/
theorem count_take (is : List Int) (k : Nat) (h : k < is.length) : (is.take (k + 1)).count 0 = (is.take k).count 0 + (if is.getD k 0 = 0 then 1 else 0) := by
  rw [List.take_succ_eq_append_getElem h, List.count_append, List.getD_eq_getElem?_getD, List.getElem?_eq_getElem h]
  simp [List.count_singleton]
end Go.Proofs.Ytodondpggkohjaa
