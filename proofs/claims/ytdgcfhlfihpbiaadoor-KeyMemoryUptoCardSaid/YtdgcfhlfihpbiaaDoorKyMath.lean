/- The plain law of keys: how a tuple is written, and split again. -/
import Derived.Test.YtdgcfhlfihpbiaaDoorOwn
import Derived.Lib.Replace
import Derived.Lib.CountLaws
set_option linter.unusedVariables false
set_option linter.unusedSimpArgs false
namespace Go.Proofs.YtdgcfhlfihpbiaaDoor
open Go.RowKit
def esc1 (c : UInt8) : List UInt8 := if c = 0 then [0, 255] else [c]
def esc (l : List UInt8) : List UInt8 := l.flatMap esc1
theorem esc_nil : esc [] = [] := rfl
theorem esc_cons (c : UInt8) (l : List UInt8) : esc (c :: l) = esc1 c ++ esc l := by simp [esc]
theorem esc_append (l m : List UInt8) : esc (l ++ m) = esc l ++ esc m := by simp [esc]
theorem esc_one (c : UInt8) : esc [c] = esc1 c := by simp [esc]
theorem esc_plain {l : List UInt8} (h : ∀ c ∈ l, c ≠ 0) : esc l = l := by
  induction l with
  | nil => rfl
  | cons c r ih =>
    rw [esc_cons, ih (fun d hd => h d (by simp [hd]))]
    unfold esc1
    rw [if_neg (h c (by simp))]; rfl
theorem esc_len (l : List UInt8) : (esc l).length ≤ 2 * l.length := by
  induction l with
  | nil => simp [esc]
  | cons c r ih =>
    rw [esc_cons, List.length_append, List.length_cons]
    have : (esc1 c).length ≤ 2 := by unfold esc1; split <;> simp
    omega
theorem index0 : ∀ (l : List UInt8), (Lib.index l [0] = -1 ∧ ∀ c ∈ l, c ≠ 0) ∨ ∃ (i : Nat) (a b : List UInt8), Lib.index l [0] = i ∧ l = a ++ 0 :: b ∧ a.length = i ∧ ∀ c ∈ a, c ≠ 0
  | [] => .inl ⟨rfl, by simp⟩
  | c :: l => by
    by_cases hc : c = 0
    · subst hc
      refine .inr ⟨0, [], l, ?_, rfl, rfl, by simp⟩
      unfold Lib.index
      rw [if_pos (by simp)]; rfl
    · have hp : List.isPrefixOf [0] (c :: l) = false := by
        show ((0 == c) && List.isPrefixOf [] l) = false
        rw [beq_eq_false_iff_ne.2 (Ne.symm hc)]; rfl
      rcases index0 l with ⟨h1, h2⟩ | ⟨i, a, b, h1, h2, h3, h4⟩
      · refine .inl ⟨?_, fun d hd => ?_⟩
        · unfold Lib.index; rw [hp, h1]; rfl
        · rcases List.mem_cons.1 hd with rfl | hd
          · exact hc
          · exact h2 d hd
      · refine .inr ⟨i + 1, c :: a, b, ?_, by rw [h2]; rfl, by simp [h3], fun d hd => ?_⟩
        · unfold Lib.index
          rw [hp, h1]
          have : ((i : Int) == -1) = false := by rw [beq_eq_false_iff_ne]; omega
          simp [this]
        · rcases List.mem_cons.1 hd with rfl | hd
          · exact hc
          · exact h4 d hd
theorem replaceK0 : ∀ (n : Nat) (l : List UInt8), l.length ≤ n → Lib.replaceK [0] [0, 255] (Lib.count l [0]) l = esc l
  | n, l, hn => by
    rcases index0 l with ⟨h1, h2⟩ | ⟨i, a, b, h1, h2, h3, h4⟩
    · rw [Lib.count_miss h1, Lib.replaceK, esc_plain h2]
    · have hd : l.drop (i + 1) = b := by rw [h2, ← h3]; simp
      have ht : l.take i = a := by rw [h2, ← h3]; simp
      have hl : b.length < n := by rw [h2] at hn; simp at hn; omega
      rw [Lib.count_hit (by simp) h1, Nat.add_comm 1, Lib.replaceK_hit _ _ _ _ _ h1]
      show l.take i ++ [0, 255] ++ Lib.replaceK [0] [0, 255] (Lib.count (l.drop (i + 1)) [0]) (l.drop (i + 1)) = _
      obtain ⟨m, rfl⟩ : ∃ m, n = m + 1 := ⟨n - 1, by omega⟩
      rw [hd, ht, replaceK0 m b (by omega), h2, esc_append, esc_plain h4, esc_cons]
      simp [esc1]
theorem replace0 (l : List UInt8) : Lib.replaceAll l [0] [0, 255] = esc l := by
  unfold Lib.replaceAll Lib.replace
  rw [if_neg (by decide)]
  unfold Lib.replaceNum
  rw [if_pos (.inl (by decide))]
  exact replaceK0 _ l (Nat.le_refl _)
/-- a tuple's bytes -/
def mkL (ps : List ByteArray) : List UInt8 := ps.flatMap fun p => esc p.data.toList ++ [0, 1]
theorem mkL_append (l m : List ByteArray) : mkL (l ++ m) = mkL l ++ mkL m := by simp [mkL]
theorem mkL_cons (p : ByteArray) (l : List ByteArray) : mkL (p :: l) = esc p.data.toList ++ 0 :: 1 :: mkL l := by simp [mkL]
theorem mkL_one (p : ByteArray) : mkL [p] = esc p.data.toList ++ [0, 1] := by simp [mkL]
theorem mkL_take_le (l : List ByteArray) (k : Nat) : (mkL (l.take k)).length ≤ (mkL l).length := by
  have : mkL l = mkL (l.take k) ++ mkL (l.drop k) := by rw [← mkL_append, List.take_append_drop]
  rw [this, List.length_append]; omega
def mkA (ps : List ByteArray) : ByteArray × Int := if ps.length = 0 ∨ 8 < ps.length then (⟨#[]⟩, 1) else if 120 < (mkL ps).length then (⟨#[]⟩, 23) else (bstr (mkL ps), 0)
theorem mkA_ok {ps : List ByteArray} (h : (mkA ps).2 = 0) : ps.length ≠ 0 ∧ ps.length ≤ 8 ∧ (mkL ps).length ≤ 120 ∧ mkA ps = (bstr (mkL ps), 0) := by
  unfold mkA at h ⊢
  by_cases h1 : ps.length = 0 ∨ 8 < ps.length
  · rw [if_pos h1] at h; simp at h
  · rw [if_neg h1] at h ⊢
    by_cases h2 : 120 < (mkL ps).length
    · rw [if_pos h2] at h; simp at h
    · rw [if_neg h2]; exact ⟨by omega, by omega, by omega, rfl⟩
theorem mkA_of {ps : List ByteArray} (h1 : ps.length ≠ 0) (h2 : ps.length ≤ 8) (h3 : (mkL ps).length ≤ 120) : mkA ps = (bstr (mkL ps), 0) := by
  unfold mkA; rw [if_neg (by omega), if_neg (by omega)]
theorem mkA_bad {ps : List ByteArray} (h : (mkA ps).2 ≠ 0) : (mkA ps).1 = ⟨#[]⟩ := by
  unfold mkA at h ⊢
  split
  · rfl
  · rename_i h1
    rw [if_neg h1] at h
    split
    · rfl
    · rename_i h2; rw [if_neg h2] at h; simp at h
/-- Split's reading: parts so far, the part that is being read -/
def sp : List UInt8 → List UInt8 → List ByteArray → Option (List ByteArray × List UInt8)
  | [], cur, ps => some (ps, cur)
  | c :: r, cur, ps => if c ≠ 0 then sp r (cur ++ [c]) ps else
      match r with
      | [] => none
      | d :: r' => if d = 255 then sp r' (cur ++ [0]) ps else if d = 1 then sp r' [] (ps ++ [bstr cur]) else none
/-- the reference's, which takes everything -/
def spl : List UInt8 → List UInt8 → List ByteArray → List ByteArray
  | [], cur, ps => ps
  | c :: r, cur, ps => if c ≠ 0 then spl r (cur ++ [c]) ps else
      match r with
      | [] => ps
      | d :: r' => if d = 1 then spl r' [] (ps ++ [bstr cur]) else spl r' (cur ++ [0]) ps
theorem sp_ne {c : UInt8} (h : c ≠ 0) (r cur : List UInt8) (ps : List ByteArray) : sp (c :: r) cur ps = sp r (cur ++ [c]) ps := by cases r <;> simp [sp, h]
theorem sp_255 (r cur : List UInt8) (ps : List ByteArray) : sp (0 :: 255 :: r) cur ps = sp r (cur ++ [0]) ps := by rw [sp, if_neg (by simp)]; rfl
theorem sp_1 (r cur : List UInt8) (ps : List ByteArray) : sp (0 :: 1 :: r) cur ps = sp r [] (ps ++ [bstr cur]) := by rw [sp, if_neg (by simp)]; rfl
theorem sp_end (cur : List UInt8) (ps : List ByteArray) : sp [0] cur ps = none := by simp [sp]
theorem sp_bad {d : UInt8} (h1 : d ≠ 255) (h2 : d ≠ 1) (r cur : List UInt8) (ps : List ByteArray) : sp (0 :: d :: r) cur ps = none := by
  simp [sp, h1, h2]
theorem spl_ne {c : UInt8} (h : c ≠ 0) (r cur : List UInt8) (ps : List ByteArray) : spl (c :: r) cur ps = spl r (cur ++ [c]) ps := by cases r <;> simp [spl, h]
theorem spl_1 (r cur : List UInt8) (ps : List ByteArray) : spl (0 :: 1 :: r) cur ps = spl r [] (ps ++ [bstr cur]) := by rw [spl, if_neg (by simp)]; rfl
theorem spl_end (cur : List UInt8) (ps : List ByteArray) : spl [0] cur ps = ps := by simp [spl]
theorem spl_other {d : UInt8} (h2 : d ≠ 1) (r cur : List UInt8) (ps : List ByteArray) : spl (0 :: d :: r) cur ps = spl r (cur ++ [0]) ps := by
  simp [spl, h2]
theorem sp_esc : ∀ (l rest cur : List UInt8) (ps : List ByteArray), sp (esc l ++ 0 :: 1 :: rest) cur ps = sp rest [] (ps ++ [bstr (cur ++ l)])
  | [], rest, cur, ps => by rw [esc_nil, List.nil_append, sp_1, List.append_nil]
  | c :: l, rest, cur, ps => by
    rw [esc_cons, List.append_assoc]
    by_cases h : c = 0
    · subst h
      have e : esc1 0 = [0, 255] := rfl
      rw [e, List.cons_append, List.cons_append, List.nil_append, sp_255, sp_esc l, List.append_assoc]; rfl
    · have e : esc1 c = [c] := if_neg h
      rw [e, List.cons_append, List.nil_append, sp_ne h, sp_esc l, List.append_assoc]; rfl
theorem sp_mkL : ∀ (qs : List ByteArray) (ps : List ByteArray), sp (mkL qs) [] ps = some (ps ++ qs, [])
  | [], ps => by show sp [] [] ps = _; rw [sp, List.append_nil]
  | q :: qs, ps => by
    rw [mkL_cons, sp_esc, List.nil_append, bstr_eq, sp_mkL qs, List.append_assoc]; rfl
theorem mkL_sp : ∀ (n : Nat) (l cur : List UInt8) (ps ps' : List ByteArray), l.length ≤ n → sp l cur ps = some (ps', []) → ∃ qs, ps' = ps ++ qs ∧ esc cur ++ l = mkL qs
  | _, [], cur, ps, ps', _, h => by
    rw [sp] at h
    injection h with h
    injection h with h1 h2
    subst h1 h2
    exact ⟨[], by simp, by simp [esc, mkL]⟩
  | 0, c :: r, _, _, _, hn, _ => by simp at hn
  | n + 1, c :: r, cur, ps, ps', hn, h => by
    by_cases hc : c = 0
    · subst hc
      match r, h with
      | [], h => rw [sp_end] at h; cases h
      | d :: r', h =>
        by_cases h1 : d = 255
        · subst h1
          rw [sp_255] at h
          obtain ⟨qs, e1, e2⟩ := mkL_sp n r' (cur ++ [0]) ps ps' (by simp at hn; omega) h
          exact ⟨qs, e1, by rw [← e2, esc_append, List.append_assoc]; rfl⟩
        · by_cases h2 : d = 1
          · subst h2
            rw [sp_1] at h
            obtain ⟨qs, e1, e2⟩ := mkL_sp n r' [] (ps ++ [bstr cur]) ps' (by simp at hn; omega) h
            refine ⟨bstr cur :: qs, by rw [e1, List.append_assoc]; rfl, ?_⟩
            rw [esc_nil, List.nil_append] at e2
            rw [mkL_cons, ← e2]
            first | done | rfl
          · rw [sp_bad h1 h2] at h; cases h
    · rw [sp_ne hc] at h
      obtain ⟨qs, e1, e2⟩ := mkL_sp n r (cur ++ [c]) ps ps' (by simp at hn; omega) h
      refine ⟨qs, e1, ?_⟩
      rw [← e2, esc_append, esc_one, List.append_assoc]
      unfold esc1; rw [if_neg hc]; rfl
theorem spl_sp : ∀ (n : Nat) (l cur : List UInt8) (ps ps' : List ByteArray) (cur' : List UInt8), l.length ≤ n → sp l cur ps = some (ps', cur') → spl l cur ps = ps'
  | _, [], cur, ps, ps', cur', _, h => by
    rw [sp] at h
    injection h with h
    injection h with h1 h2
    first | done | exact h1 | simpa [spl] using h1
  | 0, c :: r, _, _, _, _, hn, _ => by simp at hn
  | n + 1, c :: r, cur, ps, ps', cur', hn, h => by
    by_cases hc : c = 0
    · subst hc
      match r, h with
      | [], h => rw [sp_end] at h; cases h
      | d :: r', h =>
        by_cases h1 : d = 255
        · subst h1
          rw [sp_255] at h
          rw [spl_other (by decide)]
          exact spl_sp n r' _ _ _ _ (by simp at hn; omega) h
        · by_cases h2 : d = 1
          · subst h2
            rw [sp_1] at h
            rw [spl_1]
            exact spl_sp n r' _ _ _ _ (by simp at hn; omega) h
          · rw [sp_bad h1 h2] at h; cases h
    · rw [sp_ne hc] at h
      rw [spl_ne hc]
      exact spl_sp n r _ _ _ _ (by simp at hn; omega) h
/-- Split -/
def spF (l : List UInt8) (o : Option (List ByteArray × List UInt8)) : List ByteArray × Int :=
  match o with
  | some (ps, cur) => if 0 < cur.length ∨ ps.length = 0 ∨ 8 < ps.length ∨ 120 < l.length then ([], 2) else (ps, 0)
  | none => ([], 2)
def spA (l : List UInt8) : List ByteArray × Int := spF l (sp l [] [])
def rfA (l : List UInt8) : List ByteArray × Int := if (mkA (spl l [] [])).2 ≠ 0 ∨ (mkA (spl l [] [])).1 ≠ bstr l then ([], 2) else (spl l [] [], 0)
theorem spA_mk {ps : List ByteArray} (h1 : ps.length ≠ 0) (h2 : ps.length ≤ 8) (h3 : (mkL ps).length ≤ 120) : spA (mkL ps) = (ps, 0) := by
  unfold spA
  rw [sp_mkL]
  unfold spF
  simp only [List.nil_append]
  rw [if_neg (by simp only [List.length_nil]; omega)]
theorem spA_ok {l : List UInt8} (h : (spA l).2 = 0) : (spA l).1.length ≠ 0 ∧ (spA l).1.length ≤ 8 ∧ l.length ≤ 120 ∧ mkL (spA l).1 = l := by
  unfold spA spF at h ⊢
  cases hs : sp l [] [] with
  | none => rw [hs] at h; simp at h
  | some x =>
    obtain ⟨ps, cur⟩ := x
    rw [hs] at h
    simp only at h ⊢
    split at h
    · simp at h
    · rename_i h1
      rw [if_neg h1]
      have hc : cur = [] := List.eq_nil_of_length_eq_zero (by omega)
      subst hc
      obtain ⟨qs, e1, e2⟩ := mkL_sp _ l [] [] ps (Nat.le_refl _) hs
      rw [List.nil_append] at e1
      subst e1
      rw [esc_nil, List.nil_append] at e2
      dsimp only
      exact ⟨by omega, by omega, by omega, e2.symm⟩
theorem spA_bad {l : List UInt8} (h : (spA l).2 ≠ 0) : spA l = ([], 2) := by
  unfold spA spF at h ⊢
  cases hs : sp l [] [] with
  | none => rfl
  | some x =>
    obtain ⟨ps, cur⟩ := x
    rw [hs] at h
    simp only at h ⊢
    split at h
    · rename_i h1; rw [if_pos h1]
    · simp at h
theorem rfA_eq (l : List UInt8) : rfA l = spA l := by
  by_cases h : (spA l).2 = 0
  · obtain ⟨h1, h2, h3, h4⟩ := spA_ok h
    obtain ⟨ps, hps⟩ : ∃ ps, ps = (spA l).1 := ⟨_, rfl⟩
    rw [← hps] at h1 h2 h4
    have hsp : spA l = (ps, 0) := by rw [hps, ← h]
    have hl : spl l [] [] = ps := by
      refine spl_sp _ l [] [] ps [] (Nat.le_refl _) ?_
      rw [← h4, sp_mkL]; rfl
    have hm := mkA_of h1 h2 (by rw [h4]; exact h3)
    unfold rfA
    rw [hl, hm, hsp, if_neg (by rw [h4]; simp)]
  · rw [spA_bad h]
    unfold rfA
    by_cases h1 : (mkA (spl l [] [])).2 ≠ 0 ∨ (mkA (spl l [] [])).1 ≠ bstr l
    · rw [if_pos h1]
    · exfalso
      have h2 : (mkA (spl l [] [])).2 = 0 := by
        rcases Classical.em ((mkA (spl l [] [])).2 = 0) with h | h
        · exact h
        · exact absurd (.inl h) h1
      have h3 : (mkA (spl l [] [])).1 = bstr l := by
        rcases Classical.em ((mkA (spl l [] [])).1 = bstr l) with h | h
        · exact h
        · exact absurd (.inr h) h1
      obtain ⟨g1, g2, g3, g4⟩ := mkA_ok h2
      rw [g4] at h3
      have h5 : mkL (spl l [] []) = l := bstr_inj h3
      have := spA_mk g1 g2 g3
      rw [h5] at this
      rw [this] at h
      exact h rfl
end Go.Proofs.YtdgcfhlfihpbiaaDoor
