/- The plain law of lists of texts: what Texts writes Untexts reads, and what Untexts takes Texts writes again. -/
import Derived.Test.YtclafljkeaekfaaPkT2
import Derived.Test.YtclafljkeaekfaaPkL4
set_option linter.unusedVariables false
set_option linter.unusedSimpArgs false
set_option maxRecDepth 100000
namespace Go.Proofs.Ytclafljkeaekfaa
open Go.RowKit
def tf (s : ByteArray) : List UInt8 := nf s.size ++ s.data.toList
def tcat (l : List ByteArray) : List UInt8 := l.flatMap tf
theorem tcat_append (l m : List ByteArray) : tcat (l ++ m) = tcat l ++ tcat m := by simp [tcat]
theorem tcat_one (s : ByteArray) : tcat [s] = tf s := by simp [tcat]
theorem tcat_cons (s : ByteArray) (l : List ByteArray) : tcat (s :: l) = tf s ++ tcat l := by simp [tcat]
theorem tf_len (s : ByteArray) : (tf s).length ≤ 10 + s.size := by
  have := nf_length_le s.size
  unfold tf; rw [List.length_append, str_len]; omega
def tsum (l : List ByteArray) : Nat := (l.map fun s => 10 + s.size).sum
theorem tcat_len : ∀ (l : List ByteArray), (tcat l).length ≤ tsum l
  | [] => by simp [tcat, tsum]
  | s :: r => by
    have h1 := tcat_len r
    have h2 := tf_len s
    rw [tcat_cons, List.length_append]
    unfold tsum at h1 ⊢
    simp only [List.map_cons, List.sum_cons]; omega
theorem tsum_snoc (l : List ByteArray) (k : Nat) (h : k < l.length) : tsum (l.take (k + 1)) = tsum (l.take k) + (10 + (l.getD k default).size) := by
  rw [takeT_snoc l k h]; simp [tsum]
theorem tsum_append (l m : List ByteArray) : tsum (l ++ m) = tsum l + tsum m := by simp [tsum]
theorem tcat_take_le (l : List ByteArray) (k : Nat) : (tcat (l.take k)).length ≤ (tcat l).length := by
  have : tcat l = tcat (l.take k) ++ tcat (l.drop k) := by rw [← tcat_append, List.take_append_drop]
  rw [this, List.length_append]; omega
theorem nf_short2 (v : Nat) (h : v < 16384) : (nf v).length ≤ 2 := by
  unfold nf
  rw [nfF]; split
  · simp
  · rw [nfF_last _ _ (by omega)]; simp
theorem cntN_nat (n : Nat) (h : n < 18446744073709551616) : cntN (n : Int) = n := by unfold cntN; omega
/-- the whole list's bytes -/
def tall (l : List ByteArray) : List UInt8 := nf l.length ++ tcat l
theorem txL_all (l : List ByteArray) (hn : l.length ≤ 4096) (hl : (tall l).length ≤ 1048576) : ∀ k, k ≤ l.length → txL 1048576 l k = (nf l.length ++ tcat (l.take k), 0)
  | 0, _ => by
    have h0 : cntE 0 (l.length : Int) = 0 := by unfold cntE; rw [if_neg (fun h => by omega)]
    have hp := nf_short2 l.length (by omega)
    have h1 := lay_fits (lim := 1048576) (L := []) (F := nf l.length) (by simp; omega)
    rw [txL, h0, cntN_nat _ (by omega), h1.1, h1.2]
    simp [tcat]
  | k + 1, hk => by
    have ih := txL_all l hn hl k (by omega)
    have hs := takeT_snoc l k (by omega)
    have hle := tcat_take_le l (k + 1)
    have hfit := lay_fits (lim := 1048576) (L := nf l.length ++ tcat (l.take k)) (F := tf (l.getD k default)) (by
      unfold tall at hl
      rw [hs, tcat_append, tcat_one, List.length_append] at hle
      rw [List.length_append] at hl ⊢
      omega)
    rw [txL, ih]
    show (layL 1048576 (nf l.length ++ tcat (l.take k)) 0 (tf (l.getD k default)), layE 1048576 (nf l.length ++ tcat (l.take k)) 0 (tf (l.getD k default))) = _
    rw [hfit.1, hfit.2, hs, tcat_append, tcat_one, List.append_assoc]
theorem txL_whole (l : List ByteArray) (hn : l.length ≤ 4096) (hl : (tall l).length ≤ 1048576) : txL 1048576 l l.length = (tall l, 0) := by
  rw [txL_all l hn hl l.length (Nat.le_refl _), List.take_length]; rfl
theorem rT_back {L r : List UInt8} {at_ : Nat} {s : ByteArray} (hs : s.size ≤ 1048576) (h : L.drop at_ = tf s ++ r) : rT L at_ 0 1048576 = (s.data.toList, at_ + (tf s).length, 0) := by
  have h' : L.drop at_ = nf s.size ++ (s.data.toList ++ r) := by rw [h]; unfold tf; rw [List.append_assoc]
  have hu := rU_back (v := s.size) (by omega) h'
  have hd2 : L.drop (at_ + (nf s.size).length) = s.data.toList ++ r := by
    rw [← List.drop_drop, h', List.drop_left' rfl]
  have hsl : s.data.toList.length = s.size := str_len s
  have hlen : s.size ≤ L.length - (at_ + (nf s.size).length) := by
    have := congrArg List.length hd2
    simp only [List.length_drop, List.length_append, hsl] at this
    omega
  unfold rT
  rw [hu]
  dsimp only
  rw [if_neg (by simp), if_neg (by omega), if_neg (by omega), hd2, List.take_left' hsl]
  unfold tf
  rw [List.length_append, hsl, Nat.add_assoc]
theorem rC_back {L r : List UInt8} {n : Nat} (hn : n ≤ 4096) (h : L = nf n ++ r) : rC L 0 0 4096 = (n, (nf n).length, 0) := by
  have hu := rU_back (L := L) (at_ := 0) (v := n) (by omega) (by rw [List.drop_zero]; exact h)
  unfold rC
  rw [hu]
  dsimp only
  rw [if_neg (by simp), if_neg (by omega), Nat.zero_add]
theorem ux_back (l : List ByteArray) (R : List UInt8) (hn : l.length ≤ 4096) (hs : ∀ s ∈ l, s.size ≤ 1048576) : ∀ k, k ≤ l.length → ux (tall l ++ R) k = (l.take k, (nf l.length).length + (tcat (l.take k)).length, 0)
  | 0, _ => by
    have h := rC_back (L := tall l ++ R) (n := l.length) (r := tcat l ++ R) hn (by unfold tall; rw [List.append_assoc])
    rw [ux, h]; simp [tcat]
  | k + 1, hk => by
    have ih := ux_back l R hn hs k (by omega)
    have hsn := takeT_snoc l k (by omega)
    have hd : (tall l ++ R).drop ((nf l.length).length + (tcat (l.take k)).length) = tf (l.getD k default) ++ (tcat (l.drop (k + 1)) ++ R) := by
      have e : tcat l = tcat (l.take k) ++ (tf (l.getD k default) ++ tcat (l.drop (k + 1))) := by
        rw [← tcat_cons, ← tcat_append]
        congr 1
        rw [List.getD_eq_getElem?_getD, List.getElem?_eq_getElem (by omega)]
        simp
      unfold tall
      rw [← List.drop_drop, List.append_assoc, List.drop_left' rfl, e, List.append_assoc, List.drop_left' rfl, List.append_assoc]
    have hT := rT_back (hs _ (memT l k (by omega))) hd
    rw [ux, ih]
    dsimp only
    rw [hT, hsn, tcat_append, tcat_one, List.length_append, bstr_eq, ← Nat.add_assoc]
theorem uxN_back (l : List ByteArray) (R : List UInt8) (hn : l.length ≤ 4096) : uxN (tall l ++ R) = l.length := by
  have h := rC_back (L := tall l ++ R) (n := l.length) (r := tcat l ++ R) hn (by unfold tall; rw [List.append_assoc])
  unfold uxN; rw [h]
theorem uxA_back (l : List ByteArray) (hn : l.length ≤ 4096) (hl : (tall l).length ≤ 1048576) (hs : ∀ s ∈ l, s.size ≤ 1048576) : uxA (tall l) = (l, 0) := by
  have h1 := uxN_back l [] hn
  have h2 := ux_back l [] hn hs l.length (Nat.le_refl _)
  rw [List.append_nil] at h1 h2
  have h3 : uxE (tall l) = 0 := by
    unfold uxE
    rw [h1, h2, List.take_length]
    refine if_neg (fun h => ?_)
    have := h.2
    unfold tall at this
    rw [List.length_append] at this
    dsimp only at this
    omega
  unfold uxA
  rw [if_neg (by omega), if_neg (by rw [h3]; simp), h1, h2, List.take_length]
theorem uxA_behind (l : List ByteArray) (R : List UInt8) (hn : l.length ≤ 4096) (hR : R ≠ []) (hs : ∀ s ∈ l, s.size ≤ 1048576) : (uxA (tall l ++ R)).2 ≠ 0 := by
  have h1 := uxN_back l R hn
  have h2 := ux_back l R hn hs l.length (Nat.le_refl _)
  have hRp : 0 < R.length := List.length_pos_iff.2 hR
  have h3 : uxE (tall l ++ R) = 22 := by
    unfold uxE
    rw [h1, h2, List.take_length]
    refine if_pos ⟨rfl, ?_⟩
    unfold tall
    rw [List.length_append, List.length_append]
    dsimp only
    omega
  unfold uxA
  split
  · simp
  · rw [if_pos (by rw [h3]; simp)]; rw [h3]; simp
/-- what Untexts takes -/
theorem ux_take (D : List UInt8) (h0 : (rC D 0 0 4096).2.2 = 0) : ∀ k, (ux D k).2.2 = 0 → (ux D k).2.1 ≤ D.length ∧ D.take (ux D k).2.1 = nf (uxN D) ++ tcat (ux D k).1
  | 0, _ => by
    have hc : ∃ v, rU D 0 0 = (v, 0 + (nf v).length, 0) ∧ (D.drop 0).take (nf v).length = nf v ∧ 0 + (nf v).length ≤ D.length := by
      rcases rU_cases D 0 (by omega) with ⟨v, h, _, h2, h3⟩ | ⟨e, he, h⟩
      · exact ⟨v, h, h2, h3⟩
      · exfalso
        unfold rC at h0
        rw [h] at h0
        simp only [ne_eq] at h0
        rw [if_pos he] at h0
        exact he h0
    obtain ⟨v, hU, h2, h3⟩ := hc
    have hC : rC D 0 0 4096 = (v, (nf v).length, 0) := by
      unfold rC at h0 ⊢
      rw [hU] at h0 ⊢
      dsimp only at h0 ⊢
      rw [if_neg (by simp)] at h0 ⊢
      split at h0
      · simp at h0
      · rename_i h9; rw [if_neg h9, Nat.zero_add]
    show (rC D 0 0 4096).2.1 ≤ D.length ∧ D.take (rC D 0 0 4096).2.1 = nf (rC D 0 0 4096).1 ++ tcat []
    rw [hC]
    dsimp only
    rw [List.drop_zero] at h2
    exact ⟨by omega, by rw [h2]; simp [tcat]⟩
  | k + 1, he => by
    have hek : (ux D k).2.2 = 0 := by
      rcases Classical.em ((ux D k).2.2 = 0) with h | h
      · exact h
      · have := ux_stuck D k h 1
        rw [he] at this
        exact absurd this.symm h
    obtain ⟨h1, h2⟩ := ux_take D h0 k hek
    have hT : (rT D (ux D k).2.1 0 1048576).2.2 = 0 := by
      have h9 : (rT D (ux D k).2.1 (ux D k).2.2 1048576).2.2 = 0 := he
      rw [hek] at h9; exact h9
    have hux : ux D (k + 1) = ((ux D k).1 ++ [bstr (rT D (ux D k).2.1 0 1048576).1], (rT D (ux D k).2.1 0 1048576).2) := by rw [ux, hek]
    obtain ⟨at_, hat⟩ : ∃ a, a = (ux D k).2.1 := ⟨_, rfl⟩
    rw [← hat] at h1 h2 hT hux
    have hr : ∃ T, (rT D at_ 0 1048576) = (T, at_ + (tf (bstr T)).length, 0) ∧ (D.drop at_).take (tf (bstr T)).length = tf (bstr T) ∧ at_ + (tf (bstr T)).length ≤ D.length := by
      rcases tk4 D at_ h1 with ⟨_, _, _, _, g1, g2, g3⟩ | ⟨g, _⟩
      · refine ⟨(rT D at_ 0 1048576).1, ?_, g2, by rw [g1] at g3; exact g3⟩
        have : (rT D at_ 0 1048576).2.1 = at_ + (tf (bstr (rT D at_ 0 1048576).1)).length := g1
        exact Prod.ext rfl (Prod.ext this hT)
      · exact absurd hT g
    obtain ⟨T, hT1, hT2, hT3⟩ := hr
    rw [hT1] at hux
    rw [hux]
    dsimp only
    refine ⟨hT3, ?_⟩
    rw [List.take_add, h2, hT2, tcat_append, tcat_one, List.append_assoc]
theorem uxA_ok (D : List UInt8) (h : (uxA D).2 = 0) : D.length ≤ 1048576 ∧ D = tall (uxA D).1 ∧ (uxA D).1.length ≤ 4096 := by
  unfold uxA at h ⊢
  by_cases h1 : 1048576 < D.length
  · rw [if_pos h1] at h; simp at h
  · rw [if_neg h1] at h ⊢
    by_cases h2 : uxE D ≠ 0
    · rw [if_pos h2] at h; exact absurd h h2
    · rw [if_neg h2]
      have hE : uxE D = 0 := by simpa using h2
      have hN : (ux D (uxN D)).2.2 = 0 := by
        rcases Classical.em ((ux D (uxN D)).2.2 = 0) with h | h
        · exact h
        · have := uxE_early D (uxN D) (Nat.le_refl _) h
          rw [hE] at this; exact absurd this.symm h
      have h0 : (rC D 0 0 4096).2.2 = 0 := by
        rcases Classical.em ((rC D 0 0 4096).2.2 = 0) with h | h
        · exact h
        · have := ux_stuck D 0 h (uxN D)
          rw [Nat.zero_add, hN] at this
          exact absurd this.symm h
      obtain ⟨g1, g2⟩ := ux_take D h0 (uxN D) hN
      have hend : (ux D (uxN D)).2.1 = D.length := by
        unfold uxE rE at hE
        rw [hN] at hE
        by_cases h9 : (ux D (uxN D)).2.1 < D.length
        · rw [if_pos ⟨rfl, h9⟩] at hE; simp at hE
        · omega
      rw [hend, List.take_length] at g2
      refine ⟨by omega, ?_, ?_⟩
      · dsimp only
        unfold tall
        rw [ux_len]; exact g2
      · dsimp only
        rw [ux_len]; exact uxN_le D
end Go.Proofs.Ytclafljkeaekfaa
