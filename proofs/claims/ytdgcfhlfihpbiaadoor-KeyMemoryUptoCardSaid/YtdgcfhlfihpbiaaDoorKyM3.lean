/- The plain law of keys' order: keys stand as their tuples; what lies in a range. -/
import Derived.Test.YtdgcfhlfihpbiaaDoorKyM2
import Derived.Test.YtdgcfhlfihpbiaaDoorRowTU
set_option linter.unusedVariables false
set_option linter.unusedSimpArgs false
namespace Go.Proofs.YtdgcfhlfihpbiaaDoor
open Go.RowKit
theorem bl_eq (a : UInt8) (l m : List UInt8) : Op.bytesLess (a :: l) (a :: m) = Op.bytesLess l m := by
  show (decide (a < a) || (a == a && Op.bytesLess l m)) = _
  simp
theorem bl_ne {a b : UInt8} (h : a ≠ b) (l m : List UInt8) : Op.bytesLess (a :: l) (b :: m) = decide (a < b) := by
  show (decide (a < b) || (a == b && Op.bytesLess l m)) = _
  rw [beq_eq_false_iff_ne.2 h]; simp
theorem bl_nil (l : List UInt8) : Op.bytesLess l [] = false := by cases l <;> rfl
theorem bl_pre (d l m : List UInt8) : Op.bytesLess (d ++ l) (d ++ m) = Op.bytesLess l m := by
  induction d with
  | nil => rfl
  | cons a d ih => rw [List.cons_append, List.cons_append, bl_eq, ih]
theorem bl_esc : ∀ (x y r s : List UInt8), Op.bytesLess (esc x ++ 0 :: 1 :: r) (esc y ++ 0 :: 1 :: s) = if x = y then Op.bytesLess r s else Op.bytesLess x y
  | [], [], r, s => by rw [if_pos rfl, esc_nil, List.nil_append, List.nil_append, bl_eq, bl_eq]
  | [], b :: y, r, s => by
    rw [if_neg (by simp), esc_nil, List.nil_append, esc_cons, List.append_assoc]
    by_cases h : b = 0
    · subst h
      have e : esc1 0 = [0, 255] := rfl
      rw [e, List.cons_append, bl_eq, List.cons_append, bl_ne (by decide)]; rfl
    · have e : esc1 b = [b] := if_neg h
      rw [e, List.cons_append, List.nil_append, bl_ne (fun h2 => h h2.symm)]
      exact decide_eq_true (UInt8.lt_iff_toNat_lt.2 (by have h3 : b.toNat ≠ 0 := fun h4 => h (UInt8.toNat_inj.1 h4); have : (0 : UInt8).toNat = 0 := rfl; omega))
  | a :: x, [], r, s => by
    rw [if_neg (by simp), bl_nil, esc_nil, List.nil_append, esc_cons, List.append_assoc]
    by_cases h : a = 0
    · subst h
      have e : esc1 0 = [0, 255] := rfl
      rw [e, List.cons_append, bl_eq, List.cons_append, bl_ne (by decide)]; rfl
    · have e : esc1 a = [a] := if_neg h
      rw [e, List.cons_append, List.nil_append, bl_ne h]
      exact decide_eq_false (fun h3 => by have := UInt8.lt_iff_toNat_lt.1 h3; have : (0 : UInt8).toNat = 0 := rfl; omega)
  | a :: x, b :: y, r, s => by
    rw [esc_cons, esc_cons, List.append_assoc, List.append_assoc]
    by_cases h : a = b
    · subst h
      rw [bl_pre, bl_esc x y r s, bl_eq]
      simp
    · rw [if_neg (by simp [h]), bl_ne h]
      by_cases h0 : a = 0
      · subst h0
        have e : esc1 0 = [0, 255] := rfl
        have e2 : esc1 b = [b] := if_neg (fun h2 => h h2.symm)
        simp only [e, e2, List.cons_append, bl_ne h]
      · have e : esc1 a = [a] := if_neg h0
        by_cases h1 : b = 0
        · subst h1
          have e2 : esc1 0 = [0, 255] := rfl
          simp only [e, e2, List.cons_append, bl_ne h]
        · have e2 : esc1 b = [b] := if_neg h1
          simp only [e, e2, List.cons_append, bl_ne h]
theorem mkL_ne (y : ByteArray) (s : List ByteArray) : ∃ a r, mkL (y :: s) = a :: r := by
  cases h : mkL (y :: s) with
  | nil => rw [mkL_cons] at h; simp at h
  | cons a r => exact ⟨a, r, rfl⟩
theorem data_inj {x y : ByteArray} (h : x.data.toList = y.data.toList) : x = y := by
  cases x; cases y; congr 1; exact Array.toList_inj.1 h
theorem ltS_data (x y : ByteArray) : Op.bytesLess x.data.toList y.data.toList = ltS x y := by
  unfold ltS
  rw [ByteArray.toList_eq, ByteArray.toList_eq]
/-- keys stand in the order of their tuples -/
theorem mk_order : ∀ l m : List ByteArray, Op.bytesLess (mkL l) (mkL m) = decide (cmT l m = -1)
  | [], [] => rfl
  | [], y :: s => by
    obtain ⟨a, r, h⟩ := mkL_ne y s
    rw [h]; rfl
  | x :: r, [] => by
    show Op.bytesLess (mkL (x :: r)) [] = _
    rw [bl_nil]; rfl
  | x :: r, y :: s => by
    rw [mkL_cons, mkL_cons, bl_esc, cmT]
    by_cases h : x = y
    · subst h
      have : cmS x x = 0 := by unfold cmS; rw [ltS_irr]; simp
      rw [if_pos rfl, if_pos this, mk_order r s]
    · have h2 : ¬ x.data.toList = y.data.toList := fun e => h (data_inj e)
      rw [if_neg h2, ltS_data]
      rcases cmS_cases x y with ⟨_, e, _⟩ | ⟨e1, e2, _⟩ | ⟨e1, e2, _⟩
      · exact absurd e h
      · rw [e1, if_neg (by decide), e2]; rfl
      · rw [e1, if_neg (by decide), e2]; rfl
theorem mkL_inj {l m : List ByteArray} (h : mkL l = mkL m) : l = m := by
  have h1 := sp_mkL l []
  have h2 := sp_mkL m []
  rw [h, h2] at h1
  injection h1 with h1
  injection h1 with h1 _
  simpa using h1.symm
theorem cmT_self : ∀ l : List ByteArray, cmT l l = 0
  | [] => rfl
  | x :: r => by
    have : cmS x x = 0 := by unfold cmS; rw [ltS_irr]; simp
    rw [cmT, if_pos this, cmT_self r]
theorem cmT_zero : ∀ {l m : List ByteArray}, cmT l m = 0 → l = m
  | [], [], _ => rfl
  | [], _ :: _, h => by simp [cmT] at h
  | _ :: _, [], h => by simp [cmT] at h
  | x :: r, y :: s, h => by
    rw [cmT] at h
    by_cases h1 : cmS x y = 0
    · rw [if_pos h1] at h
      rcases cmS_cases x y with ⟨_, e, _⟩ | ⟨e1, _⟩ | ⟨e1, _⟩
      · rw [e, cmT_zero h]
      · omega
      · omega
    · rw [if_neg h1] at h; exact absurd h h1
theorem ltS_mk (l m : List ByteArray) : ltS (bstr (mkL l)) (bstr (mkL m)) = decide (cmT l m = -1) := by
  rw [← ltS_data, ← mk_order]; rfl
/-- D 1 up to D 2 holds what begins with D 1 -/
theorem in_range (D : List UInt8) (k : List UInt8) : (Op.bytesLess k (D ++ [1]) = false ∧ Op.bytesLess k (D ++ [2]) = true) ↔ ∃ r, k = D ++ 1 :: r := by
  induction D generalizing k with
  | nil =>
    simp only [List.nil_append]
    cases k with
    | nil => simp [Op.bytesLess]
    | cons a r =>
      by_cases h1 : a = 1
      · subst h1
        rw [bl_eq, bl_nil, bl_ne (by decide)]
        exact ⟨fun _ => ⟨r, rfl⟩, fun _ => ⟨rfl, rfl⟩⟩
      · by_cases h2 : a = 2
        · subst h2
          rw [bl_eq, bl_nil]
          constructor
          · rintro ⟨_, h⟩; cases h
          · rintro ⟨s, h⟩; injection h with h _; exact absurd h (by decide)
        · rw [bl_ne h1, bl_ne h2]
          constructor
          · rintro ⟨h3, h4⟩
            have h5 := of_decide_eq_true h4
            have h6 := of_decide_eq_false h3
            have h7 := UInt8.lt_iff_toNat_lt.1 h5
            have h8 : ¬ a.toNat < 1 := fun h => h6 (UInt8.lt_iff_toNat_lt.2 h)
            have h9 : (2 : UInt8).toNat = 2 := rfl
            exact absurd (UInt8.toNat_inj.1 (show a.toNat = (1 : UInt8).toNat by have : (1 : UInt8).toNat = 1 := rfl; omega)) h1
          · rintro ⟨s, h⟩; injection h with h _; exact absurd h h1
  | cons d D ih =>
    cases k with
    | nil => simp [Op.bytesLess]
    | cons a r =>
      by_cases h : a = d
      · subst h
        rw [List.cons_append, List.cons_append, bl_eq, bl_eq, ih r]
        constructor
        · rintro ⟨s, e⟩; exact ⟨s, by rw [e]; rfl⟩
        · rintro ⟨s, e⟩; injection e with _ e; exact ⟨s, e⟩
      · rw [List.cons_append, List.cons_append, bl_ne h, bl_ne h]
        constructor
        · rintro ⟨h1, h2⟩; rw [h1] at h2; cases h2
        · rintro ⟨s, e⟩; injection e with e _; exact absurd e h
theorem sp_mkL_app : ∀ (qs ps : List ByteArray) (rest : List UInt8), sp (mkL qs ++ rest) [] ps = sp rest [] (ps ++ qs)
  | [], ps, rest => by show sp ([] ++ rest) [] ps = _; rw [List.nil_append, List.append_nil]
  | q :: qs, ps, rest => by
    rw [mkL_cons, List.append_assoc, List.cons_append, List.cons_append, sp_esc, List.nil_append, bstr_eq, sp_mkL_app qs, List.append_assoc]; rfl
theorem mkL_pre {p t : List ByteArray} : (∃ r, mkL t = mkL p ++ r) ↔ t.take p.length = p := by
  constructor
  · rintro ⟨r, h⟩
    have h1 := sp_mkL t []
    rw [h, sp_mkL_app, List.nil_append, List.nil_append] at h1
    obtain ⟨qs, e, _⟩ := mkL_sp _ r [] p t (Nat.le_refl _) h1
    rw [e, List.take_left' rfl]
  · intro h
    refine ⟨mkL (t.drop p.length), ?_⟩
    rw [← mkL_append]
    have h2 := List.take_append_drop p.length t
    rw [h] at h2
    rw [h2]
/-- the last byte of a key -/
theorem mkL_last {p : List ByteArray} (h : p.length ≠ 0) : ∃ D, mkL p = D ++ [1] := by
  induction p with
  | nil => simp at h
  | cons x r ih =>
    by_cases hr : r.length = 0
    · obtain rfl := List.eq_nil_of_length_eq_zero hr
      exact ⟨esc x.data.toList ++ [0], by rw [mkL_one]; simp⟩
    · obtain ⟨D, hD⟩ := ih hr
      exact ⟨esc x.data.toList ++ 0 :: 1 :: D, by rw [mkL_cons, hD]; simp⟩
theorem ext_bstr (D : List UInt8) : (bstr (D ++ [1])).extract 0 ((bstr (D ++ [1])).size - 1) ++ ⟨#[2]⟩ = bstr (D ++ [2]) := by
  rw [bstr_size]
  apply data_inj
  rw [ByteArray.data_append, ByteArray.data_extract]
  unfold bstr
  simp
theorem esc_cnt (l : List UInt8) : (esc l).length = l.length + l.count 0 := by
  induction l with
  | nil => rfl
  | cons c r ih =>
    rw [esc_cons, List.length_append, List.length_cons, List.count_cons, ih]
    unfold esc1
    by_cases h : c = 0
    · subst h; simp; omega
    · rw [if_neg h]; simp [h]; omega
theorem mkL_bulk (l : List ByteArray) : (mkL l).length ≤ 2 * bulkT l := by
  induction l with
  | nil => simp [mkL]
  | cons x r ih =>
    have := esc_len x.data.toList
    have h2 := str_len x
    have h3 : bulkT (x :: r) = x.size + 1 + bulkT r := by simp [bulkT]
    rw [mkL_cons, List.length_append, List.length_cons, List.length_cons, h3]
    omega
end Go.Proofs.YtdgcfhlfihpbiaaDoor
