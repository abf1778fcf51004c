/- Walks of the middle helpers of the space's laws: play, fixed, open. -/
import Derived.Test.YtodondpggkohjaaSpL1
set_option linter.unusedVariables false
set_option linter.unusedSimpArgs false
namespace Go.Proofs.Ytodondpggkohjaa
open Go.RowKit
def takeS (is : List Int) : List Int := is.set (is.idxOf 0) 1
def takeB (first : Nat) (is : List Int) : Int := if is.idxOf 0 < is.length then ((first + is.idxOf 0 : Nat) : Int) else -1
def takeE (is : List Int) : Int := if is.idxOf 0 < is.length then 0 else 3
theorem idx_zero {is : List Int} (h : is.idxOf 0 < is.length) : is.getD (is.idxOf 0) 0 = 0 := by
  rw [List.getD_eq_getElem?_getD, List.getElem?_eq_getElem h]
  exact List.getElem_idxOf h
theorem idx_low (is : List Int) : ∀ j, j < is.idxOf 0 → is.getD j 0 ≠ 0 := by
  induction is with
  | nil => intro j hj; simp at hj
  | cons a l ih =>
    intro j hj
    rw [List.idxOf_cons] at hj
    by_cases ha : a = 0
    · subst ha; simp at hj
    · have hb : (a == 0) = false := by simpa using ha
      rw [hb] at hj
      cases j with
      | zero => simpa using ha
      | succ j => simpa using ih j (by simpa using hj)
theorem idx_le (is : List Int) : is.idxOf 0 ≤ is.length := List.idxOf_le_length
theorem sp_Take (b g first : Nat) (is : List Int) (w : World) (h : IsSp w b g first is) :
    Calls Try.prog 21 #[.pointer (some ⟨b, 0, none⟩)] w fun e w' => e = .returned (.tuple #[.int .i64 (takeB first is), .int .i64 (takeE is)]) ∧ IsSp w' b g first (takeS is) ∧ Only [b, g] w w' := by
  by_cases hl : is.idxOf 0 < is.length
  · refine (sp_Take_ok b g first is w h _ hl (idx_zero hl) (idx_low is)).mono ?_
    rintro e w' ⟨rfl, h1, h2⟩
    exact ⟨by rw [takeB, takeE, if_pos hl, if_pos hl], h1, h2⟩
  · refine (sp_Take_none b g first is w h (fun j hj => idx_low is j (by omega))).mono ?_
    rintro e w' ⟨rfl, rfl⟩
    exact ⟨by rw [takeB, takeE, if_neg hl, if_neg hl], by rw [takeS, List.set_eq_of_length_le (by omega)]; exact h, Only.refl _ _⟩
/-- a step's fields -/
structure OpV where
  two : Bool
  kind : Int
  blk : Int
  deriving Inhabited
def OpV.val (o : OpV) : Value := .agg #[.bool o.two, .int .i64 o.kind, .int .i64 o.blk]
def OpV.ok (o : OpV) : Prop := -9223372036854775808 ≤ o.blk ∧ o.blk < 9223372036854775808
def playS (first : Nat) (is : List Int) (o : OpV) : List Int :=
  if o.kind = 1 then takeS is else if o.kind = 2 then giveS first is o.blk else if o.kind = 3 then commitS is else if o.kind = 4 then backS is else is
theorem l8_play (b g first : Nat) (is : List Int) (o : OpV) (ho : o.ok) (w : World) (h : IsSp w b g first is) :
    Calls Try.prog 20 #[.pointer (some ⟨b, 0, none⟩), o.val] w fun e w' => e = .returned (.tuple #[]) ∧ IsSp w' b g first (playS first is o) ∧ Only [b, g] w w' := by
  obtain ⟨two, kind, blk⟩ := o
  have HO := Lib.hid ho
  have H := Lib.hid h
  have HP := Lib.hid (show playS first is ⟨two, kind, blk⟩ = if kind = 1 then takeS is else if kind = 2 then giveS first is blk else if kind = 3 then commitS is else if kind = 4 then backS is else is from rfl)
  clear ho h
  unfold OpV.val
  dsimp only
  have hbn := H.out
  have HI := Lib.hid (hbn.only (Only.alloc (Only.refl [] w) (.cells #[.bool two, .int .i64 kind, .int .i64 blk] 42)) (by simp) (by simp))
  have HW : Only [b, g] w (w.alloc (.cells #[.bool two, .int .i64 kind, .int .i64 blk] 42)) := Only.alloc (Only.refl _ w) _
  clear hbn
  by_cases h1 : kind = 1
  · have HK := Lib.hid (show playS first is ⟨two, kind, blk⟩ = takeS is by rw [HP.out, if_pos h1])
    have q1 : (kind == 1) = true := by simpa using h1
    clear h1
    go_enter Try.func20, Try.ntmps20
    go_wp2_with fail
    refine (sp_Take b g first is _ HI.out).mono ?_
    rintro e w1 ⟨rfl, hi, hb⟩
    have H1 := Lib.hid hi
    clear hi
    go_wp2
    go_end0
    exact ⟨rfl, by rw [HK.out]; exact H1.out, HW.trans hb⟩
  by_cases h2 : kind = 2
  · have HK := Lib.hid (show playS first is ⟨two, kind, blk⟩ = giveS first is blk by rw [HP.out, if_neg h1, if_pos h2])
    have q1 : (kind == 1) = false := by simpa using h1
    have q2 : (kind == 2) = true := by simpa using h2
    clear h1 h2
    go_enter Try.func20, Try.ntmps20
    go_wp2_with fail
    refine (sp_Give b g first is blk _ HI.out HO.out).mono ?_
    rintro e w1 ⟨rfl, hi, hb⟩
    have H1 := Lib.hid hi
    clear hi
    go_wp2
    go_end0
    exact ⟨rfl, by rw [HK.out]; exact H1.out, HW.trans hb⟩
  by_cases h3 : kind = 3
  · have HK := Lib.hid (show playS first is ⟨two, kind, blk⟩ = commitS is by rw [HP.out, if_neg h1, if_neg h2, if_pos h3])
    have q1 : (kind == 1) = false := by simpa using h1
    have q2 : (kind == 2) = false := by simpa using h2
    have q3 : (kind == 3) = true := by simpa using h3
    clear h1 h2 h3
    go_enter Try.func20, Try.ntmps20
    go_wp2_with fail
    refine (sp_Commit b g first is _ HI.out).mono ?_
    rintro e w1 ⟨rfl, hi, hb⟩
    have H1 := Lib.hid hi
    clear hi
    go_wp2
    go_end0
    exact ⟨rfl, by rw [HK.out]; exact H1.out, HW.trans hb⟩
  by_cases h4 : kind = 4
  · have HK := Lib.hid (show playS first is ⟨two, kind, blk⟩ = backS is by rw [HP.out, if_neg h1, if_neg h2, if_neg h3, if_pos h4])
    have q1 : (kind == 1) = false := by simpa using h1
    have q2 : (kind == 2) = false := by simpa using h2
    have q3 : (kind == 3) = false := by simpa using h3
    have q4 : (kind == 4) = true := by simpa using h4
    clear h1 h2 h3 h4
    go_enter Try.func20, Try.ntmps20
    go_wp2_with fail
    refine (sp_Back b g first is _ HI.out).mono ?_
    rintro e w1 ⟨rfl, hi, hb⟩
    have H1 := Lib.hid hi
    clear hi
    go_wp2
    go_end0
    exact ⟨rfl, by rw [HK.out]; exact H1.out, HW.trans hb⟩
  · have HK := Lib.hid (show playS first is ⟨two, kind, blk⟩ = is by rw [HP.out, if_neg h1, if_neg h2, if_neg h3, if_neg h4])
    have q1 : (kind == 1) = false := by simpa using h1
    have q2 : (kind == 2) = false := by simpa using h2
    have q3 : (kind == 3) = false := by simpa using h3
    have q4 : (kind == 4) = false := by simpa using h4
    clear h1 h2 h3 h4
    go_enter Try.func20, Try.ntmps20
    go_wp2
    go_end0
    exact ⟨rfl, by rw [HK.out]; exact HI.out, HW⟩
theorem l8_fixed (w : World) : Calls Try.prog 9 #[] w fun e w' => ∃ b, e = .returned (.pointer (some ⟨b, 0, none⟩)) ∧ Below w.heap.size w w' := by
  have HR := Lib.hid (RdI.lit [] w [5, 7] 2 rfl (by omega) (by simp))
  have hok : NewOk 4 10 [5, 7] 2 := by
    intro i hi
    match i, hi with
    | 0, _ => decide
    | 1, _ => decide
  have HOK := Lib.hid hok
  clear hok
  have hB0 : Below w.heap.size w (w.alloc (.cells (iv_ [5, 7]).toArray 3)) := (Below.refl _ _).alloc (Nat.le_refl _) _
  have hn : nk [5, 7] 4 (10 - 4) 2 = [0, 2, 0, 2, 0, 0] := by decide
  have HN := Lib.hid hn
  clear hn
  go_enter Try.func9, Try.ntmps9
  go_wp2_with fail
  refine (sp_New 10 4 (by omega) (by omega) _ 2 2 [5, 7] _ HR.out).mono ?_
  rintro e w1 hp
  obtain ⟨rfl, hI⟩ := hp.1 HOK.out
  have hB1 := hp.2.2
  rw [HN.out] at hI
  have HI := Lib.hid hI
  obtain ⟨g, hg⟩ : ∃ g, g = (w.alloc (Obj.cells (iv_ [5, 7]).toArray 3)).heap.size := ⟨_, rfl⟩
  have hgw : w.heap.size ≤ g := by rw [hg]; exact hB0.size
  rw [← hg] at HI ⊢
  have HB := Lib.hid (hB0.trans (hB1.mono hB0.size))
  obtain ⟨b, hb⟩ : ∃ b, b = g + 1 := ⟨_, rfl⟩
  rw [← hb] at HI ⊢
  have HS : ∀ k ∈ [b, g], w.heap.size ≤ k := by intro k hk; simp at hk; omega
  clear hp hI hB1 hb hg hgw
  have F4 : (([0, 2, 0, 2, 0, 0] : List Int).count 0) = 4 := by decide
  go_wp2_with fail
  refine (sp_Free b g 4 _ w1 HI.out).mono ?_
  rintro e w2 ⟨he, rfl⟩
  rw [F4] at he
  subst he
  clear F4
  go_wp2_with fail
  refine (sp_Take b g 4 _ _ HI.out).mono ?_
  rintro e w2 ⟨he, hi, ho⟩
  rw [show takeB 4 [0, 2, 0, 2, 0, 0] = 4 by decide, show takeE [0, 2, 0, 2, 0, 0] = 0 by decide] at he
  subst he
  rw [show takeS [0, 2, 0, 2, 0, 0] = [1, 2, 0, 2, 0, 0] by decide] at hi
  have H2 := Lib.hid hi
  have B2 := Lib.hid (HB.out.trans (ho.below HB.out.size HS))
  clear hi ho
  go_wp2_with fail
  refine (sp_Give b g 4 _ 4 _ H2.out (by omega)).mono ?_
  rintro e w3 ⟨he, hi, ho⟩
  rw [show giveE 4 [1, 2, 0, 2, 0, 0] 4 = 0 by decide] at he
  subst he
  rw [show giveS 4 [1, 2, 0, 2, 0, 0] 4 = [0, 2, 0, 2, 0, 0] by decide] at hi
  have H3 := Lib.hid hi
  have B3 := Lib.hid (B2.out.trans (ho.below B2.out.size HS))
  clear hi ho
  have F4 : (([0, 2, 0, 2, 0, 0] : List Int).count 0) = 4 := by decide
  go_wp2_with fail
  refine (sp_Free b g 4 _ w3 H3.out).mono ?_
  rintro e w4 ⟨he, rfl⟩
  rw [F4] at he
  subst he
  clear F4 HS
  go_wp2
  go_ret
  exact ⟨b, rfl, B3.out⟩
/-- The cells of a slice of bools. -/
structure RdB (w : World) (A : Option Addr) (n c : Nat) (l : List Bool) : Prop where
  len : l.length = n
  cap : n ≤ c
  max : n ≤ 140737488355328
  at_ : 0 < n → ∃ b o, A = some ⟨b, o, none⟩ ∧ ∀ j, j < n → w.cell? ⟨b, o + j, none⟩ = some (.bool (l.getD j false))
def mi (l : List Bool) : List Int := l.map fun b => if b then 1 else 0
theorem mi_get (l : List Bool) (k : Nat) : (mi l).getD k 0 = if l.getD k false then 1 else 0 := by
  simp only [mi, List.getD_eq_getElem?_getD, List.getElem?_map]
  cases l[k]? <;> simp
def p1 (x : Int) : Bool := decide (x = 1)
theorem sel_get (p : Int → Bool) (first : Nat) (is : List Int) : ∀ k i, i < (sel p first is k).length → (first : Int) ≤ (sel p first is k).getD i 0 ∧ (sel p first is k).getD i 0 < first + k ∧ (0 < i → (sel p first is k).getD (i - 1) 0 < (sel p first is k).getD i 0)
  | 0, i, h => by simp [sel] at h
  | k + 1, i, h => by
    rw [sel] at h ⊢
    cases hp : p (is.getD k 0)
    · rw [hp] at h
      simp only [Bool.false_eq_true, if_false] at h ⊢
      have := sel_get p first is k i h
      omega
    · rw [hp] at h
      simp only [if_true] at h ⊢
      by_cases hi : i < (sel p first is k).length
      · have := sel_get p first is k i hi
        have e1 : ((sel p first is k) ++ [((first + k : Nat) : Int)]).getD i 0 = (sel p first is k).getD i 0 := by
          simp only [List.getD_eq_getElem?_getD]; rw [List.getElem?_append_left hi]
        rw [e1]
        refine ⟨this.1, by omega, fun h0 => ?_⟩
        have e2 : ((sel p first is k) ++ [((first + k : Nat) : Int)]).getD (i - 1) 0 = (sel p first is k).getD (i - 1) 0 := by
          simp only [List.getD_eq_getElem?_getD]; rw [List.getElem?_append_left (by omega)]
        rw [e2]
        exact this.2.2 h0
      · have hie : i = (sel p first is k).length := by simp at h; omega
        subst hie
        have e1 : ((sel p first is k) ++ [((first + k : Nat) : Int)]).getD (sel p first is k).length 0 = ((first + k : Nat) : Int) := by
          simp [List.getD_eq_getElem?_getD]
        rw [e1]
        refine ⟨by omega, by omega, fun h0 => ?_⟩
        have e2 : ((sel p first is k) ++ [((first + k : Nat) : Int)]).getD ((sel p first is k).length - 1) 0 = (sel p first is k).getD ((sel p first is k).length - 1) 0 := by
          simp only [List.getD_eq_getElem?_getD]; rw [List.getElem?_append_left (by omega)]
        rw [e2]
        have := (sel_get p first is k ((sel p first is k).length - 1) (by omega)).2.1
        omega
theorem sel_ok (p : Int → Bool) (first : Nat) (is : List Int) (k : Nat) (blocks : Nat) (hb : first + k ≤ blocks) : NewOk first blocks (sel p first is k) (sel p first is k).length := by
  intro i hi
  have := sel_get p first is k i hi
  exact decide_eq_true ⟨this.1, by omega, this.2.2⟩
theorem nk_vals (l : List Int) (first m : Nat) : ∀ k, ∀ x ∈ nk l first m k, x = 0 ∨ x = 2
  | 0, x, h => by simp [nk] at h; omega
  | k + 1, x, h => by
    rw [nk] at h
    rcases List.mem_or_eq_of_mem_set h with h | h
    · exact nk_vals l first m k x h
    · exact .inr h
end Go.Proofs.Ytodondpggkohjaa
