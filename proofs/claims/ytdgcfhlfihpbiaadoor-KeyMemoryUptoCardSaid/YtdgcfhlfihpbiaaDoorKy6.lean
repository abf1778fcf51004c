/- Walks: Range, the reference's Range. -/
import Derived.Test.YtdgcfhlfihpbiaaDoorKy5
set_option linter.unusedVariables false
set_option linter.unusedSimpArgs false
set_option maxRecDepth 100000
namespace Go.Proofs.YtdgcfhlfihpbiaaDoor
open Go.RowKit
def rgA (ps : List ByteArray) : ByteArray × ByteArray × Int := if (mkA ps).2 ≠ 0 then (⟨#[]⟩, ⟨#[]⟩, (mkA ps).2) else ((mkA ps).1, (mkA ps).1.extract 0 ((mkA ps).1.size - 1) ++ ⟨#[2]⟩, 0)
def RgPost (ps : List ByteArray) (w : World) (e : Ending) (w' : World) : Prop := e = .returned (.tuple #[.string (rgA ps).1, .string (rgA ps).2.1, .int .i64 (rgA ps).2.2]) ∧ Below w.heap.size w w'
theorem mkL_pos {ps : List ByteArray} (h : ps.length ≠ 0) : 2 ≤ (mkL ps).length := by
  cases ps with
  | nil => simp at h
  | cons p r => rw [mkL_cons, List.length_append, List.length_cons, List.length_cons]; omega
theorem ky_Range (A : Option Addr) (n c : Nat) (ps : List ByteArray) (w : World) (hr : RdT w A n c ps) (hs : ∀ x ∈ ps, x.size ≤ 1048576) (hm : MaxL w) :
    Calls Tryd.prog 26 #[.slice A n c] w (RgPost ps w) := by
  have HMK := Lib.hid (ky_Make A n c ps w hr hs hm)
  clear hr hs hm
  go_enter Tryd.func26, Tryd.ntmps26
  go_wp2_with fail
  refine HMK.out.mono ?_
  rintro e w1 ⟨rfl, hB⟩
  have HB := Lib.hid hB
  have hcase : ((mkA ps).2 = 0 ∧ 2 ≤ (mkA ps).1.size ∧ (mkA ps).1.size ≤ 120) ∨ (mkA ps).2 ≠ 0 := by
    rcases Classical.em ((mkA ps).2 = 0) with h | h
    · obtain ⟨h1, h2, h3, h4⟩ := mkA_ok h
      refine .inl ⟨h, ?_, ?_⟩ <;> rw [h4] <;> dsimp only <;> rw [bstr_size]
      · exact mkL_pos h1
      · exact h3
    · exact .inr h
  have hrg : rgA ps = if (mkA ps).2 ≠ 0 then (⟨#[]⟩, ⟨#[]⟩, (mkA ps).2) else ((mkA ps).1, (mkA ps).1.extract 0 ((mkA ps).1.size - 1) ++ ⟨#[2]⟩, 0) := rfl
  obtain ⟨s, hs⟩ : ∃ s, s = (mkA ps).1 := ⟨_, rfl⟩
  obtain ⟨er, her⟩ : ∃ er, er = (mkA ps).2 := ⟨_, rfl⟩
  rw [← hs, ← her] at hrg hcase ⊢
  have HRG := Lib.hid hrg
  clear hB hs her hrg
  rcases hcase with ⟨h0, h1, h2⟩ | h0
  · have HR := Lib.hid (show rgA ps = (s, s.extract 0 (s.size - 1) ++ ⟨#[2]⟩, 0) by rw [HRG.out, if_neg (by simp [h0])])
    subst h0
    go_wp2_with fail
    go_quiet ((fail))
    go_wp2
    go_ret3
    unfold RgPost
    rw [HR.out]
    exact ⟨rfl, below_drewN HB.out _⟩
  · have HR := Lib.hid (show rgA ps = (⟨#[]⟩, ⟨#[]⟩, er) by rw [HRG.out, if_pos h0])
    have e1 : (er != 0) = true := by simpa using h0
    clear h0
    go_wp2
    go_ret3
    unfold RgPost
    rw [HR.out]
    exact ⟨rfl, HB.out⟩
theorem kr_Range (A : Option Addr) (n c : Nat) (ps : List ByteArray) (w : World) (hr : RdT w A n c ps) (hs : ∀ x ∈ ps, x.size ≤ 1048576) :
    Calls Tryd.prog 27 #[.slice A n c] w (RgPost ps w) := by
  have HMK := Lib.hid (kr_Make A n c ps w hr hs)
  clear hr hs
  go_enter Tryd.func27, Tryd.ntmps27
  go_wp2_with fail
  refine HMK.out.mono ?_
  rintro e w1 ⟨rfl, hB⟩
  have HB := Lib.hid hB
  have hcase : ((mkA ps).2 = 0 ∧ 2 ≤ (mkA ps).1.size ∧ (mkA ps).1.size ≤ 120) ∨ (mkA ps).2 ≠ 0 := by
    rcases Classical.em ((mkA ps).2 = 0) with h | h
    · obtain ⟨h1, h2, h3, h4⟩ := mkA_ok h
      refine .inl ⟨h, ?_, ?_⟩ <;> rw [h4] <;> dsimp only <;> rw [bstr_size]
      · exact mkL_pos h1
      · exact h3
    · exact .inr h
  have hrg : rgA ps = if (mkA ps).2 ≠ 0 then (⟨#[]⟩, ⟨#[]⟩, (mkA ps).2) else ((mkA ps).1, (mkA ps).1.extract 0 ((mkA ps).1.size - 1) ++ ⟨#[2]⟩, 0) := rfl
  obtain ⟨s, hs⟩ : ∃ s, s = (mkA ps).1 := ⟨_, rfl⟩
  obtain ⟨er, her⟩ : ∃ er, er = (mkA ps).2 := ⟨_, rfl⟩
  rw [← hs, ← her] at hrg hcase ⊢
  have HRG := Lib.hid hrg
  clear hB hs her hrg
  rcases hcase with ⟨h0, h1, h2⟩ | h0
  · have HR := Lib.hid (show rgA ps = (s, s.extract 0 (s.size - 1) ++ ⟨#[2]⟩, 0) by rw [HRG.out, if_neg (by simp [h0])])
    subst h0
    go_wp2_with fail
    go_quiet ((fail))
    go_wp2
    go_ret3
    unfold RgPost
    rw [HR.out]
    exact ⟨rfl, below_drewN HB.out _⟩
  · have HR := Lib.hid (show rgA ps = (⟨#[]⟩, ⟨#[]⟩, er) by rw [HRG.out, if_pos h0])
    have e1 : (er != 0) = true := by simpa using h0
    clear h0
    go_wp2
    go_ret3
    unfold RgPost
    rw [HR.out]
    exact ⟨rfl, HB.out⟩
end Go.Proofs.YtdgcfhlfihpbiaaDoor
