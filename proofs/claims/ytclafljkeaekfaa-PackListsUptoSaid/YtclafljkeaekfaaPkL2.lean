/- The plain law of one form: what a reader takes is a right value whose form stands there; or the reader stays where it is, with an error. -/
import Derived.Test.YtclafljkeaekfaaPk11
set_option linter.unusedVariables false
set_option linter.unusedSimpArgs false
set_option maxRecDepth 100000
namespace Go.Proofs.Ytclafljkeaekfaa
open Go.RowKit
def TkS (r : Nat) (L : List UInt8) (at_ : Nat) (y : ValV) (at' : Nat) (e' : Int) : Prop :=
  (e' = 0 ∧ y.kind = r ∧ Rt y ∧ y.s.size ≤ 1048576 ∧ at' = at_ + (form y).length ∧ (L.drop at_).take (form y).length = form y ∧ at' ≤ L.length) ∨ (e' ≠ 0 ∧ at' = at_ ∧ y = ⟨r, 0, 0, ⟨#[]⟩⟩)
theorem rU_cases (L : List UInt8) (at_ : Nat) (ha : at_ ≤ L.length) : (∃ v, rU L at_ 0 = (v, at_ + (nf v).length, 0) ∧ v < 2 ^ 64 ∧ (L.drop at_).take (nf v).length = nf v ∧ at_ + (nf v).length ≤ L.length) ∨ (∃ e, e ≠ 0 ∧ rU L at_ 0 = (0, at_, e)) := by
  unfold rU
  rw [if_pos rfl]
  by_cases h : (un 10 (L.drop at_)).1 = 0
  · rw [if_pos h]
    have hu : un 10 (L.drop at_) = (0, (un 10 (L.drop at_)).2.1, (un 10 (L.drop at_)).2.2) := Prod.ext h rfl
    have h1 := nf_un hu
    have h2 := nf_un_length hu
    refine .inl ⟨_, ?_, h1.2.2.2, ?_, ?_⟩
    · rw [h2]
    · rw [h2]; exact h1.1
    · have := h1.2.1
      rw [List.length_drop] at this
      rw [h2]; omega
  · rw [if_neg h]
    exact .inr ⟨_, by omega, rfl⟩
theorem es_size : (⟨#[]⟩ : ByteArray).size = 0 := rfl
theorem rt_0 (v : Nat) (h : v < 2 ^ 64) : Rt ⟨0, v, 0, ⟨#[]⟩⟩ := ⟨⟨by simp only; omega, ⟨by simp, by simp⟩, by simp [es_size]⟩, rfl⟩
theorem unzz_bounds (v : Nat) (h : v < 2 ^ 64) : -9223372036854775808 ≤ unzz v ∧ unzz v < 9223372036854775808 := by
  unfold unzz; split <;> omega
theorem rt_1 (v : Nat) (h : v < 2 ^ 64) : Rt ⟨1, 0, unzz v, ⟨#[]⟩⟩ := ⟨⟨by simp, unzz_bounds v h, by simp [es_size]⟩, rfl⟩
theorem rt_2 (b : Bool) : Rt ⟨2, 0, b2i b, ⟨#[]⟩⟩ := ⟨⟨by simp, by cases b <;> simp [b2i], by simp [es_size]⟩, by cases b <;> rfl⟩
theorem rt_3 (v : UInt8) : Rt ⟨3, v.toNat, 0, ⟨#[]⟩⟩ := by
  have h := v.toNat_lt
  refine ⟨⟨by simp only; omega, ⟨by simp, by simp⟩, by simp [es_size]⟩, ?_⟩
  show (⟨3, v.toNat % 256, 0, _⟩ : ValV) = _
  rw [Nat.mod_eq_of_lt (by omega)]
theorem rt_4 (s : ByteArray) (h : s.size ≤ 140737488355328) : Rt ⟨4, 0, 0, s⟩ := ⟨⟨by simp, ⟨by simp, by simp⟩, h⟩, rfl⟩
theorem rt_5 (v : Nat) (h : v ≤ 4096) : Rt ⟨5, 0, (v : Int), ⟨#[]⟩⟩ := by
  refine ⟨⟨by simp, ⟨by simp only; omega, by simp only; omega⟩, by simp [es_size]⟩, ?_⟩
  show (⟨5, 0, (v : Int) % 8192 % 4097, _⟩ : ValV) = _
  rw [show (v : Int) % 8192 % 4097 = v by omega]
theorem take_one (L : List UInt8) (k : Nat) (h : k < L.length) : (L.drop k).take 1 = [L.getD k 0] := by
  rw [drop_cons L k h]; rfl
section
variable (L : List UInt8) (at_ : Nat) (ha : at_ ≤ L.length)
include ha
theorem tk0 : TkS 0 L at_ ⟨0, (rU L at_ 0).1, 0, ⟨#[]⟩⟩ (rU L at_ 0).2.1 (rU L at_ 0).2.2 := by
  rcases rU_cases L at_ ha with ⟨v, h, h1, h2, h3⟩ | ⟨e, he, h⟩
  · rw [h]; exact .inl ⟨rfl, rfl, rt_0 v h1, by simp [es_size], rfl, h2, h3⟩
  · rw [h]; exact .inr ⟨he, rfl, rfl⟩
theorem tk1 : TkS 1 L at_ ⟨1, 0, unzz (rU L at_ 0).1, ⟨#[]⟩⟩ (rU L at_ 0).2.1 (rU L at_ 0).2.2 := by
  rcases rU_cases L at_ ha with ⟨v, h, h1, h2, h3⟩ | ⟨e, he, h⟩
  · rw [h]
    have hf : form ⟨1, 0, unzz v, ⟨#[]⟩⟩ = nf v := by show nf (zz (unzz v)) = nf v; rw [zz_unzz]
    exact .inl ⟨rfl, rfl, rt_1 v h1, by simp [es_size], by rw [hf], by rw [hf]; exact h2, h3⟩
  · rw [h]; exact .inr ⟨he, rfl, by show (⟨1, 0, unzz 0, _⟩ : ValV) = _; rfl⟩
theorem tk3 : TkS 3 L at_ ⟨3, (rB L at_ 0).1.toNat, 0, ⟨#[]⟩⟩ (rB L at_ 0).2.1 (rB L at_ 0).2.2 := by
  have _ := ha
  by_cases h : at_ < L.length
  · rw [show rB L at_ 0 = (L.getD at_ 0, at_ + 1, 0) by rw [rB, if_pos rfl, if_pos h]]
    have hf : form ⟨3, (L.getD at_ 0).toNat, 0, ⟨#[]⟩⟩ = [L.getD at_ 0] := by show [UInt8.ofNat (L.getD at_ 0).toNat] = _; simp
    refine .inl ⟨rfl, rfl, rt_3 _, by simp [es_size], by rw [hf]; rfl, by rw [hf]; exact take_one L at_ h, by show at_ + 1 ≤ _; omega⟩
  · rw [show rB L at_ 0 = (0, at_, 20) by rw [rB, if_pos rfl, if_neg h]]
    exact .inr ⟨by simp, rfl, rfl⟩
theorem tk2 : TkS 2 L at_ ⟨2, 0, b2i (rO L at_ 0).1, ⟨#[]⟩⟩ (rO L at_ 0).2.1 (rO L at_ 0).2.2 := by
  have _ := ha
  by_cases h : at_ < L.length
  · have hb : rB L at_ 0 = (L.getD at_ 0, at_ + 1, 0) := by rw [rB, if_pos rfl, if_pos h]
    unfold rO
    rw [hb]
    by_cases h1 : 1 < (L.getD at_ 0).toNat
    · rw [if_pos h1]; exact .inr ⟨by simp, rfl, rfl⟩
    · rw [if_neg h1]
      have hf : form ⟨2, 0, b2i ((L.getD at_ 0).toNat == 1), ⟨#[]⟩⟩ = [L.getD at_ 0] := by
        show [if b2i ((L.getD at_ 0).toNat == 1) ≠ 0 then (1 : UInt8) else 0] = _
        rcases (show (L.getD at_ 0).toNat = 0 ∨ (L.getD at_ 0).toNat = 1 by omega) with h2 | h2
        · rw [h2]
          have : L.getD at_ 0 = 0 := UInt8.toNat_inj.1 h2
          rw [this]; rfl
        · rw [h2]
          have : L.getD at_ 0 = 1 := UInt8.toNat_inj.1 h2
          rw [this]; rfl
      exact .inl ⟨rfl, rfl, rt_2 _, by simp [es_size], by rw [hf]; rfl, by rw [hf]; exact take_one L at_ h, by show at_ + 1 ≤ _; omega⟩
  · have hb : rB L at_ 0 = (0, at_, 20) := by rw [rB, if_pos rfl, if_neg h]
    unfold rO
    rw [hb, if_neg (by simp)]
    exact .inr ⟨by simp, rfl, rfl⟩
theorem tk4 : TkS 4 L at_ ⟨4, 0, 0, bstr (rT L at_ 0 1048576).1⟩ (rT L at_ 0 1048576).2.1 (rT L at_ 0 1048576).2.2 := by
  unfold rT
  rcases rU_cases L at_ ha with ⟨v, h, h1, h2, h3⟩ | ⟨e, he, h⟩
  · rw [h]
    simp only
    rw [if_neg (by simp)]
    by_cases hb : (1048576 : Int) < (v : Int)
    · rw [if_pos hb]; exact .inr ⟨by simp, rfl, rfl⟩
    · rw [if_neg hb]
      by_cases hs : L.length - (at_ + (nf v).length) < v
      · rw [if_pos hs]; exact .inr ⟨by simp, rfl, rfl⟩
      · rw [if_neg hs]
        obtain ⟨T, hT⟩ : ∃ T, T = (L.drop (at_ + (nf v).length)).take v := ⟨_, rfl⟩
        rw [← hT]
        have hTl : T.length = v := by rw [hT, List.length_take, List.length_drop]; omega
        have hf : form ⟨4, 0, 0, bstr T⟩ = nf v ++ T := by
          show nf (bstr T).size ++ (bstr T).data.toList = _
          rw [bstr_size, hTl]; simp [bstr]
        dsimp only
        refine .inl ⟨rfl, rfl, rt_4 _ (by rw [bstr_size]; omega), by show (bstr T).size ≤ _; rw [bstr_size]; omega, ?_, ?_, ?_⟩
        · rw [hf, List.length_append, hTl]; omega
        · rw [hf, List.length_append, hTl, List.take_add, h2, List.drop_drop, hT]
        · omega
  · rw [h]
    simp only
    rw [if_pos he]
    exact .inr ⟨he, rfl, rfl⟩
theorem tk5 : TkS 5 L at_ ⟨5, 0, ((rC L at_ 0 1048576).1 : Int), ⟨#[]⟩⟩ (rC L at_ 0 1048576).2.1 (rC L at_ 0 1048576).2.2 := by
  unfold rC
  rcases rU_cases L at_ ha with ⟨v, h, h1, h2, h3⟩ | ⟨e, he, h⟩
  · rw [h]
    simp only
    rw [if_neg (by simp)]
    by_cases hb : (1048576 : Int) < (v : Int) ∨ 4096 < v
    · rw [if_pos hb]; exact .inr ⟨by simp, rfl, rfl⟩
    · rw [if_neg hb]
      have hf : form ⟨5, 0, (v : Int), ⟨#[]⟩⟩ = nf v := by
        show nf (cntN v) = nf v
        rw [show cntN v = v by unfold cntN; omega]
      exact .inl ⟨rfl, rfl, rt_5 v (by omega), by simp [es_size], by rw [hf], by rw [hf]; exact h2, h3⟩
  · rw [h]
    simp only
    rw [if_pos he]
    exact .inr ⟨he, rfl, rfl⟩
end
/-- take of a right kind, at most 1048576 -/
def TkPost (w : World) (b : Nat) (A : Option Addr) (n c : Nat) (L : List UInt8) (at_ r : Nat) (e1 : Ending) (w' : World) : Prop :=
  ∃ (y : ValV) (at' : Nat) (e' : Int), e1 = .returned y.val ∧ IsR w' b A n c L at' e' ∧ Only [b] w w' ∧ TkS r L at_ y at' e'
theorem l2_takeK (r : Nat) (hr : r < 6) (b : Nat) (A : Option Addr) (n c : Nat) (L : List UInt8) (at_ : Nat) (w : World) (h : IsR w b A n c L at_ 0) :
    Calls Try.prog 31 #[.pointer (some ⟨b, 0, none⟩), .int .i64 (r : Int), .int .i64 1048576] w (TkPost w b A n c L at_ r) := by
  have ha : at_ ≤ L.length := by rw [h.rd.len]; exact h.le
  rcases (show r = 0 ∨ r = 1 ∨ r = 2 ∨ r = 3 ∨ r = 4 ∨ r = 5 by omega) with rfl | rfl | rfl | rfl | rfl | rfl
  · exact (l2_take0 b A n c L at_ 0 1048576 w h).mono fun e1 w' h => ⟨_, _, _, h.1, h.2.1, h.2.2, tk0 L at_ ha⟩
  · exact (l2_take1 b A n c L at_ 0 1048576 w h).mono fun e1 w' h => ⟨_, _, _, h.1, h.2.1, h.2.2, tk1 L at_ ha⟩
  · exact (l2_take2 b A n c L at_ 0 1048576 w h).mono fun e1 w' h => ⟨_, _, _, h.1, h.2.1, h.2.2, tk2 L at_ ha⟩
  · exact (l2_take3 b A n c L at_ 0 1048576 w h).mono fun e1 w' h => ⟨_, _, _, h.1, h.2.1, h.2.2, tk3 L at_ ha⟩
  · exact (l2_take4 b A n c L at_ 0 1048576 (by omega) w h).mono fun e1 w' h => ⟨_, _, _, h.1, h.2.1, h.2.2, tk4 L at_ ha⟩
  · exact (l2_take5 b A n c L at_ 0 1048576 (by omega) w h).mono fun e1 w' h => ⟨_, _, _, h.1, h.2.1, h.2.2, tk5 L at_ ha⟩
theorem nf_short (v : Nat) (h : v < 2097152) : (nf v).length ≤ 3 := by
  unfold nf
  rw [nfF]; split
  · simp
  · rw [nfF]; split
    · simp
    · rw [nfF_last _ _ (by omega)]; simp
end Go.Proofs.Ytclafljkeaekfaa
