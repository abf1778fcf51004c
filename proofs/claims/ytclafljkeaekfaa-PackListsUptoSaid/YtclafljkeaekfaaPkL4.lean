/- The plain law of reading back: where a right value's form stands, take with the length that is asked for gives that value. -/
import Derived.Test.YtclafljkeaekfaaPkL3
set_option linter.unusedVariables false
set_option linter.unusedSimpArgs false
set_option maxRecDepth 100000
namespace Go.Proofs.Ytclafljkeaekfaa
open Go.RowKit
/-- the most that PackBack hands take -/
def mostV (y : ValV) : Int := if y.kind = 5 then y.i else (y.s.size : Int)
theorem rU_back {L r : List UInt8} {at_ v : Nat} (hv : v < 2 ^ 64) (h : L.drop at_ = nf v ++ r) : rU L at_ 0 = (v, at_ + (nf v).length, 0) := by
  refine rU_ok ?_
  rw [h]; exact un_nf v hv r
theorem drop_lt {L r : List UInt8} {at_ : Nat} {x : UInt8} (h : L.drop at_ = x :: r) : at_ < L.length ∧ L.getD at_ 0 = x := by
  have h1 : at_ < L.length := by
    have := congrArg List.length h
    simp at this; omega
  refine ⟨h1, ?_⟩
  rw [List.drop_eq_getElem_cons h1] at h
  injection h with h2 h3
  rw [List.getD_eq_getElem?_getD, List.getElem?_eq_getElem h1]; exact h2
theorem rB_back {L r : List UInt8} {at_ : Nat} {x : UInt8} (h : L.drop at_ = x :: r) : rB L at_ 0 = (x, at_ + 1, 0) := by
  have := drop_lt h
  rw [rB, if_pos rfl, if_pos this.1, this.2]
theorem toNat_ofNat8 (u : Nat) (h : u < 256) : (UInt8.ofNat u).toNat = u := by simp; omega
def TbPost (y : ValV) (w : World) (b : Nat) (A : Option Addr) (n c : Nat) (L : List UInt8) (at_ : Nat) (e1 : Ending) (w' : World) : Prop :=
  e1 = .returned y.val ∧ IsR w' b A n c L (at_ + (form y).length) 0 ∧ Only [b] w w'
theorem l2_takeBack (y : ValV) (hy : Rt y) (b : Nat) (A : Option Addr) (n c : Nat) (L r : List UInt8) (at_ : Nat) (w : World) (h : IsR w b A n c L at_ 0) (hd : L.drop at_ = form y ++ r) :
    Calls Try.prog 31 #[.pointer (some ⟨b, 0, none⟩), .int .i64 y.kind, .int .i64 (mostV y)] w (TbPost y w b A n c L at_) := by
  rcases hy.cases with ⟨u, rfl, h1⟩ | ⟨i, rfl, h1, h2⟩ | ⟨i, rfl, h1⟩ | ⟨u, rfl, h1⟩ | ⟨s, rfl⟩ | ⟨i, rfl, h1, h2⟩
  · have hf : form ⟨0, u, 0, ⟨#[]⟩⟩ = nf u := rfl
    rw [hf] at hd
    have hu := rU_back (by omega) hd
    refine (l2_take0 b A n c L at_ 0 _ w h).mono fun e1 w' h => ?_
    rw [hu] at h
    unfold TbPost; rw [hf]
    exact h
  · have hf : form ⟨1, 0, i, ⟨#[]⟩⟩ = nf (zz i) := rfl
    rw [hf] at hd
    have hu := rU_back (zz_lt i h1 h2) hd
    refine (l2_take1 b A n c L at_ 0 _ w h).mono fun e1 w' h => ?_
    rw [hu] at h
    unfold TbPost; rw [hf]
    rw [unzz_zz] at h
    exact h
  · have hf : form ⟨2, 0, i, ⟨#[]⟩⟩ = [if i ≠ 0 then 1 else 0] := rfl
    rw [hf] at hd
    have hu := rB_back hd
    refine (l2_take2 b A n c L at_ 0 _ w h).mono fun e1 w' h => ?_
    unfold TbPost; rw [hf]
    unfold rO at h
    rw [hu] at h
    rcases h1 with rfl | rfl
    · exact h
    · exact h
  · have hf : form ⟨3, u, 0, ⟨#[]⟩⟩ = [UInt8.ofNat u] := rfl
    rw [hf] at hd
    have hu := rB_back hd
    refine (l2_take3 b A n c L at_ 0 _ w h).mono fun e1 w' h => ?_
    unfold TbPost; rw [hf]
    rw [hu] at h
    dsimp only at h
    rw [toNat_ofNat8 u h1] at h
    exact h
  · have hf : form ⟨4, 0, 0, s⟩ = nf s.size ++ s.data.toList := rfl
    have hs : s.size ≤ 140737488355328 := hy.ok.s
    rw [hf, List.append_assoc] at hd
    have hu := rU_back (v := s.size) (by omega) hd
    have hm : mostV ⟨4, 0, 0, s⟩ = (s.size : Int) := rfl
    rw [hm]
    refine (l2_take4 b A n c L at_ 0 _ (by omega) w h).mono fun e1 w' h => ?_
    unfold TbPost; rw [hf]
    have hd2 : L.drop (at_ + (nf s.size).length) = s.data.toList ++ r := by
      rw [← List.drop_drop, hd, List.drop_left' rfl]
    have hsl : s.data.toList.length = s.size := str_len s
    have hlen : s.size ≤ L.length - (at_ + (nf s.size).length) := by
      have := congrArg List.length hd2
      simp only [List.length_drop, List.length_append, hsl] at this
      omega
    have hrT : rT L at_ 0 (s.size : Int) = (s.data.toList, at_ + (nf s.size ++ s.data.toList).length, 0) := by
      unfold rT
      rw [hu]
      dsimp only
      rw [if_neg (by simp), if_neg (by omega), if_neg (by omega), hd2, List.take_left' hsl, List.length_append, hsl, Nat.add_assoc]
    rw [hrT] at h
    dsimp only at h
    rw [bstr_eq] at h
    exact h
  · have hc : cntN i = i.toNat := by unfold cntN; omega
    have hf : form ⟨5, 0, i, ⟨#[]⟩⟩ = nf (cntN i) := rfl
    rw [hc] at hf
    rw [hf] at hd
    have hu := rU_back (v := i.toNat) (by omega) hd
    have hm : mostV ⟨5, 0, i, ⟨#[]⟩⟩ = i := rfl
    rw [hm]
    refine (l2_take5 b A n c L at_ 0 _ (by omega) w h).mono fun e1 w' h => ?_
    unfold TbPost; rw [hf]
    have hrC : rC L at_ 0 i = (i.toNat, at_ + (nf i.toNat).length, 0) := by
      unfold rC
      rw [hu]
      dsimp only
      rw [if_neg (by simp), if_neg (by omega)]
    rw [hrC] at h
    dsimp only at h
    rw [show ((i.toNat : Nat) : Int) = i by omega] at h
    exact h
/-- what stands from the k-th value on -/
theorem cat_at (l : List ValV) (R : List UInt8) (k : Nat) (h : k < l.length) : (cat l ++ R).drop (cat (l.take k)).length = form (l.getD k default) ++ ((cat (l.drop (k + 1))) ++ R) := by
  have e : cat l = cat (l.take k) ++ (form (l.getD k default) ++ cat (l.drop (k + 1))) := by
    rw [← cat_cons, ← cat_append]
    congr 1
    rw [List.getD_eq_getElem?_getD, List.getElem?_eq_getElem h]
    simp
  rw [e, List.append_assoc, List.drop_left' rfl, List.append_assoc]
theorem cat_next (l : List ValV) (k : Nat) (h : k < l.length) : (cat (l.take (k + 1))).length = (cat (l.take k)).length + (form (l.getD k default)).length := by
  rw [takeV_snoc l k h, cat_append, List.length_append, cat_cons]
  simp [cat]
end Go.Proofs.Ytclafljkeaekfaa
