/- Pages, plain: the order of texts; leaves and inner pages said in the reference's way. -/
import Derived.Test.YtlandlgjhnnaiaaPg5
set_option linter.unusedVariables false
set_option linter.unusedSimpArgs false
namespace Go.Proofs.Ytlandlgjhnnaiaa
open Go.RowKit
theorem bl_irr : ∀ (l : List UInt8), Op.bytesLess l l = false
  | [] => rfl
  | a :: l => by
    show (decide (a < a) || (a == a && Op.bytesLess l l)) = false
    rw [bl_irr l]; simp
theorem bl_tri : ∀ (l m : List UInt8), l = m ∨ (Op.bytesLess l m = true ∧ Op.bytesLess m l = false) ∨ (Op.bytesLess l m = false ∧ Op.bytesLess m l = true)
  | [], [] => .inl rfl
  | [], _ :: _ => .inr (.inl ⟨rfl, rfl⟩)
  | _ :: _, [] => .inr (.inr ⟨rfl, rfl⟩)
  | a :: l, b :: m => by
    rcases Nat.lt_trichotomy a.toNat b.toNat with h | h | h
    · refine .inr (.inl ⟨?_, ?_⟩)
      · show (decide (a < b) || _) = true
        rw [decide_eq_true (UInt8.lt_iff_toNat_lt.2 h)]; rfl
      · show (decide (b < a) || (b == a && _)) = false
        rw [decide_eq_false (fun h2 => by have := UInt8.lt_iff_toNat_lt.1 h2; omega), beq_eq_false_iff_ne.2 (fun e => by rw [e] at h; omega)]; rfl
    · have e : a = b := UInt8.toNat_inj.1 h
      subst e
      have h1 : ∀ x y, Op.bytesLess (a :: x) (a :: y) = Op.bytesLess x y := fun x y => by
        show (decide (a < a) || (a == a && Op.bytesLess x y)) = _
        simp
      rw [h1, h1]
      rcases bl_tri l m with h2 | h2 | h2
      · exact .inl (by rw [h2])
      · exact .inr (.inl h2)
      · exact .inr (.inr h2)
    · refine .inr (.inr ⟨?_, ?_⟩)
      · show (decide (a < b) || (a == b && _)) = false
        rw [decide_eq_false (fun h2 => by have := UInt8.lt_iff_toNat_lt.1 h2; omega), beq_eq_false_iff_ne.2 (fun e => by rw [e] at h; omega)]; rfl
      · show (decide (b < a) || _) = true
        rw [decide_eq_true (UInt8.lt_iff_toNat_lt.2 h)]; rfl
theorem toList_inj' {a b : ByteArray} (h : a.toList = b.toList) : a = b := by
  rw [ByteArray.toList_eq, ByteArray.toList_eq] at h
  cases a; cases b; congr 1; exact Array.toList_inj.1 h
theorem leS_not (a b : ByteArray) : leS a b = !(Op.bytesLess b.toList a.toList) := by
  unfold leS
  rcases bl_tri a.toList b.toList with h | h | h
  · rw [h, bl_irr]; simp
  · rw [h.1, h.2]; rfl
  · rw [h.1, h.2, beq_eq_false_iff_ne.2 (fun e => by rw [e, bl_irr] at h; simp at h)]; rfl
theorem bl_nil : ∀ l : List UInt8, Op.bytesLess l [] = false
  | [] => rfl
  | _ :: _ => rfl
theorem leS_first (a : ByteArray) (h : 1 ≤ a.size) : leS a noS = false := by
  unfold leS
  have h1 : noS.toList = [] := by rw [ByteArray.toList_eq]; rfl
  rw [h1, bl_nil, Bool.false_or]
  refine beq_eq_false_iff_ne.2 fun e => ?_
  rw [ByteArray.toList_eq] at e
  have : a.data.toList.length = 0 := by rw [e]; rfl
  rw [Array.length_toList] at this
  have h2 : a.data.size = a.size := rfl
  omega
/-- may the k-th key follow? as the reference asks it -/
theorem rise_ask (ks : List ByteArray) (k : Nat) (hk : keyOk (ks.getD k default) = true) : (!leS (ks.getD k default) (lastT ks k)) = (decide (k = 0) || Op.bytesLess (lastT ks k).toList (ks.getD k default).toList) := by
  cases k with
  | zero =>
    simp only [keyOk, Bool.and_eq_true, decide_eq_true_eq] at hk
    rw [lastT, leS_first _ hk.1]; rfl
  | succ k => rw [leS_not]; simp
def valOk (e : En) (c : Int) : Bool := !(decide (c = 0) && decide (64 < e.val.size)) && !(decide (c ≠ 0) && (decide (0 < e.val.size) || !blkOk c))
def valsGo : List En → List Int → Bool
  | [], _ => true
  | e :: es, c :: cs => valOk e c && valsGo es cs
  | _ :: _, [] => false
theorem entOk_val (last : ByteArray) (e : En) (c : Int) : entOk last e c = (valOk e c && (keyOk e.key && !leS e.key last)) := by
  unfold entOk valOk
  have h64 : decide (64 < e.val.size) = !decide (e.val.size ≤ 64) := by
    by_cases h : e.val.size ≤ 64
    · rw [decide_eq_true h, decide_eq_false (by omega)]; rfl
    · rw [decide_eq_false h, decide_eq_true (by omega)]; rfl
  rw [h64]
  by_cases hc : c = 0
  · subst hc
    cases keyOk e.key <;> cases leS e.key last <;> simp
  · by_cases hv : e.val.size = 0
    · cases keyOk e.key <;> cases leS e.key last <;> simp [hc, hv]
    · cases keyOk e.key <;> cases leS e.key last <;> simp [hc, hv]
      all_goals (intro h; exact absurd h (by omega))
theorem leafGo_ref : ∀ (es : List En) (cs : List Int) (last : ByteArray), cs.length = es.length → leafGo last es cs = (valsGo es cs && riseGo last (es.map (·.key)))
  | [], cs, last, _ => by cases cs <;> rfl
  | e :: es, [], _, h => by simp at h
  | e :: es, c :: cs, last, h => by
    rw [leafGo, valsGo, List.map_cons, riseGo, leafGo_ref es cs e.key (by simpa using h), entOk_val]
    cases valOk e c <;> cases valsGo es cs <;> cases keyOk e.key <;> cases leS e.key last <;> simp
theorem valsGo_step (es : List En) (cs : List Int) (k : Nat) (h : k < es.length) (hc : cs.length = es.length) :
    valsGo (es.drop k) (cs.drop k) = (valOk (es.getD k default) (cs.getD k 0) && valsGo (es.drop (k + 1)) (cs.drop (k + 1))) := by
  have h1 : es.drop k = es.getD k default :: es.drop (k + 1) := by
    rw [List.getD_eq_getElem?_getD, List.getElem?_eq_getElem h]; simp
  have h2 : cs.drop k = cs.getD k 0 :: cs.drop (k + 1) := by
    rw [List.getD_eq_getElem?_getD, List.getElem?_eq_getElem (by omega)]; simp
  conv => lhs; rw [h1, h2, valsGo]
end Go.Proofs.Ytlandlgjhnnaiaa
