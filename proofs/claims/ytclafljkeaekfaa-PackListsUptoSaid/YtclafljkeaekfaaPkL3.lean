/- The plain law of parts: the bytes of a list of right values; two unlike lists of the same kinds. -/
import Derived.Test.YtclafljkeaekfaaPk12
set_option linter.unusedVariables false
set_option linter.unusedSimpArgs false
set_option maxRecDepth 100000
namespace Go.Proofs.Ytclafljkeaekfaa
open Go.RowKit
def cat (l : List ValV) : List UInt8 := l.flatMap form
theorem cat_append (l m : List ValV) : cat (l ++ m) = cat l ++ cat m := by simp [cat]
theorem cat_cons (y : ValV) (l : List ValV) : cat (y :: l) = form y ++ cat l := by simp [cat]
theorem cat_len : ∀ (l : List ValV), (∀ y ∈ l, Rt y) → (cat l).length ≤ bulk l
  | [], _ => by simp [cat]
  | y :: r, h => by
    have h1 := cat_len r (fun z hz => h z (by simp [hz]))
    have h2 := (h y (by simp)).len
    rw [cat_cons, List.length_append, bulk]; omega
theorem bulkV_append (l m : List ValV) : bulk (l ++ m) = bulk l + bulk m := by
  induction l with
  | nil => simp [bulk]
  | cons a r ih => rw [List.cons_append, bulk, bulk, ih]; omega
theorem bulk_take (l : List ValV) (k : Nat) : bulk (l.take k) ≤ bulk l := by
  have := bulkV_append (l.take k) (l.drop k)
  rw [List.take_append_drop] at this
  omega
theorem takeV_snoc (l : List ValV) (k : Nat) (h : k < l.length) : l.take (k + 1) = l.take k ++ [l.getD k default] := by
  rw [List.take_succ_eq_append_getElem h, List.getD_eq_getElem?_getD, List.getElem?_eq_getElem h]; rfl
theorem memV (l : List ValV) (k : Nat) (h : k < l.length) : l.getD k default ∈ l := by
  rw [List.getD_eq_getElem?_getD, List.getElem?_eq_getElem h]
  exact List.getElem_mem _
theorem wrn_cat (l : List ValV) (hr : ∀ y ∈ l, Rt y) (hb : bulk l ≤ 1048576) : ∀ k, k ≤ l.length → wrn 1048576 l k = (cat (l.take k), 0)
  | 0, _ => by simp [wrn, cat]
  | k + 1, hk => by
    have ih := wrn_cat l hr hb k (by omega)
    have hs := takeV_snoc l k (by omega)
    have hm := hr _ (memV l k (by omega))
    have hl : (cat (l.take (k + 1))).length ≤ 1048576 := by
      have h1 := cat_len (l.take (k + 1)) (fun y hy => hr y (List.mem_of_mem_take hy))
      have h2 := bulk_take l (k + 1)
      omega
    rw [hs, cat_append, cat_cons, List.length_append, List.length_append] at hl
    have hf := hm.fits (lim := 1048576) (L := cat (l.take k)) (by omega)
    rw [wrn, ih, hs, cat_append]
    simp only
    rw [hf.1, hf.2]
    simp [cat]
theorem sml_get : ∀ (Z : List ValV) (s : Nat), (sml Z s).length ≤ Z.length ∧ ∀ i, i < (sml Z s).length → (sml Z s).getD i default = rgt (Z.getD i default)
  | [], s => by simp [sml]
  | x :: r, s => by
    have ih := sml_get r (s + 10 + (rgt x).s.size)
    rw [sml]
    split
    · simp
    · refine ⟨by simp; omega, fun i hi => ?_⟩
      rcases i with _ | i
      · rfl
      · simpa using ih.2 i (by simpa using hi)
theorem rgt_same_kind (z : ValV) (r : Nat) (hr : r < 6) (h : z.kind = r) : (rgt z).kind = r := by
  unfold rgt
  rw [h, rk_nat r hr]
  rcases (show r = 0 ∨ r = 1 ∨ r = 2 ∨ r = 3 ∨ r = 4 ∨ r = 5 by omega) with rfl | rfl | rfl | rfl | rfl | rfl <;> rfl
theorem nf_alike {u v : Nat} (hu : u < 2 ^ 64) (hv : v < 2 ^ 64) {r1 r2 : List UInt8} (h : nf u ++ r1 = nf v ++ r2) : u = v := by
  have h1 := un_nf u hu r1
  have h2 := un_nf v hv r2
  rw [h, h2] at h1
  simp only [Prod.mk.injEq] at h1
  exact h1.2.1.symm
theorem Rt.alike {y z : ValV} (hy : Rt y) (hz : Rt z) (hk : y.kind = z.kind) {r1 r2 : List UInt8} (h : form y ++ r1 = form z ++ r2) : y = z := by
  rcases hy.cases with ⟨u, rfl, h1⟩ | ⟨i, rfl, h1, h2⟩ | ⟨i, rfl, h1⟩ | ⟨u, rfl, h1⟩ | ⟨s, rfl⟩ | ⟨i, rfl, h1, h2⟩ <;>
    rcases hz.cases with ⟨u', rfl, g1⟩ | ⟨i', rfl, g1, g2⟩ | ⟨i', rfl, g1⟩ | ⟨u', rfl, g1⟩ | ⟨s', rfl⟩ | ⟨i', rfl, g1, g2⟩ <;>
    first | (exfalso; simp at hk; done) | skip
  · have h3 : u = u' := nf_alike (r1 := r1) (r2 := r2) (by omega) (by omega) h
    rw [h3]
  · have h3 : zz i = zz i' := nf_alike (r1 := r1) (r2 := r2) (zz_lt i h1 h2) (zz_lt i' g1 g2) h
    have := congrArg unzz h3
    rw [unzz_zz, unzz_zz] at this
    rw [this]
  · have h3 : [if i ≠ 0 then (1 : UInt8) else 0] ++ r1 = [if i' ≠ 0 then (1 : UInt8) else 0] ++ r2 := h
    simp only [List.cons_append, List.cons.injEq] at h3
    have h4 := h3.1
    rcases h1 with rfl | rfl <;> rcases g1 with rfl | rfl <;> simp at h4 <;> rfl
  · have h3 : [UInt8.ofNat u] ++ r1 = [UInt8.ofNat u'] ++ r2 := h
    simp only [List.cons_append, List.cons.injEq] at h3
    have h4 := congrArg UInt8.toNat h3.1
    rw [ofNat_toNat _ h1, ofNat_toNat _ g1] at h4
    rw [h4]
  · have h3 : nf s.size ++ s.data.toList ++ r1 = nf s'.size ++ s'.data.toList ++ r2 := h
    rw [List.append_assoc, List.append_assoc] at h3
    have h4 := hy.ok.s
    have h5 := hz.ok.s
    have h6 : s.size = s'.size := nf_alike (by simp only at h4; omega) (by simp only at h5; omega) h3
    rw [h6] at h3
    have h7 := List.append_cancel_left h3
    have h8 := List.append_inj_left h7 (by rw [str_len, str_len, h6])
    have h9 : s = s' := by
      have := congrArg bstr h8
      rwa [bstr_eq, bstr_eq] at this
    rw [h9]
  · have h3 : cntN i = cntN i' := nf_alike (r1 := r1) (r2 := r2) (by unfold cntN; omega) (by unfold cntN; omega) h
    have : i = i' := by unfold cntN at h3; omega
    rw [this]
/-- the same bytes as far as both go: just if the lists are alike -/
theorem parts_law (l m : List ValV) (k a : Nat) (hl : l.length = k) (hm : m.length = k) (hrl : ∀ y ∈ l, Rt y) (hrm : ∀ y ∈ m, Rt y) (hk : ∀ i, i < k → (l.getD i default).kind = (m.getD i default).kind) (ha : a ≤ k)
    (heq : l.take a = m.take a) (hne : a < k → l.getD a default ≠ m.getD a default) :
    decide ((cat l).take (min (cat l).length (cat m).length) = (cat m).take (min (cat l).length (cat m).length)) = decide (a = k) ∧ (a = k → (cat l).length = (cat m).length) := by
  by_cases hak : a = k
  · have : l = m := by
      rw [hak] at heq
      rwa [List.take_of_length_le (by omega), List.take_of_length_le (by omega)] at heq
    subst this
    rw [decide_eq_true rfl, decide_eq_true hak]
    exact ⟨rfl, fun _ => rfl⟩
  · refine ⟨?_, fun h => absurd h hak⟩
    rw [decide_eq_false hak]
    apply decide_eq_false
    intro h
    have hka : a < k := by omega
    have e1 : l = l.take a ++ (l.getD a default :: l.drop (a + 1)) := by rw [← dropV l a (by omega), List.take_append_drop]
    have e2 : m = m.take a ++ (m.getD a default :: m.drop (a + 1)) := by rw [← dropV m a (by omega), List.take_append_drop]
    have c1 : cat l = cat (l.take a) ++ (form (l.getD a default) ++ cat (l.drop (a + 1))) := by conv => lhs; rw [e1, cat_append, cat_cons]
    have c2 : cat m = cat (l.take a) ++ (form (m.getD a default) ++ cat (m.drop (a + 1))) := by conv => lhs; rw [e2, cat_append, cat_cons, ← heq]
    refine hne hka ?_
    rcases Nat.le_total (cat l).length (cat m).length with hle | hle
    · rw [Nat.min_eq_left hle, List.take_length] at h
      have h2 : cat m = cat l ++ (cat m).drop (cat l).length := by
        conv => lhs; rw [← List.take_append_drop (cat l).length (cat m), ← h]
      rw [c2] at h2
      conv at h2 => rhs; rw [c1]
      rw [List.append_assoc] at h2
      have h3 := List.append_cancel_left h2
      rw [List.append_assoc] at h3
      exact ((hrm _ (memV m a (by omega))).alike (hrl _ (memV l a (by omega))) (hk a hka).symm h3).symm
    · rw [Nat.min_eq_right hle, List.take_length] at h
      have h2 : cat l = cat m ++ (cat l).drop (cat m).length := by
        conv => lhs; rw [← List.take_append_drop (cat m).length (cat l), h]
      rw [c1] at h2
      conv at h2 => rhs; rw [c2]
      rw [List.append_assoc] at h2
      have h3 := List.append_cancel_left h2
      rw [List.append_assoc] at h3
      exact (hrl _ (memV l a (by omega))).alike (hrm _ (memV m a (by omega))) (hk a hka) h3
/-- the values of the second list with the kinds of the first -/
def zp (M l : List ValV) : Nat → List ValV
  | 0 => []
  | k + 1 => zp M l k ++ [⟨(M.getD k default).kind, (l.getD k default).u, (l.getD k default).i, (l.getD k default).s⟩]
theorem zp_length (M l : List ValV) : ∀ k, (zp M l k).length = k
  | 0 => rfl
  | k + 1 => by rw [zp, List.length_append, zp_length M l k]; rfl
theorem zp_get (M l : List ValV) : ∀ k i, i < k → (zp M l k).getD i default = ⟨(M.getD i default).kind, (l.getD i default).u, (l.getD i default).i, (l.getD i default).s⟩
  | 0, i, h => by omega
  | k + 1, i, h => by
    rw [zp]
    by_cases hik : i < k
    · have := zp_get M l k i hik
      rw [← this]
      simp [List.getD_eq_getElem?_getD, List.getElem?_append_left (show i < (zp M l k).length by rw [zp_length]; exact hik)]
    · obtain rfl : i = k := by omega
      simp [List.getD_eq_getElem?_getD, List.getElem?_append_right, zp_length]
theorem zp_ok (M l : List ValV) (hl : ∀ x ∈ l, x.ok) (n : Nat) (hn : l.length = n) : ∀ k, k ≤ n → ∀ y ∈ zp M l k, y.ok
  | 0, _, y, hy => by simp [zp] at hy
  | k + 1, hk, y, hy => by
    rw [zp, List.mem_append] at hy
    rcases hy with hy | hy
    · exact zp_ok M l hl n hn k (by omega) y hy
    · simp at hy
      subst hy
      have := okV hl k (by omega)
      exact ⟨this.u, this.i, this.s⟩
theorem RdV.takeV {w : World} {A : Option Addr} {n c : Nat} {l : List ValV} (h : RdV w A n c l) (m : Nat) (hm : m ≤ n) : RdV w A m c (l.take m) := by
  have h1 := h.len
  have h2 := h.cap
  have h3 := h.max
  refine ⟨by simp; omega, by omega, by omega, fun y hy => h.ok y (List.mem_of_mem_take hy), fun hp => ?_⟩
  obtain ⟨b, o, e, hc⟩ := h.at_ (by omega)
  refine ⟨b, o, e, fun j hj => ?_⟩
  have e2 : (l.take m).getD j default = l.getD j default := by simp [List.getD_eq_getElem?_getD, hj]
  rw [e2]
  exact hc j (by omega)
def eqV (y z : ValV) : Bool := decide (y.kind = z.kind ∧ y.u = z.u ∧ y.i = z.i ∧ y.s = z.s)
theorem eqV_iff (y z : ValV) : eqV y z = true ↔ y = z := by
  obtain ⟨k, u, i, s⟩ := y
  obtain ⟨k', u', i', s'⟩ := z
  unfold eqV
  simp
theorem bytes_toList_inj {s s' : ByteArray} (h : s.toList = s'.toList) : s = s' := by
  rw [ByteArray.toList_eq, ByteArray.toList_eq] at h
  cases s; cases s'; congr 1; exact Array.toList_inj.1 h
theorem run_eql_val (y z : ValV) (W : World) : (binOp .eql 27 y.val z.val).run Try.prog W = .ok (.bool (eqV y z)) W := by
  obtain ⟨k, u, i, s⟩ := y
  obtain ⟨k', u', i', s'⟩ := z
  unfold ValV.val eqV
  dsimp only
  by_cases h1 : k = k'
  · subst h1
    by_cases h2 : u = u'
    · subst h2
      by_cases h3 : i = i'
      · subst h3
        by_cases h4 : s = s'
        · subst h4
          go_simp
        · have h5 : ¬ s.toList = s'.toList := fun h => h4 (bytes_toList_inj h)
          go_simp
      · go_simp
    · have h5 : ¬ (u : Int) = (u' : Int) := by omega
      go_simp
  · go_simp
end Go.Proofs.Ytclafljkeaekfaa
