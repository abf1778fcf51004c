/- DevLeaves, its plain part: what a crash leaves of two blocks. -/
import Derived.Test.YtjbffahmjhbpjaaDvl6
import Derived.Test.YtjbffahmjhbpjaaQv
set_option linter.unusedVariables false
set_option linter.unusedSimpArgs false
set_option maxRecDepth 100000
namespace Go.Proofs.Ytjbffahmjhbpjaa
open Go.RowKit
def lvF (i : Nat) : List UInt8 := List.replicate 512 (UInt8.ofNat (17 * i + 3))
theorem lvF_len (i : Nat) : (lvF i).length = 512 := List.length_replicate
def lvAt (os : List Bool) (i : Nat) : Nat := if os.getD i false = true then 8 else 7
def lvC (os : List Bool) : Nat → List Pd
  | 0 => []
  | i + 1 => lvC os i ++ [⟨lvAt os i, lvF i⟩]
/-- the writes to one of the two blocks, with their fates -/
def lvZ (os : List Bool) (fs : List Ft) (two : Bool) : Nat → List (List UInt8 × Ft)
  | 0 => []
  | i + 1 => if os.getD i false = two then lvZ os fs two i ++ [(lvF i, fs.getD i default)] else lvZ os fs two i
theorem lvC_len (os : List Bool) : ∀ i, (lvC os i).length = i
  | 0 => rfl
  | i + 1 => by rw [lvC, List.length_append, lvC_len os i]; rfl
theorem lvC_ok (os : List Bool) : ∀ i, PdOk 64 (lvC os i)
  | 0 => PdOk.nil _
  | i + 1 => (lvC_ok os i).snoc (by show lvAt os i < 64; unfold lvAt; split <;> omega) (lvF_len i)
theorem lvZ_ok (os : List Bool) (fs : List Ft) (two : Bool) : ∀ i, ∀ p ∈ lvZ os fs two i, p.1.length = 512
  | 0, p, h => by cases h
  | i + 1, p, h => by
    rw [lvZ] at h
    split at h
    · rcases List.mem_append.1 h with h | h
      · exact lvZ_ok os fs two i p h
      · rw [List.mem_singleton.1 h]; exact lvF_len i
    · exact lvZ_ok os fs two i p h
theorem lvZ_le (os : List Bool) (fs : List Ft) (two : Bool) : ∀ i, (lvZ os fs two i).length ≤ i
  | 0 => Nat.le_refl _
  | i + 1 => by
    have := lvZ_le os fs two i
    rw [lvZ]
    split
    · rw [List.length_append]; simp; omega
    · omega
theorem crN_fate (fs : List Ft) (i : Nat) : crN fs i = ftN (fs.getD i default) := by
  unfold crN
  split
  · rfl
  · rename_i h
    rw [List.getD_eq_getElem?_getD, List.getElem?_eq_none (by omega)]
    rfl
def lvM (os : List Bool) (fs : List Ft) (i : Nat) (M : List UInt8) : List UInt8 := layA (crN fs) 0 (lvC os i) M
theorem lvM_snoc (os : List Bool) (fs : List Ft) (i : Nat) (M : List UInt8) : lvM os fs (i + 1) M = layP (lvM os fs i M) ⟨lvAt os i, lvF i⟩ (ftN (fs.getD i default)) := by
  unfold lvM
  rw [lvC, layA_snoc, lvC_len, Nat.zero_add, crN_fate]
theorem lvM_len (os : List Bool) (fs : List Ft) (i : Nat) (M : List UInt8) (h : M.length = 64 * 512) : (lvM os fs i M).length = 64 * 512 := layA_len 0 _ M (lvC_ok os i) h
theorem lvM_blk (os : List Bool) (fs : List Ft) (two : Bool) (M : List UInt8) (h : M.length = 64 * 512) : ∀ i, blkM (lvM os fs i M) (if two = true then 8 else 7) = ovQ (lvZ os fs two i) (blkM M (if two = true then 8 else 7))
  | 0 => rfl
  | i + 1 => by
    have ih := lvM_blk os fs two M h i
    have hl := lvM_len os fs i M h
    have hat : lvAt os i < 64 := by unfold lvAt; split <;> omega
    rw [lvM_snoc, lvZ]
    by_cases he : os.getD i false = two
    · have hat2 : lvAt os i = if two = true then 8 else 7 := by unfold lvAt; rw [he]
      rw [if_pos he, ovQ_snoc, ← ih, ← hat2]
      exact layP_same hl hat (lvF_len i)
    · rw [if_neg he, ← ih]
      refine layP_other hl hat (lvF_len i) ?_
      show lvAt os i ≠ _
      unfold lvAt
      cases two <;> cases hb : os.getD i false <;> simp_all
theorem lvM_out (os : List Bool) (fs : List Ft) (M : List UInt8) (h : M.length = 64 * 512) (q : Nat) (hq : q < 3584 ∨ 4608 ≤ q) : ∀ i, (lvM os fs i M)[q]? = M[q]?
  | 0 => rfl
  | i + 1 => by
    have hl := lvM_len os fs i M h
    have hat : lvAt os i = 7 ∨ lvAt os i = 8 := by unfold lvAt; split <;> omega
    have hle := ftN_le (fs.getD i default)
    have h5 : ((lvF i).take (ftN (fs.getD i default))).length ≤ 512 := by rw [List.length_take, lvF_len]; omega
    have h6 : ((⟨lvAt os i, lvF i⟩ : Pd).data.take (ftN (fs.getD i default))).length ≤ 512 := h5
    rw [lvM_snoc, layP, splice_get _ _ _ _ (by show lvAt os i * 512 + _ ≤ _; omega), if_neg (by show ¬ (lvAt os i * 512 ≤ q ∧ q < lvAt os i * 512 + _); omega), lvM_out os fs M h q hq i]
theorem lvM_take (os : List Bool) (fs : List Ft) (M : List UInt8) (h : M.length = 64 * 512) (i : Nat) : (lvM os fs i M).take 3584 = M.take 3584 := by
  apply List.ext_getElem?
  intro q
  rw [List.getElem?_take, List.getElem?_take]
  by_cases hq : q < 3584
  · rw [if_pos hq, if_pos hq, lvM_out os fs M h q (.inl hq)]
  · rw [if_neg hq, if_neg hq]
theorem lvM_drop (os : List Bool) (fs : List Ft) (M : List UInt8) (h : M.length = 64 * 512) (i : Nat) : (lvM os fs i M).drop 4608 = M.drop 4608 := by
  apply List.ext_getElem?
  intro q
  rw [List.getElem?_drop, List.getElem?_drop, lvM_out os fs M h _ (.inr (by omega))]
/-! ### the device's states -/
def lvD (D : DS) (os : List Bool) (i : Nat) : DS := { D with C := lvC os i, wr := D.wr + i }
theorem lv_wr {D : DS} (os : List Bool) (i : Nat) (hn : D.n = 64) (hd : D.down = false) (ha : D.armed = false) : wrD (lvD D os i) (lvAt os i : Nat) (lvF i) = (0, lvD D os (i + 1)) := by
  have hat : lvAt os i < 64 := by unfold lvAt; split <;> omega
  have hact : actD (lvD D os i) = (true, lvD D os i) := by
    unfold actD
    rw [if_neg (by show ¬ (D.armed = true ∧ _); rw [ha]; simp), if_neg (by show ¬ (D.down = true); rw [hd]; simp), if_neg (by show ¬ (D.armed = true); rw [ha]; simp)]
  unfold wrD
  rw [if_neg (by show ¬ ¬ ((0 : Int) ≤ (lvAt os i : Int) ∧ (lvAt os i : Int) < (D.n : Int)); rw [hn]; omega), if_neg (by rw [lvF_len]; simp), hact, if_pos rfl]
  rfl
/-- the slices of a list of rows -/
def svs (X : List (Nat × Obj)) : List Value := X.map fun p => .slice (some ⟨p.1, 0, none⟩) 512 512
structure RowsX (X : List (Nat × Obj)) (Z : List (List UInt8 × Ft)) : Prop where
  len : X.length = Z.length
  row : ∀ j, j < Z.length → RowB (X.getD j (0, .cells #[] 0 (0, 0))).2 512 512 (Z.getD j ([], default)).1
theorem RowsX.nil : RowsX [] [] := ⟨rfl, fun j h => by simp at h⟩
theorem RowsX.snoc {X : List (Nat × Obj)} {Z : List (List UInt8 × Ft)} (h : RowsX X Z) {p : Nat × Obj} {z : List UInt8 × Ft} (hr : RowB p.2 512 512 z.1) : RowsX (X ++ [p]) (Z ++ [z]) := by
  refine ⟨by simp [h.len], fun j hj => ?_⟩
  rw [List.length_append] at hj
  by_cases h1 : j < Z.length
  · have := h.row j h1
    rw [List.getD_eq_getElem?_getD, List.getD_eq_getElem?_getD] at this ⊢
    rw [List.getElem?_append_left (by rw [h.len]; exact h1), List.getElem?_append_left h1]
    exact this
  · obtain rfl : j = Z.length := by simp at hj; omega
    rw [List.getD_eq_getElem?_getD, List.getD_eq_getElem?_getD, List.getElem?_append_right (by rw [h.len]; exact Nat.le_refl _), List.getElem?_append_right (Nat.le_refl _), h.len, Nat.sub_self]
    exact hr
theorem svs_one (X : List (Nat × Obj)) : ∀ u ∈ svs X, u.oneCell' = true := by
  intro u hu; simp only [svs, List.mem_map] at hu; obtain ⟨c, _, rfl⟩ := hu; rfl
/-- what over reads: the writes -/
theorem rds_of_QV {w : World} {v : Value} {n : Nat} {X Q : List (Nat × Obj)} {Z : List (List UInt8 × Ft)} (h : QV 29 1 v n (svs X) Q) (hQ : ∀ p ∈ Q, w.heap[p.1]? = some p.2) (hX : ∀ p ∈ X, w.heap[p.1]? = some p.2) (hr : RowsX X Z) (hn : n ≤ 1000) : ∃ A c, v = .slice A n c ∧ Rds w A n c (Z.map Prod.fst) ∧ n = Z.length := by
  have hXn : X.length = n := by have := (h.owns hQ).1; simpa [svs] using this
  have hZn : Z.length = n := by rw [← hr.len, hXn]
  rcases h with ⟨rfl, rfl, hv, rfl⟩ | ⟨k, c, o, rfl, rfl, hrow⟩
  · exact ⟨none, 0, rfl, ⟨by rw [List.length_map, hZn], Nat.le_refl _, by omega, fun hp => by omega⟩, hZn.symm⟩
  · have hk := hQ (k, o) (by simp)
    have hown := hrow.owns hk (Nat.zero_le k)
    refine ⟨_, c, rfl, ⟨by rw [List.length_map, hZn], ?_, by omega, fun hp => ⟨k, 0, rfl, fun j hj => ?_⟩⟩, hZn.symm⟩
    · obtain ⟨_, _, _, h1, _⟩ := hrow
      exact h1
    · have hjX : j < X.length := by omega
      have hsv : (svs X)[j]? = some (.slice (some ⟨(X.getD j (0, .cells #[] 0 (0, 0))).1, 0, none⟩) 512 512) := by
        rw [svs, List.getElem?_map, List.getD_eq_getElem?_getD, List.getElem?_eq_getElem hjX]; rfl
      have hc := World.ownsRow.cells hown (g := k) rfl j _ hsv
      rw [Addr.add_mid, Nat.zero_add] at hc
      refine ⟨_, 512, 512, by rw [Nat.zero_add]; exact hc, ?_⟩
      have hm : X.getD j (0, .cells #[] 0 (0, 0)) ∈ X := by rw [List.getD_eq_getElem?_getD, List.getElem?_eq_getElem hjX]; exact List.getElem_mem _
      have hrj := (hr.row j (by omega)).rd (hX _ hm) (by omega)
      have hZj : (Z.map Prod.fst).getD j [] = (Z.getD j ([], default)).1 := by
        rw [List.getD_eq_getElem?_getD, List.getD_eq_getElem?_getD, List.getElem?_map, List.getElem?_eq_getElem (by omega)]; rfl
      rw [hZj]
      exact hrj
theorem rdf_of_QV {w : World} {v : Value} {n : Nat} {Q : List (Nat × Obj)} {l : List Ft} (h : QV 52 2 v n (fv l) Q) (hQ : ∀ p ∈ Q, w.heap[p.1]? = some p.2) (hn : n ≤ 1000) : ∃ A c, v = .slice A n c ∧ RdF w A n c l := by
  have hl : l.length = n := by have := (h.owns hQ).1; rw [fv_len] at this; omega
  rcases h with ⟨rfl, rfl, hv, rfl⟩ | ⟨k, c, o, rfl, rfl, hrow⟩
  · exact ⟨none, 0, rfl, ⟨hl, Nat.le_refl _, by omega, fun hp => by omega⟩⟩
  · have hk := hQ (k, o) (by simp)
    have hown := hrow.owns hk (Nat.zero_le k)
    refine ⟨_, c, rfl, ⟨hl, ?_, by omega, fun hp => ⟨k, 0, rfl, fun j hj => ?_⟩⟩⟩
    · obtain ⟨_, _, _, h1, _⟩ := hrow
      exact h1
    · have hg := fv_get l j (by omega)
      have h1 := World.ownsRow.cells hown (g := k) rfl (j * 2) _ hg.1
      have h2 := World.ownsRow.cells hown (g := k) rfl (j * 2 + 1) _ hg.2
      rw [Addr.add_mid, Nat.zero_add] at h1 h2
      rw [Nat.zero_add]
      exact ⟨h1, h2⟩
theorem info_sl : (Try.prog.info? 29).map (fun i => (i.zero, i.size, i.bytes)) = some (some (.slice none 0 0), 1, 24) := by kernel_rfl
end Go.Proofs.Ytjbffahmjhbpjaa
