/- Words for rows of the narrowed statements: what the bound on the bulk of the arguments gives. -/
import Derived.Test.YtdgcfhlfihpbiaaDoorRows
import Derived.Test.YtdgcfhlfihpbiaaDoorRowW
import Derived.Deep.Slices
import Derived.Deep.SlicePairs
import Derived.JoinedCond
set_option linter.unusedVariables false
set_option linter.unusedSimpArgs false
namespace Go.Proofs.YtdgcfhlfihpbiaaDoor
open Go.ChangeShapes Go.WideShapes Go.RowKit
theorem bulk_one {H : Type} (d : DataW H) : 1 ≤ Rows.uptoBulk d := by
  cases d with
  | lit l => cases l <;> simp [Rows.uptoBulk]
  | nil => simp [Rows.uptoBulk]
  | ptr d => simp [Rows.uptoBulk]
  | slice elems spare => simp [Rows.uptoBulk]
  | agg parts => simp [Rows.uptoBulk]
  | iface t d => simp [Rows.uptoBulk]
  | map entries => simp [Rows.uptoBulk]
  | held h => simp [Rows.uptoBulk]
theorem bulk_part {H : Type} {d : DataW H} {l : List (DataW H)} (h : d ∈ l) : Rows.uptoBulk d ≤ Rows.uptoBulkAll l := by
  induction l with
  | nil => cases h
  | cons x r ih =>
    simp only [Rows.uptoBulkAll]
    cases List.mem_cons.1 h with
    | inl e => subst e; omega
    | inr e => have := ih e; omega
theorem bulk_length {H : Type} (l : List (DataW H)) : l.length ≤ Rows.uptoBulkAll l := by
  induction l with
  | nil => simp [Rows.uptoBulkAll]
  | cons x r ih => have := bulk_one x; simp only [Rows.uptoBulkAll, List.length_cons]; omega
theorem bulk_slice {H : Type} (elems spare : List (DataW H)) : elems.length + spare.length + 1 ≤ Rows.uptoBulk (.slice elems spare) := by
  have h1 := bulk_length elems
  have h2 := bulk_length spare
  simp only [Rows.uptoBulk]
  omega
theorem bulk_all {H : Type} {l : List (DataW H)} (hk : Rows.uptoSmall H l = true) : Rows.uptoBulkAll l ≤ 1048576 := of_decide_eq_true hk
/-- the bulk of each of a call's arguments -/
theorem bulk_arg {H : Type} {l : List (DataW H)} (hk : Rows.uptoSmall H l = true) {d : DataW H} (hd : d ∈ l) : Rows.uptoBulk d ≤ 1048576 := Nat.le_trans (bulk_part hd) (bulk_all hk)
theorem rd_open_u {H : Type} {enc : TypeId × Value → H} {P : Program} {W : World} {base : Nat} {spare : Nat → Bool} {held : Bool} {t e : TypeId} {a : Option Addr} {len cap : Nat} {d : DataW H} {ps : List MemPlace}
    (hu : P.underlying t = some (.slice e)) (he : P.underlying e = some (.int .u8)) (hc : P.cellsOf e = 1) (hb : Rows.uptoBulk d ≤ 1048576)
    (h : DataW.Trod enc P W base spare held t (.slice a len cap) d ps) : ∃ l, Rd W a len cap l ∧ len ≤ 1048576 := by
  have hlen : len ≤ 1048576 := by
    obtain ⟨fuel, hf⟩ := h
    rcases open_ints hu he hc hf with ⟨hcs, _⟩ | ⟨x, l, c, zs, hcs, _, hl, _, hz, hx, hcell, hwz⟩
    · simp [Value.cells] at hcs; omega
    · simp [Value.cells] at hcs
      obtain ⟨rfl, rfl, rfl⟩ := hcs
      obtain ⟨hx, _⟩ := Prod.mk.inj hx
      subst hx
      have hbb := Nat.le_trans (bulk_slice (H := H) (lits .u8 (zs.take len)) (lits .u8 (zs.drop len))) hb
      have hl2 : len ≤ zs.length := by
        rw [hz]
        split
        · exact hl
        · exact Nat.le_refl _
      simp only [lits, List.length_map, List.length_take, List.length_drop] at hbb
      omega
  obtain ⟨l, hr⟩ := rd_of hu he hc h (Nat.le_trans hlen (by omega))
  exact ⟨l, hr, hlen⟩
theorem bulk_append {H : Type} (l r : List (DataW H)) : Rows.uptoBulkAll (l ++ r) = Rows.uptoBulkAll l + Rows.uptoBulkAll r := by
  induction l with
  | nil => simp [Rows.uptoBulkAll]
  | cons x l ih => simp only [List.cons_append, Rows.uptoBulkAll, ih]; omega
theorem spot_none {W : World} {x : Addr} {v : Value} (h : W.cell? (x.add 0) = some v) : x.spot = none := by
  obtain ⟨b, o, s⟩ := x
  cases s with
  | none => rfl
  | some s =>
    exfalso
    rw [show (⟨b, o, some s⟩ : Addr).add 0 = ⟨b, o, some s⟩ from rfl] at h
    simp only [World.cell?] at h
    split at h <;> simp at h
theorem flatten_bulk {H : Type} (L : Nat → List UInt8) (D : Nat → DataW H) : ∀ is : List Nat, (∀ i, i ∈ is → (L i).length + 1 ≤ Rows.uptoBulk (D i)) → (is.map L).flatten.length ≤ Rows.uptoBulkAll (is.map D)
  | [], _ => by simp
  | i :: is, h => by
    have h1 := h i (by simp)
    have h2 := flatten_bulk L D is (fun j hj => h j (by simp [hj]))
    simp only [List.map_cons, List.flatten_cons, List.length_append, Rows.uptoBulkAll]
    omega
/-- A slice of slices of bytes that came in. -/
theorem rds_open_u {H : Type} {enc : TypeId × Value → H} {P : Program} {W : World} {base : Nat} {spare : Nat → Bool} {held : Bool} {t e f : TypeId} {a : Option Addr} {len cap : Nat} {d : DataW H} {ps : List MemPlace}
    (hu : P.underlying t = some (.slice e)) (he : P.underlying e = some (.slice f)) (hf8 : P.underlying f = some (.int .u8)) (hce : P.cellsOf e = 1) (hcf : P.cellsOf f = 1) (hb : Rows.uptoBulk d ≤ 1048576)
    (h : DataW.Trod enc P W base spare held t (.slice a len cap) d ps) : ∃ ls, Rds W a len cap ls ∧ ls.flatten.length ≤ 1048576 ∧ len ≤ 1048576 := by
  obtain ⟨fuel, hf⟩ := h
  rcases Go.Deep.open_slice1 hu hce hf with ⟨hcs, _⟩ | ⟨x, l, c, m, k, V, D, Pl, hcs, _, hl, _, hmm, hx, hcell⟩
  · simp [Value.cells] at hcs
    obtain ⟨rfl, rfl, rfl⟩ := hcs
    exact ⟨[], ⟨rfl, Nat.le_refl _, by omega, fun hp => absurd hp (by omega)⟩, by simp, by omega⟩
  · simp [Value.cells] at hcs
    obtain ⟨rfl, rfl, rfl⟩ := hcs
    obtain ⟨hx, _⟩ := Prod.mk.inj hx
    subst hx
    have hlm : len ≤ m := by
      rw [hmm]
      split
      · exact hl
      · exact Nat.le_refl _
    have hbb : Rows.uptoBulkAll ((List.range len).map D) ≤ 1048576 := by
      have : Rows.uptoBulkAll ((List.range len).map D) ≤ Rows.uptoBulk (.slice ((List.range len).map D) ((List.range (m - len)).map fun j => D (len + j))) := by
        simp only [Rows.uptoBulk]; omega
      omega
    have hlen : len ≤ 1048576 := by
      have := bulk_length ((List.range len).map D)
      simp at this
      omega
    have hel : ∀ i, i < len → ∃ l : List UInt8, ∃ A1 n1 c1, W.cell? (x.add i) = some (.slice A1 n1 c1) ∧ Rd W A1 n1 c1 l ∧ l.length + 1 ≤ Rows.uptoBulk (D i) := by
      intro i hi
      obtain ⟨h1, h2⟩ := hcell i (by omega)
      have hDi : Rows.uptoBulk (D i) ≤ 1048576 := Nat.le_trans (bulk_part (List.mem_map.2 ⟨i, by simpa using hi, rfl⟩)) hbb
      rcases open_ints he hf8 hcf h2 with ⟨hcs, hxx⟩ | ⟨x1, l1, c1, zs, hcs, _, hl1, _, hz, hxx, hcell1, hwz⟩
      · simp at hcs
        rw [hcs] at h1
        exact ⟨[], none, 0, 0, h1, Rd.nil _, by have := bulk_one (D i); simpa using this⟩
      · simp at hcs
        obtain ⟨hD, _⟩ := Prod.mk.inj hxx
        have hbl := bulk_slice (H := H) (lits .u8 (zs.take l1)) (lits .u8 (zs.drop l1))
        rw [← hD] at hbl
        have hl2 : l1 ≤ zs.length := by
          rw [hz]
          split
          · exact hl1
          · exact Nat.le_refl _
        simp only [lits, List.length_map, List.length_take, List.length_drop] at hbl
        rw [hcs] at h1 h2
        obtain ⟨l, hr⟩ := rd_of he hf8 hcf ⟨_, h2⟩ (by omega)
        exact ⟨l, _, _, _, h1, hr, by have := hr.len; omega⟩
    obtain ⟨L, hL⟩ := Go.Deep.choose_lt hel
    refine ⟨(List.range len).map L, ⟨by simp, hl, by omega, fun hp => ?_⟩, Nat.le_trans (flatten_bulk L D _ (fun i hi => ?_)) hbb, hlen⟩
    · obtain ⟨A1, n1, c1, h0, _⟩ := hL 0 hp
      have hs := spot_none h0
      obtain ⟨b, o, s⟩ := x
      simp at hs
      subst hs
      refine ⟨b, o, rfl, fun j hj => ?_⟩
      obtain ⟨A1, n1, c1, h1, h2, _⟩ := hL j hj
      rw [Addr.add_mid] at h1
      refine ⟨A1, n1, c1, h1, ?_⟩
      have hg : ((List.range len).map L).getD j [] = L j := by
        simp [List.getD_eq_getElem?_getD, hj]
      rw [hg]; exact h2
    · obtain ⟨A1, n1, c1, _, _, h3⟩ := hL i (by simpa using hi)
      exact h3
end Go.Proofs.YtdgcfhlfihpbiaaDoor
