/- Words for rows: what the reading of a slice of texts says of memory. -/
import Derived.Test.YtdgcfhlfihpbiaaDoorOwnT
import Derived.Test.YtdgcfhlfihpbiaaDoorRowW
import Derived.Deep.Slices
import Derived.Deep.SlicePairs
import Derived.SizedLaws
import Derived.ChangeSlices
import Derived.ProofKit
import Derived.OpenShut
set_option linter.unusedVariables false
set_option linter.unusedSimpArgs false
namespace Go.Proofs.YtdgcfhlfihpbiaaDoor
open Go.ChangeShapes Go.WideShapes Go.RowKit Go.Deep
theorem spotT {W : World} {x : Addr} {v : Value} (h : W.cell? (x.add 0) = some v) : x.spot = none := by
  obtain ⟨b, o, s⟩ := x
  cases s with
  | none => rfl
  | some s =>
    exfalso
    rw [show (⟨b, o, some s⟩ : Addr).add 0 = ⟨b, o, some s⟩ from rfl] at h
    simp only [World.cell?] at h
    split at h <;> simp at h
theorem weightsAll_memT {H : Type} {P : Program} {e : TypeId} : ∀ (l : List (DataW H)) (x : DataW H), x ∈ l → ∀ n, n ∈ x.weights P e → n ∈ DataW.weightsAll P e l
  | [], x, h, _, _ => by simp at h
  | y :: r, x, h, n, hn => by
    rw [DataW.weightsAll, List.mem_append]
    rcases List.mem_cons.1 h with rfl | h
    · exact .inl hn
    · exact .inr (weightsAll_memT r x h n hn)
section
variable {H : Type} {enc : TypeId × Value → H} {P : Program} {W : World} {base : Nat} {spare : Nat → Bool} {held : Bool} {t e : TypeId} {a : Option Addr} {len cap : Nat} {d : DataW H} {ps : List MemPlace} {ts : List TypeId} {ds : List (DataW H)} {j : Nat}
theorem rdt_of (hsz : (DataW.weightsEach P ts ds).all (· ≤ reachBytes) = true) (ht : ts[j]? = some t) (hd : ds[j]? = some d) (hu : P.underlying t = some (.slice e)) (he : P.underlying e = some .string) (hc : P.cellsOf e = 1) (hB : P.bytesOf e = 16)
    (h : DataW.Trod enc P W base spare held t (.slice a len cap) d ps) : ∃ l, (RdT W a len cap l ∧ ∀ x ∈ l, x.size ≤ 140737488351232) ∧ len ≤ 8796093022207 := by
  have hr : reachBytes = 140737488351232 := by simp [reachBytes]
  obtain ⟨fuel, hf⟩ := h
  rcases open_slice1 hu hc hf with ⟨hcs, _⟩ | ⟨x, l, c, m, n, V, D, Pl, hcs, _, hl, _, hmm, hx, hV⟩
  · simp [Value.cells] at hcs
    obtain ⟨rfl, rfl, rfl⟩ := hcs
    exact ⟨[], ⟨RdT.nil _, by simp⟩, by omega⟩
  · simp [Value.cells] at hcs
    obtain ⟨rfl, rfl, rfl⟩ := hcs
    obtain ⟨hx, _⟩ := Prod.mk.inj hx
    subst hx
    have hlm : len ≤ m := by rw [hmm]; split <;> omega
    have hlen : len ≤ 8796093022207 := by
      have z := sized_slice hsz ht hd hu
      simp only [List.length_map, List.length_range] at z
      rw [hB] at z
      omega
    have each : ∀ i, i < len → ∃ s : ByteArray, s.size ≤ 140737488351232 ∧ W.cell? (x.add i) = some (.string s) := by
      intro i hi
      obtain ⟨h1, h2⟩ := hV i (by omega)
      obtain ⟨s, hs, hy, _⟩ := DataW.trod_string he h2
      simp at hs
      rw [hs] at h1
      obtain ⟨hD, _⟩ := Prod.mk.inj hy
      refine ⟨s, ?_, h1⟩
      have hw : s.data.toList.length ≤ reachBytes := by
        have := List.all_eq_true.1 hsz _ (DataW.weights_mem_each ht hd s.data.toList.length (by
          simp only [DataW.weights, hu]
          refine List.mem_cons_of_mem _ (List.mem_append.2 (.inl (weightsAll_memT _ (D i) (List.mem_map.2 ⟨i, by simpa using hi, rfl⟩) _ ?_)))
          rw [hD]; simp [DataW.weights]))
        simpa using this
      rw [str_len] at hw
      omega
    obtain ⟨F, hF⟩ := choose_lt each
    refine ⟨(List.range len).map F, ⟨⟨by simp, hl, by omega, fun hp => ?_⟩, fun y hy => ?_⟩, hlen⟩
    · have hs := spotT (by simpa using (hF 0 (by omega)).2 : W.cell? (x.add 0) = _)
      obtain ⟨b, o, s⟩ := x
      simp only at hs
      subst hs
      refine ⟨b, o, rfl, fun j hj => ?_⟩
      have h1 := (hF j (by omega)).2
      rw [Addr.add_mid] at h1
      rw [h1]
      simp [List.getD_eq_getElem?_getD, hj]
    · simp only [List.mem_map, List.mem_range] at hy
      obtain ⟨i, hi, rfl⟩ := hy
      exact (hF i (by omega)).1
end
end Go.Proofs.YtdgcfhlfihpbiaaDoor
