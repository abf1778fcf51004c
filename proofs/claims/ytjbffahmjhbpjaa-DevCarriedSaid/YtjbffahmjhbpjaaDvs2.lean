/- A second device beside the first. -/
import Derived.Test.YtjbffahmjhbpjaaDvs1
set_option linter.unusedVariables false
set_option linter.unusedSimpArgs false
set_option maxRecDepth 100000
namespace Go.Proofs.Ytjbffahmjhbpjaa
open Go.RowKit
section
variable {w0 w w' : World} {b g : Nat} {vc : Value} {D : DS} {R : List (Nat × Obj)}
theorem St.new2 (h : St w0 w b g vc D R) (hb : Below w.heap.size w w') {o1 o2 : Obj} (h1 : w'.heap[w.heap.size + 1]? = some o1) (h2 : w'.heap[w.heap.size]? = some o2) : St w0 w' b g vc D ((w.heap.size + 1, o1) :: (w.heap.size, o2) :: R) := by
  refine (h.new hb (Nat.le_refl _) h2).cons (fun p hp e => ?_) (fun hm => by have := h.dv.lt _ hm; omega) (by have := h.bl.size; omega) h1
  rcases List.mem_cons.1 hp with rfl | hp
  · exact absurd e (by show ¬ (w.heap.size = w.heap.size + 1); omega)
  · have := lt_of_block (h.kp.all p hp); omega
theorem St.swap {b2 g2 : Nat} {o1 o2 : Obj} {D2 : DS} {R' : List (Nat × Obj)} (h : St w0 w b g vc D ((b2, o1) :: (g2, o2) :: R')) (hv : IsV w b2 g2 (.slice none 0 0) D2) : St w0 w b2 g2 (.slice none 0 0) D2 R' := by
  have hnd := h.kp.nd
  simp only [List.map_cons, List.nodup_cons, List.mem_cons, not_or] at hnd
  have hsub : R'.Sublist ((b2, o1) :: (g2, o2) :: R') := (List.sublist_cons_self _ _).trans (List.sublist_cons_self _ _)
  have h3 := h.sub hsub
  refine ⟨hv, ⟨h3.kp.all, fun p hp hm => ?_, h3.kp.nd⟩, h.bl, fun s hs => ?_, h3.rl⟩
  · have hp1 : p.1 ∈ List.map Prod.fst R' := List.mem_map.2 ⟨p, hp, rfl⟩
    simp only [dvS, Value.ownBlock, Option.toList_none, List.mem_cons, List.not_mem_nil, or_false] at hm
    rcases hm with e | e
    · exact hnd.1.2 (e ▸ hp1)
    · exact hnd.2.1 (e ▸ hp1)
  · simp only [dvS, Value.ownBlock, Option.toList_none, List.mem_cons, List.not_mem_nil, or_false] at hs
    rcases hs with rfl | rfl
    · exact h.rl _ (List.mem_cons_self)
    · exact h.rl _ (List.mem_cons_of_mem _ (List.mem_cons_self))
end
/-- a device just made over a medium, of which rd reads were done -/
def ofD (L : List UInt8) (rd : Nat) : DS := ⟨64, L, [], 0, false, false, rd, 0, 0⟩
def ofO (g : Nat) : Obj := .cells #[.slice (some ⟨g, 0, none⟩) 64 64, .slice none 0 0, .int .i64 0, .bool false, .bool false, .int .i64 0, .int .i64 0, .int .i64 0] 76 (0, 0)
def ofM2 (L : List UInt8) : Obj := .cells (bv L).toArray 78 (0, 0)
theorem st_Of {w0 w : World} {b g : Nat} {vc : Value} {D : DS} {R : List (Nat × Obj)} (i : Nat) {k c : Nat} {o : Obj} {L : List UInt8} (h : St w0 w b g vc D R) (hi : R[i]? = some (k, o)) (hr : RowB o 32768 c L) :
    Calls Try.prog 13 #[.slice (some ⟨k, 0, none⟩) 32768 c] w fun e w' => ∃ b2 g2, e = .returned (.tuple #[.pointer (some ⟨b2, 0, none⟩), .int .i64 0]) ∧ St w0 w' b g vc D ((b2, ofO g2) :: (g2, ofM2 L) :: R) ∧ b2 ≠ g2 := by
  refine (dv_Of_ok (some ⟨k, 0, none⟩) 32768 c L w (h.rd i hi hr (by omega)) ⟨by omega, by omega, by omega⟩).mono ?_
  rintro e w' ⟨rfl, hD, hb⟩
  exact ⟨_, _, rfl, h.new2 hb hD.st hD.med, hD.ne⟩
theorem ofV {w : World} {b2 g2 : Nat} {L : List UInt8} (h1 : w.heap[b2]? = some (ofO g2)) (h2 : w.heap[g2]? = some (ofM2 L)) (hL : L.length = 32768) (hne : b2 ≠ g2) : IsV w b2 g2 (.slice none 0 0) (ofD L 0) :=
  ⟨⟨h1, h2, hL, hne, by show 64 ≤ 64 ∧ 64 ≤ 4096; omega⟩, ⟨PdOk.nil _, World.ownsRow_nil _ _ _ _⟩, fun k hk => by cases hk⟩
theorem crD_nil_M {D : DS} (hM : D.M.length = D.n * 512) (hC : PdOk D.n D.C) : (crD D []).M = D.M := layA_none 0 D.C D.M (fun x hx => by
  have h1 := (hC x hx).1
  have h2 : (x.num + 1) * 512 ≤ D.n * 512 := Nat.mul_le_mul_right _ h1
  omega)
theorem dv_BlocksV (w : World) (b g : Nat) (vc : Value) (D : DS) (h : IsV w b g vc D) :
    Calls Try.prog 12 #[.pointer (some ⟨b, 0, none⟩)] w fun e w' => e = .returned (.int .i64 D.n) ∧ w' = w := dv_Blocks _ _ _ _ _ _ _ _ _ _ _ _ h.dev
end Go.Proofs.Ytjbffahmjhbpjaa
