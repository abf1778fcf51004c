/- The laws' cut: a marked node's own part. -/
import Derived.Test.YtlandlgjhnnaiaaPg24
set_option linter.unusedVariables false
set_option linter.unusedSimpArgs false
set_option maxRecDepth 100000
namespace Go.Proofs.Ytlandlgjhnnaiaa
open Go.RowKit
theorem sl_to {tS t : TypeId} {i0 : TypeInfo} (ht : Try.prog.underlying tS = some (.slice t)) (hi : Try.prog.info? t = some i0) (b o m n c : Nat) (h : n ≤ c) (W : World) : (Instr.slice tS (.slice (some ⟨b, o, none⟩) m c) none (some (.int .i64 (n : Int))) none).run Try.prog W = .ok (.slice (some ⟨b, o, none⟩) n c) W := by
  have hel : Try.prog.elem tS = t := by simp [Program.elem, ht]
  have hu : Try.prog.underlying tS = some (.slice (Try.prog.elem tS)) := by rw [hel]; exact ht
  rw [run_slice_h W tS (some ⟨b, o, none⟩) m c hu .i64 (n : Int) (by omega) (by omega), hel]
  simp [sizeOf, typeInfo, hi, sliced, Result.andThen, Addr.add_mid]
theorem NdO.rdBC {w : World} {base : Nat} {n : Nd} {vE vC vK vD : Value} (h : NdO w base n vE vC vK vD) (hl : NdB n) : NdR w n vE vC vK vD := by
  unfold NdB at hl
  exact h.rd (by omega) (by omega) (by omega) (by omega)
/-- a node's own part of what is marked -/
theorem NdR.own_part {w : World} {n : Nd} {AE AC AK AD : Option Addr} {cE cC cK cD : Nat} (h : NdR w (mkN n) (.slice AE (n.ents.length + 2) cE) (.slice AC (n.chs.length + 2) cC) (.slice AK (n.keys.length + 2) cK) (.slice AD (n.kids.length + 2) cD)) : NdR w n (.slice AE n.ents.length cE) (.slice AC n.chs.length cC) (.slice AK n.keys.length cK) (.slice AD n.kids.length cD) := by
  obtain ⟨⟨A1, c1, e1, h1⟩, ⟨A2, c2, e2, h2⟩, ⟨A3, c3, e3, h3⟩, ⟨A4, c4, e4, h4⟩⟩ := h
  have q1 := h1.takeE n.ents.length (by simp [mkN])
  have q3 := h3.takeT n.keys.length (by simp [mkN])
  injection e1 with a1 a2 a3
  injection e2 with b1 b2 b3
  injection e3 with d1 d2 d3
  injection e4 with f1 f2 f3
  subst a1 a3 b1 b3 d1 d3 f1 f3
  have t1 : (mkN n).ents.take n.ents.length = n.ents := List.take_left' rfl
  have t2 : (mkN n).chs.take n.chs.length = n.chs := List.take_left' rfl
  have t3 : (mkN n).keys.take n.keys.length = n.keys := List.take_left' rfl
  have t4 : (mkN n).kids.take n.kids.length = n.kids := List.take_left' rfl
  rw [t1] at q1
  rw [t3] at q3
  have q2 : RdI [] w AC n.chs.length cC n.chs := by
    refine ⟨rfl, Nat.le_trans (by simp [mkN]) h2.cap, Nat.le_trans (by simp [mkN]) h2.max, fun hp => ?_⟩
    obtain ⟨b, o, e, hd, hc⟩ := h2.at_ (by simp [mkN])
    refine ⟨b, o, e, hd, fun j hj => ?_⟩
    rw [hc j (by simp [mkN]; omega)]
    simp [mkN, List.getD_eq_getElem?_getD, List.getElem?_append_left hj]
  have q4 : RdI [] w AD n.kids.length cD n.kids := by
    refine ⟨rfl, Nat.le_trans (by simp [mkN]) h4.cap, Nat.le_trans (by simp [mkN]) h4.max, fun hp => ?_⟩
    obtain ⟨b, o, e, hd, hc⟩ := h4.at_ (by simp [mkN])
    refine ⟨b, o, e, hd, fun j hj => ?_⟩
    rw [hc j (by simp [mkN]; omega)]
    simp [mkN, List.getD_eq_getElem?_getD, List.getElem?_append_left hj]
  exact ⟨⟨_, _, rfl, q1⟩, ⟨_, _, rfl, q2⟩, ⟨_, _, rfl, q3⟩, ⟨_, _, rfl, q4⟩⟩
set_option maxHeartbeats 2000000 in
theorem l9_cut (n : Nd) (AE AC AK AD : Option Addr) (cE cC cK cD : Nat) (w : World) (hN : NdR w (mkN n) (.slice AE (n.ents.length + 2) cE) (.slice AC (n.chs.length + 2) cC) (.slice AK (n.keys.length + 2) cK) (.slice AD (n.kids.length + 2) cD)) (hb : NdB n) :
    Calls Try.prog 12 #[.agg (ndC (mkN n) (.slice AE (n.ents.length + 2) cE) (.slice AC (n.chs.length + 2) cC) (.slice AK (n.keys.length + 2) cK) (.slice AD (n.kids.length + 2) cD))] w fun e w' => e = .returned (.agg (ndC n (.slice AE n.ents.length cE) (.slice AC n.chs.length cC) (.slice AK n.keys.length cK) (.slice AD n.kids.length cD))) ∧ Below w.heap.size w w' := by
  obtain ⟨⟨A1, c1, e1, h1⟩, ⟨A2, c2, e2, h2⟩, ⟨A3, c3, e3, h3⟩, ⟨A4, c4, e4, h4⟩⟩ := hN
  injection e1 with a1 a2 a3
  injection e2 with b1 b2 b3
  injection e3 with d1 d2 d3
  injection e4 with f1 f2 f3
  subst a1 a3 b1 b3 d1 d3 f1 f3
  obtain ⟨bE, oE, rfl, -⟩ := h1.at_ (by simp [mkN])
  obtain ⟨bC, oC, rfl, -⟩ := h2.at_ (by simp [mkN])
  obtain ⟨bK, oK, rfl, -⟩ := h3.at_ (by simp [mkN])
  obtain ⟨bD, oD, rfl, -⟩ := h4.at_ (by simp [mkN])
  have k1 := h1.cap
  have k2 := h2.cap
  have k3 := h3.cap
  have k4 := h4.cap
  simp only [mkN, List.length_append, List.length_cons, List.length_nil] at k1 k2 k3 k4
  obtain ⟨i1, hi1⟩ := info_en_parts
  obtain ⟨i2, hi2⟩ := info_int_parts
  obtain ⟨i3, hi3⟩ := info_str_parts
  have s1 := sl_to Try.underlying22 hi1.1 bE oE (n.ents.length + 2) n.ents.length cE (by omega)
  have s2 := sl_to Try.underlying23 hi2.1 bC oC (n.chs.length + 2) n.chs.length cC (by omega)
  have s3 := sl_to Try.underlying24 hi3.1 bK oK (n.keys.length + 2) n.keys.length cK (by omega)
  have s4 := sl_to Try.underlying23 hi2.1 bD oD (n.kids.length + 2) n.kids.length cD (by omega)
  have hb' := hb
  unfold NdB at hb'
  clear h1 h2 h3 h4 hi1 hi2 hi3 k1 k2 k3 k4 a2 b2 d2 f2 hb
  unfold ndC
  rw [show (mkN n).kind = n.kind from rfl, show (mkN n).next = n.next from rfl, show (mkN n).data = n.data from rfl]
  have hl : (0 : Int) ≤ (n.ents.length : Int) ∧ (n.ents.length : Int) ≤ 4398046510976 ∧ (0 : Int) ≤ (n.chs.length : Int) ∧ (n.chs.length : Int) ≤ 17592186043904 ∧ (0 : Int) ≤ (n.keys.length : Int) ∧ (n.keys.length : Int) ≤ 8796093021952 ∧ (0 : Int) ≤ (n.kids.length : Int) ∧ (n.kids.length : Int) ≤ 17592186043904 := by omega
  go_enter Try.func12, Try.ntmps12
  go_wp2
  refine bodyPost_ret (results_cell_row rfl _ _ (w.heap.size + 1) 26 #[.int .i64 n.kind, .slice (some ⟨bE, oE, none⟩) n.ents.length cE, .slice (some ⟨bC, oC, none⟩) n.chs.length cC, .slice (some ⟨bK, oK, none⟩) n.keys.length cK, .slice (some ⟨bD, oD, none⟩) n.kids.length cD, .int .i64 n.next, .string n.data] (0, 0) _ rfl ?_ Try.underlying26 rfl sz_nd) rfl ⟨rfl, ?_⟩
  · exact heap_alloc2_new _ _ _
  · exact ((Below.refl _ _).alloc (Nat.le_refl _) _).alloc (by rw [World.size_alloc]; omega) _
end Go.Proofs.Ytlandlgjhnnaiaa
