/- Calls over a state, what they make as rows at the end of the list; a second device turned to the front. -/
import Derived.Test.YtggoaelbglhehaaMgA10
/- Calls over a state, what they make as rows at the end of the list; a second device turned to the front. -/
set_option linter.unusedVariables false
set_option linter.unusedSimpArgs false
set_option maxRecDepth 100000
namespace Go.Proofs.Ytggoaelbglhehaa
open Go.RowKit
/-! ### a second pair turned to the front -/
def DvR (b g : Nat) (v : Value) (D : DS) (R : List (Nat × Obj)) : Prop := R.map Prod.fst = dvS b g v ∧ ∀ W : World, (∀ p ∈ R, W.heap[p.1]? = some p.2) → IsV W b g v D
theorem IsV.heapEq {w W : World} {b g : Nat} {vc : Value} {D : DS} (h : IsV w b g vc D) (hk : ∀ k ∈ dvS b g vc, W.heap[k]? = w.heap[k]?) : IsV W b g vc D := by
  refine ⟨⟨(hk b (by simp [dvS])).trans h.dev.st, (hk g (by simp [dvS])).trans h.dev.med, h.dev.len, h.dev.ne, h.dev.small⟩, ⟨h.ca.1, h.ca.2.1, ?_⟩, h.nb⟩
  rcases h.ca.2.2 with h1 | ⟨g', cap, cur, rfl, hb, hh, h3⟩
  · exact .inl h1
  · exact .inr ⟨g', cap, cur, rfl, hb, (hk g' (by simp [dvS, Value.ownBlock])).trans hh, h3⟩
theorem IsV.nd {w : World} {b g : Nat} {vc : Value} {D : DS} (h : IsV w b g vc D) : (dvS b g vc).Nodup := by
  unfold dvS
  have hne := h.dev.ne
  cases hv : vc.ownBlock with
  | none => simp [hne]
  | some k =>
    have h1 := h.nb k hv
    simp only [Option.toList_some, List.nodup_cons, List.mem_cons, List.not_mem_nil, or_false, not_or, List.nodup_nil, and_true, not_false_eq_true]
    exact ⟨⟨hne, fun e => h1.1 e.symm⟩, fun e => h1.2 e.symm⟩
theorem St.turn {w0 w : World} {b g b2 g2 : Nat} {v v2 : Value} {D D2 : DS} {R2 T : List (Nat × Obj)} (h : St w0 w b g v D (R2 ++ T)) (h2 : DvR b2 g2 v2 D2 R2) : ∃ R1, DvR b g v D R1 ∧ St w0 w b2 g2 v2 D2 (R1 ++ T) := by
  have hlt := h.dv.lt
  have hmap : ((dvS b g v).map fun k => (k, (w.heap[k]?).getD (.cells #[] 0 (0, 0)))).map Prod.fst = dvS b g v := by rw [List.map_map]; exact List.map_id _
  have hall : ∀ p ∈ (dvS b g v).map (fun k => (k, (w.heap[k]?).getD (.cells #[] 0 (0, 0)))), p.1 ∈ dvS b g v ∧ w.heap[p.1]? = some p.2 := fun p hp => by
    obtain ⟨k, hk, rfl⟩ := List.mem_map.1 hp
    exact ⟨hk, by show w.heap[k]? = some ((w.heap[k]?).getD _); rw [Array.getElem?_eq_getElem (hlt k hk)]; rfl⟩
  refine ⟨(dvS b g v).map fun k => (k, (w.heap[k]?).getD (.cells #[] 0 (0, 0))), ⟨hmap, fun W hW => h.dv.heapEq fun k hk => ?_⟩, ?_⟩
  · have h3 : (k, (w.heap[k]?).getD (.cells #[] 0 (0, 0))) ∈ (dvS b g v).map fun k => (k, (w.heap[k]?).getD (.cells #[] 0 (0, 0))) := List.mem_map.2 ⟨k, hk, rfl⟩
    exact (hW _ h3).trans (hall _ h3).2.symm
  · have hn := h.kp.nd
    rw [List.map_append, List.nodup_append] at hn
    have ha : ∀ p ∈ R2 ++ T, w.heap[p.1]? = some p.2 := h.kp.all
    have h2m : ∀ s ∈ dvS b2 g2 v2, ∃ p ∈ R2, p.1 = s := fun s hs => by
      rw [← h2.1] at hs
      obtain ⟨p, hp, e⟩ := List.mem_map.1 hs
      exact ⟨p, hp, e⟩
    refine ⟨h2.2 w fun p hp => ha p (List.mem_append_left _ hp), ⟨fun p hp => ?_, fun p hp hm => ?_, ?_⟩, h.bl, fun s hs => ?_, fun p hp => ?_⟩
    · rcases List.mem_append.1 hp with hp | hp
      · exact (hall p hp).2
      · exact ha p (List.mem_append_right _ hp)
    · obtain ⟨q, hq, e⟩ := h2m _ hm
      rcases List.mem_append.1 hp with hp | hp
      · exact h.kp.out q (List.mem_append_left _ hq) (e ▸ (hall p hp).1)
      · exact hn.2.2 q.1 (List.mem_map.2 ⟨q, hq, rfl⟩) p.1 (List.mem_map.2 ⟨p, hp, rfl⟩) e
    · rw [List.map_append, hmap, List.nodup_append]
      refine ⟨h.dv.nd, hn.2.1, fun x hx y hy e => ?_⟩
      obtain ⟨p, hp, rfl⟩ := List.mem_map.1 hy
      exact h.kp.out p (List.mem_append_right _ hp) (e ▸ hx)
    · obtain ⟨q, hq, rfl⟩ := h2m _ hs
      exact h.rl q (List.mem_append_left _ hq)
    · rcases List.mem_append.1 hp with hp | hp
      · exact h.sl _ (hall p hp).1
      · exact h.rl p (List.mem_append_right _ hp)
/-- a second one made behind the first -/
theorem St.join {w0 w1 w2 : World} {b g b2 g2 : Nat} {v v2 : Value} {D D2 : DS} {R R2 : List (Nat × Obj)} (h : St w0 w1 b g v D R) (h2 : St w1 w2 b2 g2 v2 D2 R2) : ∃ Rn, DvR b2 g2 v2 D2 Rn ∧ St w0 w2 b g v D (R ++ (Rn ++ R2)) := by
  have h1 := h.below h2.bl
  have hlt := h2.dv.lt
  have hmap : ((dvS b2 g2 v2).map fun k => (k, (w2.heap[k]?).getD (.cells #[] 0 (0, 0)))).map Prod.fst = dvS b2 g2 v2 := by rw [List.map_map]; exact List.map_id _
  have hall : ∀ p ∈ (dvS b2 g2 v2).map (fun k => (k, (w2.heap[k]?).getD (.cells #[] 0 (0, 0)))), p.1 ∈ dvS b2 g2 v2 ∧ w2.heap[p.1]? = some p.2 := fun p hp => by
    obtain ⟨k, hk, rfl⟩ := List.mem_map.1 hp
    exact ⟨hk, by show w2.heap[k]? = some ((w2.heap[k]?).getD _); rw [Array.getElem?_eq_getElem (hlt k hk)]; rfl⟩
  refine ⟨(dvS b2 g2 v2).map fun k => (k, (w2.heap[k]?).getD (.cells #[] 0 (0, 0))), ⟨hmap, fun W hW => h2.dv.heapEq fun k hk => ?_⟩, ?_⟩
  · have h3 : (k, (w2.heap[k]?).getD (.cells #[] 0 (0, 0))) ∈ (dvS b2 g2 v2).map fun k => (k, (w2.heap[k]?).getD (.cells #[] 0 (0, 0))) := List.mem_map.2 ⟨k, hk, rfl⟩
    exact (hW _ h3).trans (hall _ h3).2.symm
  · have hgeN : ∀ p ∈ (dvS b2 g2 v2).map (fun k => (k, (w2.heap[k]?).getD (.cells #[] 0 (0, 0)))) ++ R2, w2.heap[p.1]? = some p.2 ∧ w1.heap.size ≤ p.1 := fun p hp => by
      rcases List.mem_append.1 hp with hp | hp
      · exact ⟨(hall p hp).2, h2.sl _ (hall p hp).1⟩
      · exact ⟨h2.kp.all p hp, h2.rl p hp⟩
    have hltR : ∀ p ∈ R, p.1 < w1.heap.size := fun p hp => lt_of_block (h.kp.all p hp)
    have hs0 := h.bl.size
    refine ⟨h1.dv, ⟨fun p hp => ?_, fun p hp hm => ?_, ?_⟩, h1.bl, h1.sl, fun p hp => ?_⟩
    · rcases List.mem_append.1 hp with hp | hp
      · exact h1.kp.all p hp
      · exact (hgeN p hp).1
    · rcases List.mem_append.1 hp with hp | hp
      · exact h1.kp.out p hp hm
      · have := (hgeN p hp).2
        have := h.dv.lt _ hm
        omega
    · rw [List.map_append, List.nodup_append]
      refine ⟨h.kp.nd, ?_, fun x hx y hy e => ?_⟩
      · rw [List.map_append, hmap, List.nodup_append]
        refine ⟨h2.dv.nd, h2.kp.nd, fun x hx y hy e => ?_⟩
        obtain ⟨p, hp, rfl⟩ := List.mem_map.1 hy
        exact h2.kp.out p hp (e ▸ hx)
      · obtain ⟨p, hp, rfl⟩ := List.mem_map.1 hx
        obtain ⟨q, hq, rfl⟩ := List.mem_map.1 hy
        have := (hgeN q hq).2
        have := hltR p hp
        omega
    · rcases List.mem_append.1 hp with hp | hp
      · exact h1.rl p hp
      · have := (hgeN p hp).2
        omega
theorem RdF.heapEq {w W : World} {A : Option Addr} {n c : Nat} {l : List Ft} (h : RdF w A n c l) (hk : 0 < n → ∀ p, A = some p → W.heap[p.block]? = w.heap[p.block]?) : RdF W A n c l :=
  ⟨h.len, h.cap, h.max, fun hn => by
    obtain ⟨b, o, e, hc⟩ := h.at_ hn
    have h2 := hk hn _ e
    exact ⟨b, o, e, fun j hj => ⟨(World.cell?_of_block (w := w) (a := ⟨b, o + j * 2, none⟩) h2).trans (hc j hj).1, (World.cell?_of_block (w := w) (a := ⟨b, o + j * 2 + 1, none⟩) h2).trans (hc j hj).2⟩⟩⟩
section
variable {w0 w w' : World} {b g : Nat} {vc : Value} {D : DS} {R : List (Nat × Obj)}
/-- bytes just made, none or some: R1 holds their row -/
theorem St.newG {n : Nat} {u : Value} {l : List UInt8} (h : St w0 w b g vc D R) (hO : Own w' w.heap.size u n l) (hb : Below w.heap.size w w') (hm : n ≤ 140737490452480) : ∃ A c R1, u = .slice A n c ∧ (∀ W : World, (∀ p ∈ R1, W.heap[p.1]? = some p.2) → Rd W A n c l) ∧ (0 < n → ∀ p, A = some p → ∃ o, (p.block, o) ∈ R1) ∧ St w0 w' b g vc D (R ++ R1) := by
  rcases Nat.eq_zero_or_pos n with h0 | hp
  · subst h0
    have hl0 : l = [] := List.eq_nil_of_length_eq_zero hO.len
    subst hl0
    obtain ⟨A, c, rfl, hR⟩ := hO.rd (by omega)
    exact ⟨A, c, [], rfl, fun W _ => ⟨rfl, hR.cap, hR.max, fun hp => absurd hp (by omega)⟩, fun hp => absurd hp (by omega), (h.below hb).app0⟩
  · obtain ⟨k, c, o, rfl, hr, hS⟩ := h.newB hO hb hp
    exact ⟨_, c, [(k, o)], rfl, row_rd hr hm, fun _ p hp => by injection hp with hp; subst hp; exact ⟨o, by simp⟩, hS.back⟩
theorem St.newF {n c : Nat} {A : Option Addr} {l : List Ft} (h : St w0 w b g vc D R) (hF : RdF w' A n c l) (hb : Below w.heap.size w w') (hx : ∀ p, A = some p → w.heap.size ≤ p.block) : ∃ R1, (∀ W : World, (∀ p ∈ R1, W.heap[p.1]? = some p.2) → RdF W A n c l) ∧ (0 < n → ∀ p, A = some p → ∃ o, (p.block, o) ∈ R1) ∧ St w0 w' b g vc D (R ++ R1) := by
  rcases Nat.eq_zero_or_pos n with h0 | hp
  · subst h0
    exact ⟨[], fun W _ => hF.heapEq (fun hp => absurd hp (by omega)), fun hp => absurd hp (by omega), (h.below hb).app0⟩
  · obtain ⟨k, o, rfl, hc⟩ := hF.at_ hp
    have hlt := World.block_lt_of_cell? w' _ (hc 0 hp).1
    have he : w'.heap[k]? = some (w'.heap[k]'hlt) := Array.getElem?_eq_getElem hlt
    exact ⟨[(k, w'.heap[k]'hlt)], fun W hW => hF.heapEq (fun _ p hp => by injection hp with hp; subst hp; exact (hW (k, w'.heap[k]'hlt) (by simp)).trans he.symm), fun _ p hp => by injection hp with hp; subst hp; exact ⟨_, by simp; rfl⟩, (h.new hb (hx _ rfl) he).back⟩
theorem St.hxG {n : Nat} {A : Option Addr} {R1 : List (Nat × Obj)} (h : St w0 w b g vc D R) (hk : 0 < n → ∀ p, A = some p → ∃ o, (p.block, o) ∈ R1) (hs : ∀ p ∈ R1, p ∈ R) : 0 < n → ∀ p, A = some p → p.block ∉ dvS b g vc := fun hn p hp => by
  obtain ⟨o, ho⟩ := hk hn p hp
  exact h.kp.out _ (hs _ ho)
theorem st_WriteG (num : Int) (A : Option Addr) (m c : Nat) (L : List UInt8) (h : St w0 w b g vc D R) (hr : Rd w A m c L) (hx : 0 < m → ∀ p, A = some p → p.block ∉ dvS b g vc) (hl : D.left < 9223372036854775808) (hq : D.C.length ≤ 100000000000) (hwr : D.wr < 9223372036854775807) :
    Calls Try.prog 51 #[.pointer (some ⟨b, 0, none⟩), .int .i64 num, .slice A m c] w fun e w' => e = .returned (.int .i64 (wrD D num L).1) ∧ ∃ vc', St w0 w' b g vc' (wrD D num L).2 R := by
  refine (dv_Write w b g vc D num A m c L h.dv hr hx hl hq hwr).mono ?_
  rintro e w' ⟨rfl, vc', hV, hF⟩
  exact ⟨rfl, vc', h.fr hV hF⟩
theorem st_EditG (num at_ : Int) (A : Option Addr) (m c : Nat) (L : List UInt8) (h : St w0 w b g vc D R) (hr : Rd w A m c L) (hat : -9223372036854775808 ≤ at_ ∧ at_ < 9223372036854775808) :
    Calls Try.prog 20 #[.pointer (some ⟨b, 0, none⟩), .int .i64 num, .int .i64 at_, .slice A m c] w fun e w' => e = .returned (.int .i64 (edD D num at_ L).1) ∧ St w0 w' b g vc (edD D num at_ L).2 R := by
  refine (dv_Edit w b g vc D num at_ A m c L h.dv hr hat).mono ?_
  rintro e w' ⟨rfl, hV, hF⟩
  exact ⟨rfl, h.fr hV hF⟩
/-- Of: a new device's blocks as rows -/
theorem st_OfG {n c : Nat} {A : Option Addr} {L : List UInt8} (h : St w0 w b g vc D R) (hr : Rd w A n c L) (hb : OfOk n) :
    Calls Try.prog 37 #[.slice A n c] w fun e w' => ∃ b2 g2 Rn, e = .returned (.tuple #[.pointer (some ⟨b2, 0, none⟩), .int .i64 0]) ∧ DvR b2 g2 (.slice none 0 0) ⟨n / 512, L, [], 0, false, false, 0, 0, 0⟩ Rn ∧ St w0 w' b g vc D (R ++ Rn) := by
  refine (dv_Of_ok A n c L w hr hb).mono ?_
  rintro e w' ⟨rfl, hD, hbl⟩
  have hV : IsV w' (w.heap.size + 1) w.heap.size (.slice none 0 0) ⟨n / 512, L, [], 0, false, false, 0, 0, 0⟩ := ⟨hD, ⟨PdOk.nil _, World.ownsRow_nil _ _ _ _⟩, fun k hk => by cases hk⟩
  have h2 : St w w' (w.heap.size + 1) w.heap.size (.slice none 0 0) ⟨n / 512, L, [], 0, false, false, 0, 0, 0⟩ [] := St.of hV (fun s hs => by
    simp only [dvS, Value.ownBlock, Option.toList_none, List.mem_cons, List.not_mem_nil, or_false] at hs
    omega) hbl
  obtain ⟨Rn, h3, h4⟩ := h.join h2
  rw [List.append_nil] at h4
  exact ⟨_, _, Rn, rfl, h3, h4⟩
end
end Go.Proofs.Ytggoaelbglhehaa
/- Write of the program over a state; the laws' helpers same, own, first. -/
set_option linter.unusedVariables false
set_option linter.unusedSimpArgs false
set_option maxRecDepth 100000
namespace Go.Proofs.Ytggoaelbglhehaa
open Go.RowKit SumMath
theorem l11_own (w : World) (A : Option Addr) (n c : Nat) (l : List UInt8) (hr : Rd w A n c l) (hn : n ≤ 140737488355328) :
    Calls Try.prog 14 #[.slice A n c] w fun e w' => ∃ u, e = .returned u ∧ Own w' w.heap.size u n l ∧ Below w.heap.size w w' := by
  have HR := Lib.hid hr
  have hl := Lib.hid hr.len
  clear hr
  go_enter Try.func14, Try.ntmps14
  go_wp2_with fail
  go_loopw [3, 4] (fun v x wx => ∃ k : Nat, k ≤ n ∧ x = .int .i64 k ∧ Own wx w.heap.size v k (l.take k) ∧ Below w.heap.size w wx) (fun _ x _ => n - (intOf x).toNat)
  case atStart => exact ⟨0, by omega, rfl, Own.nil _ _, Below.refl _ _⟩
  case round =>
    obtain ⟨k, hk, rfl, hO, hB⟩ := hrel
    have HO := Lib.hid hO
    have HB := Lib.hid hB
    have hz := hB.size
    clear hO hB
    by_cases hkn : k < n
    · obtain ⟨b, o, rfl, hc⟩ := (HR.out.ext HB.out).at_ (by omega)
      have hcell := hc k hkn
      obtain ⟨y, hy⟩ : ∃ y, y = l.getD k 0 := ⟨_, rfl⟩
      rw [← hy] at hcell
      have HST := Lib.hid (show l.take (k + 1) = l.take k ++ [y] by rw [hy]; exact take_snoc l k 0 (by rw [hl.out]; exact hkn))
      have hki : (0 : Int) ≤ (k : Int) ∧ (k : Int) < (n : Int) := by omega
      clear hc hy
      go_wp2_with (at_builtin; refine wp_app1 (w0 := w) w.heap.size y HO.out HB.out hz (by omega) _ _ rfl rfl rfl rfl ?_; intro v1 w1 hO1 hB1 hG1 hA1; have HO1 := Lib.hid hO1; have HB1 := Lib.hid hB1; clear hO1 hB1 hG1 hA1)
      go_roundw
      case rel => exact ⟨k + 1, by omega, by go_num, by rw [HST.out]; exact HO1.out, HB1.out⟩
      case measure => simp [intOf]; omega
    · obtain rfl : k = n := by omega
      have HT := Lib.hid (show l.take k = l from List.take_of_length_le (by rw [hl.out]; exact Nat.le_refl _))
      rw [HT.out] at HO
      go_wp2
      go_ret
      exact ⟨_, rfl, HO.out, HB.out⟩
theorem l11_same (A A' : Option Addr) (n c n' c' : Nat) (L L' : List UInt8) (w : World) (hr : Rd w A n c L) (hr' : Rd w A' n' c' L') :
    Calls Try.prog 13 #[.slice A n c, .slice A' n' c'] w fun e w' => e = .returned (.bool (decide (L = L'))) ∧ w' = w := by
  have h1 := hr.str
  have h2 := hr'.str
  obtain ⟨x, hx⟩ : ∃ x, x = bstr L := ⟨_, rfl⟩
  obtain ⟨y, hy⟩ : ∃ y, y = bstr L' := ⟨_, rfl⟩
  rw [← hx] at h1
  rw [← hy] at h2
  by_cases h : L = L'
  · have e1 : (x.toList == y.toList) = true := by rw [hx, hy, bstr_list, bstr_list]; exact beq_iff_eq.2 h
    rw [decide_eq_true h]
    clear hr hr' hx hy h
    go_enter Try.func13, Try.ntmps13
    go_wp2
    go_ret
    exact ⟨by first | (simp; done) | (simp; exact beq_iff_eq.1 e1), rfl⟩
  · have e1 : (x.toList == y.toList) = false := by rw [hx, hy, bstr_list, bstr_list]; exact beq_eq_false_iff_ne.2 h
    rw [decide_eq_false h]
    clear hr hr' hx hy h
    go_enter Try.func13, Try.ntmps13
    go_wp2
    go_ret
    exact ⟨by first | (simp; done) | (simp; exact beq_eq_false_iff_ne.1 e1), rfl⟩
def firstS : Sp := ⟨1, 1, 64, 8, 1, 0, 0, 0, 0⟩
theorem l11_first (w : World) : Calls Try.prog 38 #[] w fun e w' => e = .returned (.agg (spC firstS)) ∧ Below w.heap.size w w' := by
  go_enter Try.func38, Try.ntmps38
  go_wp2
  (try simp only [Exit.inBlock, Exit.then])
  exact bodyPost_ret (results_cell_row rfl _ _ w.heap.size 25 (spC firstS) (0, 0) _ rfl (heap_alloc_new w _) Try.underlying25 rfl sz_sup) rfl ⟨rfl, (Below.refl _ w).alloc (Nat.le_refl _) _⟩
theorem wr_bounds (D : DS) (m : Int) (L : List UInt8) (hl : D.left < 9223372036854775808) (hq : D.C.length ≤ 1000000000) (hf : D.fl < 9000000000000000000) : (wrD D m L).2.left < 9223372036854775808 ∧ (wrD D m L).2.C.length ≤ 1000000001 ∧ (wrD D m L).2.fl < 9000000000000000000 := by
  have hk := actD_keeps D
  have ha : (actD D).2.left ≤ D.left := by
    unfold actD; split
    · exact Nat.le_refl _
    · split
      · exact Nat.le_refl _
      · split
        · exact Nat.sub_le _ _
        · exact Nat.le_refl _
  have h1 := congrArg List.length hk.1
  have h2 := hk.2.2.2.2.2
  unfold wrD
  split
  · exact ⟨hl, Nat.le_trans hq (by omega), hf⟩
  · split
    · exact ⟨hl, Nat.le_trans hq (by omega), hf⟩
    · split
      · refine ⟨by show (actD D).2.left < _; omega, ?_, by show (actD D).2.fl < _; omega⟩
        show ((actD D).2.C ++ [_]).length ≤ _
        rw [List.length_append]; simp only [List.length_cons, List.length_nil]; omega
      · exact ⟨by show (actD D).2.left < _; omega, by show (actD D).2.C.length ≤ _; omega, by show (actD D).2.fl < _; omega⟩
def anW (D : DS) (s : Sp) : Int × DS :=
  if Vld s D.n then (if (wrD D (s.gen % 2) (encL s)).1 = 0 then (if (flD (wrD D (s.gen % 2) (encL s)).2).1 = 0 then (0, (flD (wrD D (s.gen % 2) (encL s)).2).2) else (6, (flD (wrD D (s.gen % 2) (encL s)).2).2)) else (6, (wrD D (s.gen % 2) (encL s)).2)) else (1, D)
set_option maxHeartbeats 4000000 in
theorem st_anWrite {w0 w : World} {b g : Nat} {v : Value} {D : DS} {R : List (Nat × Obj)} (s : Sp) (hs : s.ok) (h : St w0 w b g v D R) (hl : D.left < 9223372036854775808) (hq : D.C.length ≤ 1000000000) (hwr : D.wr < 9000000000000000000) (hfl : D.fl < 9000000000000000000) :
    Calls Try.prog 23 #[.pointer (some ⟨b, 0, none⟩), .agg (spC s)] w fun e w' => e = .returned (.int .i64 (anW D s).1) ∧ ∃ v', St w0 w' b g v' (anW D s).2 R := by
  obtain ⟨q, hq0⟩ : ∃ q, q = w.heap.size := ⟨_, rfl⟩
  have HS1 := Lib.hid (show St w0 (w.alloc (spO s)) b g v D ((q, spO s) :: R) by rw [hq0]; exact h.new ((Below.refl _ w).alloc (Nat.le_refl _) (spO s)) (Nat.le_refl _) (heap_alloc_new w (spO s)))
  have HV := Lib.hid (an_Valid s D.n hs)
  have HA := Lib.hid (show anW D s = if Vld s D.n then (if (wrD D (s.gen % 2) (encL s)).1 = 0 then (if (flD (wrD D (s.gen % 2) (encL s)).2).1 = 0 then (0, (flD (wrD D (s.gen % 2) (encL s)).2).2) else (6, (flD (wrD D (s.gen % 2) (encL s)).2).2)) else (6, (wrD D (s.gen % 2) (encL s)).2)) else (1, D) from rfl)
  obtain ⟨AW, hAW⟩ : ∃ AW, AW = anW D s := ⟨_, rfl⟩
  rw [← hAW] at HA ⊢
  have HEL := Lib.hid (show ∀ hv : Vld s D.n, s.gen.tmod 2 = s.gen % 2 from fun hv => Int.tmod_eq_emod_of_nonneg (by have := hv.gen; omega))
  have HEN := Lib.hid (fun (hv : Vld s D.n) (W : World) => an_Encode s hs (by rw [hv.blocks]; exact hv) W)
  have HLQ := Lib.hid hq
  have HLW := Lib.hid hwr
  have HLF := Lib.hid hfl
  have HLL := Lib.hid hl
  obtain ⟨EL, hEL⟩ : ∃ EL, EL = encL s := ⟨_, rfl⟩
  rw [← hEL] at HA HEN
  have HCB := Lib.hid (show ∀ (W : World) (v' : Value) (D' : DS) (X : List (Nat × Obj)), St w0 W b g v' D' X → (q, spO s) ∈ X → _ from fun W v' D' X h h1 => cell9 (h.mem h1))
  obtain ⟨sg, se, sb, sl, ss, sa, sr, sc, sv⟩ := s
  unfold spC at HV HEN ⊢
  dsimp only at HV HA HEL HCB HEN ⊢
  have HQ := Lib.hid hq0
  clear h hs hAW hEL hq0 hq hwr hfl hl
  go_enter Try.func23, Try.ntmps23
  go_wp2_with fail
  obtain ⟨W1, hW1⟩ : ∃ W1, W1 = w.alloc (.cells #[.int .i64 sg, .int .i64 se, .int .i64 sb, .int .i64 sl, .int .i64 ss, .int .i64 sa, .int .i64 sr, .int .i64 sc, .int .i64 sv] 25) := ⟨_, rfl⟩
  rw [← hW1, ← HQ.out]
  have HS2 := Lib.hid (show St w0 W1 b g v D ((q, spO ⟨sg, se, sb, sl, ss, sa, sr, sc, sv⟩) :: R) by rw [hW1]; exact HS1.out)
  clear hW1 HS1
  by_cases hv : Vld ⟨sg, se, sb, sl, ss, sa, sr, sc, sv⟩ D.n
  rotate_left
  · rw [decide_eq_false hv] at HV
    have HD := Lib.hid (show AW = (1, D) by rw [HA.out, if_neg hv])
    have hR0 := HCB.out _ _ _ _ (HS2.out.drewN 1) (by simp)
    refine wp_region_z (fun w' => w'.cell? ⟨q, 0, none⟩ = some (.int .i64 sg) ∧ w'.cell? ⟨q, 1, none⟩ = some (.int .i64 se) ∧ w'.cell? ⟨q, 2, none⟩ = some (.int .i64 sb) ∧ w'.cell? ⟨q, 3, none⟩ = some (.int .i64 sl) ∧ w'.cell? ⟨q, 4, none⟩ = some (.int .i64 ss) ∧ w'.cell? ⟨q, 5, none⟩ = some (.int .i64 sa) ∧ w'.cell? ⟨q, 6, none⟩ = some (.int .i64 sr) ∧ w'.cell? ⟨q, 7, none⟩ = some (.int .i64 sc) ∧ w'.cell? ⟨q, 8, none⟩ = some (.int .i64 sv)) (fun _ => True) 9 (by kernel_rfl) ?_
    refine wpAnyZ.takeN (i := 0) (v := .pointer (some ⟨b, 0, none⟩)) rfl (by kernel_rfl) (by kernel_rfl) (by kernel_rfl) (by decide) (fun _ _ _ h => h) (by rfl) (fun w => ?zy) hR0 (fun _ => trivial) ?_
    case zy => go_simp
    (try simp only [Act.put, List.getElem_toArray, List.getElem_cons_zero, List.getElem_cons_succ, List.setIfInBounds_toArray, List.set_cons_zero, List.set_cons_succ])
    refine wpAnyZ.takeN (i := 1) (v := .bool false) rfl (by kernel_rfl) (by kernel_rfl) (by kernel_rfl) (by decide) (fun _ _ _ h => h) (by rfl) (fun w => ?zy) hR0 (fun _ => trivial) ?_
    case zy => go_simp
    (try simp only [Act.put, List.getElem_toArray, List.getElem_cons_zero, List.getElem_cons_succ, List.setIfInBounds_toArray, List.set_cons_zero, List.set_cons_succ])
    refine wpAnyZ.takeN (i := 2) (v := .bool false) rfl (by kernel_rfl) (by kernel_rfl) (by kernel_rfl) (by decide) (fun _ _ _ h => h) (by rfl) (fun w => ?zy) hR0 (fun _ => trivial) ?_
    case zy => go_simp
    (try simp only [Act.put, List.getElem_toArray, List.getElem_cons_zero, List.getElem_cons_succ, List.setIfInBounds_toArray, List.set_cons_zero, List.set_cons_succ])
    refine wpAnyZ.take (i := 3) (v := .agg #[.int .i64 sg, .int .i64 se, .int .i64 sb, .int .i64 sl, .int .i64 ss, .int .i64 sa, .int .i64 sr, .int .i64 sc, .int .i64 sv]) (U := (fun w' => w'.cell? ⟨q, 0, none⟩ = some (.int .i64 sg) ∧ w'.cell? ⟨q, 1, none⟩ = some (.int .i64 se) ∧ w'.cell? ⟨q, 2, none⟩ = some (.int .i64 sb) ∧ w'.cell? ⟨q, 3, none⟩ = some (.int .i64 sl) ∧ w'.cell? ⟨q, 4, none⟩ = some (.int .i64 ss) ∧ w'.cell? ⟨q, 5, none⟩ = some (.int .i64 sa) ∧ w'.cell? ⟨q, 6, none⟩ = some (.int .i64 sr) ∧ w'.cell? ⟨q, 7, none⟩ = some (.int .i64 sc) ∧ w'.cell? ⟨q, 8, none⟩ = some (.int .i64 sv))) rfl (by kernel_rfl) (by kernel_rfl) (by kernel_rfl) (by decide) (fun _ _ _ h => h) (.inl fun _ h => h) (.inr fun _ h => h) (.inl ⟨by rfl, fun w hw => ?zy⟩) hR0 hR0 (fun _ => trivial) ?_
    case zy => (dsimp only at hw; obtain ⟨z0, z1, z2, z3, z4, z5, z6, z7, z8⟩ := hw; go_simp)
    (try simp only [Act.put, List.getElem_toArray, List.getElem_cons_zero, List.getElem_cons_succ, List.setIfInBounds_toArray, List.set_cons_zero, List.set_cons_succ])
    refine wpAnyZ.takeN (i := 4) (v := .pointer (some ⟨b, 0, none⟩)) rfl (by kernel_rfl) (by kernel_rfl) (by kernel_rfl) (by decide) (fun _ _ _ h => h) (by rfl) (fun w => ?zy) hR0 (fun _ => trivial) ?_
    case zy => go_simp
    (try simp only [Act.put, List.getElem_toArray, List.getElem_cons_zero, List.getElem_cons_succ, List.setIfInBounds_toArray, List.set_cons_zero, List.set_cons_succ])
    refine wpAnyZ.oneK (i := 5) (E := False) (by kernel_rfl) rfl (by rfl) (fun K hK => ?_)
    go_simp
    refine (dv_BlocksV _ b g v _ (HS2.out.drewN 1).dv).mono ?_
    rintro e w6 ⟨rfl, rfl⟩
    go_wp2_with fail
    refine hK.out _ _ ⟨⟨hR0, fun _ => trivial⟩, ?_⟩
    clear hK
    (try simp only [Act.put, List.getElem_toArray, List.getElem_cons_zero, List.getElem_cons_succ, List.setIfInBounds_toArray, List.set_cons_zero, List.set_cons_succ])
    refine wpAnyZ.oneK (i := 6) (E := False) (by kernel_rfl) rfl (by rfl) (fun K hK => ?_)
    go_simp
    refine (HV.out _).mono ?_
    rintro e w7 ⟨rfl, hB7⟩
    have HS7 := Lib.hid ((HS2.out.drewN 1).below hB7)
    have hR7 := HCB.out _ _ _ _ HS7.out (by simp)
    clear hB7
    go_wp2_with fail
    refine hK.out _ _ ⟨⟨hR7, fun _ => trivial⟩, ?_⟩
    clear hK hR0
    (try simp only [Act.put, List.getElem_toArray, List.getElem_cons_zero, List.getElem_cons_succ, List.setIfInBounds_toArray, List.set_cons_zero, List.set_cons_succ])
    refine wpAnyZ.takeN (i := 7) (v := .bool true) rfl (by kernel_rfl) (by kernel_rfl) (by kernel_rfl) (by decide) (fun _ _ _ h => h) (by rfl) (fun w => ?zy) hR7 (fun _ => trivial) ?_
    case zy => go_simp
    (try simp only [Act.put, List.getElem_toArray, List.getElem_cons_zero, List.getElem_cons_succ, List.setIfInBounds_toArray, List.set_cons_zero, List.set_cons_succ])
    refine wpAnyZ.takeN (i := 8) (v := .bool true) rfl (by kernel_rfl) (by kernel_rfl) (by kernel_rfl) (by decide) (fun _ _ _ h => h) (by rfl) (fun w => ?zy) hR7 (fun _ => trivial) ?_
    case zy => go_simp
    (try simp only [Act.put, List.getElem_toArray, List.getElem_cons_zero, List.getElem_cons_succ, List.setIfInBounds_toArray, List.set_cons_zero, List.set_cons_succ])
    refine wpAnyZ.done (by kernel_rfl) ?_ _
    clear hR7
    go_wp2
    go_ret
    rw [HD.out]
    exact ⟨rfl, v, HS7.out.sub (List.sublist_cons_self _ _)⟩
  rw [decide_eq_true hv] at HV
  have hm1 := HEL.out hv
  have HE2 := Lib.hid (HEN.out hv)
  have HA2 := Lib.hid (show AW = (if (wrD D (sg % 2) EL).1 = 0 then (if (flD (wrD D (sg % 2) EL).2).1 = 0 then (0, (flD (wrD D (sg % 2) EL).2).2) else (6, (flD (wrD D (sg % 2) EL).2).2)) else (6, (wrD D (sg % 2) EL).2)) by rw [HA.out, if_pos hv])
  have hR0 := HCB.out _ _ _ _ (HS2.out.drewN 1) (by simp)
  refine wp_region_z (fun w' => w'.cell? ⟨q, 0, none⟩ = some (.int .i64 sg) ∧ w'.cell? ⟨q, 1, none⟩ = some (.int .i64 se) ∧ w'.cell? ⟨q, 2, none⟩ = some (.int .i64 sb) ∧ w'.cell? ⟨q, 3, none⟩ = some (.int .i64 sl) ∧ w'.cell? ⟨q, 4, none⟩ = some (.int .i64 ss) ∧ w'.cell? ⟨q, 5, none⟩ = some (.int .i64 sa) ∧ w'.cell? ⟨q, 6, none⟩ = some (.int .i64 sr) ∧ w'.cell? ⟨q, 7, none⟩ = some (.int .i64 sc) ∧ w'.cell? ⟨q, 8, none⟩ = some (.int .i64 sv)) (fun _ => True) 9 (by kernel_rfl) ?_
  refine wpAnyZ.takeN (i := 0) (v := .pointer (some ⟨b, 0, none⟩)) rfl (by kernel_rfl) (by kernel_rfl) (by kernel_rfl) (by decide) (fun _ _ _ h => h) (by rfl) (fun w => ?zy) hR0 (fun _ => trivial) ?_
  case zy => go_simp
  (try simp only [Act.put, List.getElem_toArray, List.getElem_cons_zero, List.getElem_cons_succ, List.setIfInBounds_toArray, List.set_cons_zero, List.set_cons_succ])
  refine wpAnyZ.takeN (i := 1) (v := .bool false) rfl (by kernel_rfl) (by kernel_rfl) (by kernel_rfl) (by decide) (fun _ _ _ h => h) (by rfl) (fun w => ?zy) hR0 (fun _ => trivial) ?_
  case zy => go_simp
  (try simp only [Act.put, List.getElem_toArray, List.getElem_cons_zero, List.getElem_cons_succ, List.setIfInBounds_toArray, List.set_cons_zero, List.set_cons_succ])
  refine wpAnyZ.takeN (i := 2) (v := .bool false) rfl (by kernel_rfl) (by kernel_rfl) (by kernel_rfl) (by decide) (fun _ _ _ h => h) (by rfl) (fun w => ?zy) hR0 (fun _ => trivial) ?_
  case zy => go_simp
  (try simp only [Act.put, List.getElem_toArray, List.getElem_cons_zero, List.getElem_cons_succ, List.setIfInBounds_toArray, List.set_cons_zero, List.set_cons_succ])
  refine wpAnyZ.take (i := 3) (v := .agg #[.int .i64 sg, .int .i64 se, .int .i64 sb, .int .i64 sl, .int .i64 ss, .int .i64 sa, .int .i64 sr, .int .i64 sc, .int .i64 sv]) (U := (fun w' => w'.cell? ⟨q, 0, none⟩ = some (.int .i64 sg) ∧ w'.cell? ⟨q, 1, none⟩ = some (.int .i64 se) ∧ w'.cell? ⟨q, 2, none⟩ = some (.int .i64 sb) ∧ w'.cell? ⟨q, 3, none⟩ = some (.int .i64 sl) ∧ w'.cell? ⟨q, 4, none⟩ = some (.int .i64 ss) ∧ w'.cell? ⟨q, 5, none⟩ = some (.int .i64 sa) ∧ w'.cell? ⟨q, 6, none⟩ = some (.int .i64 sr) ∧ w'.cell? ⟨q, 7, none⟩ = some (.int .i64 sc) ∧ w'.cell? ⟨q, 8, none⟩ = some (.int .i64 sv))) rfl (by kernel_rfl) (by kernel_rfl) (by kernel_rfl) (by decide) (fun _ _ _ h => h) (.inl fun _ h => h) (.inr fun _ h => h) (.inl ⟨by rfl, fun w hw => ?zy⟩) hR0 hR0 (fun _ => trivial) ?_
  case zy => (dsimp only at hw; obtain ⟨z0, z1, z2, z3, z4, z5, z6, z7, z8⟩ := hw; go_simp)
  (try simp only [Act.put, List.getElem_toArray, List.getElem_cons_zero, List.getElem_cons_succ, List.setIfInBounds_toArray, List.set_cons_zero, List.set_cons_succ])
  refine wpAnyZ.takeN (i := 4) (v := .pointer (some ⟨b, 0, none⟩)) rfl (by kernel_rfl) (by kernel_rfl) (by kernel_rfl) (by decide) (fun _ _ _ h => h) (by rfl) (fun w => ?zy) hR0 (fun _ => trivial) ?_
  case zy => go_simp
  (try simp only [Act.put, List.getElem_toArray, List.getElem_cons_zero, List.getElem_cons_succ, List.setIfInBounds_toArray, List.set_cons_zero, List.set_cons_succ])
  refine wpAnyZ.oneK (i := 5) (E := False) (by kernel_rfl) rfl (by rfl) (fun K hK => ?_)
  go_simp
  refine (dv_BlocksV _ b g v _ (HS2.out.drewN 1).dv).mono ?_
  rintro e w6 ⟨rfl, rfl⟩
  go_wp2_with fail
  refine hK.out _ _ ⟨⟨hR0, fun _ => trivial⟩, ?_⟩
  clear hK
  (try simp only [Act.put, List.getElem_toArray, List.getElem_cons_zero, List.getElem_cons_succ, List.setIfInBounds_toArray, List.set_cons_zero, List.set_cons_succ])
  refine wpAnyZ.oneK (i := 6) (E := False) (by kernel_rfl) rfl (by rfl) (fun K hK => ?_)
  go_simp
  refine (HV.out _).mono ?_
  rintro e w7 ⟨rfl, hB7⟩
  have HS7 := Lib.hid ((HS2.out.drewN 1).below hB7)
  have hR7 := HCB.out _ _ _ _ HS7.out (by simp)
  clear hB7
  go_wp2_with fail
  refine hK.out _ _ ⟨⟨hR7, fun _ => trivial⟩, ?_⟩
  clear hK hR0
  (try simp only [Act.put, List.getElem_toArray, List.getElem_cons_zero, List.getElem_cons_succ, List.setIfInBounds_toArray, List.set_cons_zero, List.set_cons_succ])
  refine wpAnyZ.takeN (i := 7) (v := .bool false) rfl (by kernel_rfl) (by kernel_rfl) (by kernel_rfl) (by decide) (fun _ _ _ h => h) (by rfl) (fun w => ?zy) hR7 (fun _ => trivial) ?_
  case zy => go_simp
  (try simp only [Act.put, List.getElem_toArray, List.getElem_cons_zero, List.getElem_cons_succ, List.setIfInBounds_toArray, List.set_cons_zero, List.set_cons_succ])
  refine wpAnyZ.takeN (i := 8) (v := .bool false) rfl (by kernel_rfl) (by kernel_rfl) (by kernel_rfl) (by decide) (fun _ _ _ h => h) (by rfl) (fun w => ?zy) hR7 (fun _ => trivial) ?_
  case zy => go_simp
  (try simp only [Act.put, List.getElem_toArray, List.getElem_cons_zero, List.getElem_cons_succ, List.setIfInBounds_toArray, List.set_cons_zero, List.set_cons_succ])
  refine wpAnyZ.done (by kernel_rfl) ?_ _
  obtain ⟨m, hm⟩ : ∃ m, m = sg % 2 := ⟨_, rfl⟩
  rw [← hm] at hm1 HA2
  clear hm hv
  go_wp2_with fail
  refine (HE2.out _).mono ?_
  rintro e w8 ⟨g8, rfl, hO, hB8⟩
  obtain ⟨A8, c8, R8, hsl, hr8, hx8, hS8⟩ := HS7.out.newG hO hB8 (by omega)
  have HS8 := Lib.hid hS8
  have hR8 := HCB.out _ _ _ _ hS8 (by simp)
  have HWR := Lib.hid (st_WriteG m A8 512 c8 EL hS8 (hr8 w8 (fun p hp => hS8.kp.all p (by simp [hp]))) (hS8.hxG hx8 (fun p hp => by simp [hp])) HLL.out (by have := HLQ.out; omega) (by have := HLW.out; omega))
  rw [← hsl] at HWR
  obtain ⟨E, hE⟩ : ∃ E, E = (wrD D m EL).1 := ⟨_, rfl⟩
  obtain ⟨D2, hD2⟩ : ∃ D2, D2 = (wrD D m EL).2 := ⟨_, rfl⟩
  rw [← hE, ← hD2] at HWR HA2
  have HB2 := Lib.hid (show D2.left < 9223372036854775808 ∧ D2.C.length ≤ 1000000001 ∧ D2.fl < 9000000000000000000 by rw [hD2]; exact wr_bounds D m EL HLL.out HLQ.out HLF.out)
  clear hO hB8 hsl hr8 hx8 hS8 hE hD2 hR7
  go_wp2_with fail
  refine HWR.out.mono ?_
  rintro e w9 ⟨rfl, v9, hS9⟩
  have HS9 := Lib.hid hS9
  have HFL := Lib.hid (st_Flush hS9 HB2.out.1 (by have := HB2.out.2.1; omega) (by have := HB2.out.2.2; omega))
  clear hS9 hR8
  by_cases hE0 : E = 0
  rotate_left
  · have hEb : (E != 0) = true := by simp [hE0]
    have HD := Lib.hid (show AW = (6, D2) by rw [HA2.out, if_neg hE0])
    go_wp2
    go_ret
    rw [HD.out]
    exact ⟨rfl, v9, HS9.out.sub ((List.sublist_append_left R R8).cons _)⟩
  subst hE0
  rw [if_pos rfl] at HA2
  obtain ⟨F, hF⟩ : ∃ F, F = (flD D2).1 := ⟨_, rfl⟩
  obtain ⟨D3, hD3⟩ : ∃ D3, D3 = (flD D2).2 := ⟨_, rfl⟩
  rw [← hF, ← hD3] at HFL HA2
  clear hF hD3
  go_wp2_with fail
  refine HFL.out.mono ?_
  rintro e w10 ⟨rfl, v10, hS10⟩
  have HS10 := Lib.hid hS10
  clear hS10
  by_cases hF0 : F = 0
  · have hFb : (F != 0) = false := by simp [hF0]
    have HD := Lib.hid (show AW = (0, D3) by rw [HA2.out, if_pos hF0])
    go_wp2
    go_ret
    rw [HD.out]
    exact ⟨rfl, v10, HS10.out.sub ((List.sublist_append_left R R8).cons _)⟩
  · have hFb : (F != 0) = true := by simp [hF0]
    have HD := Lib.hid (show AW = (6, D3) by rw [HA2.out, if_neg hF0])
    go_wp2
    go_ret
    rw [HD.out]
    exact ⟨rfl, v10, HS10.out.sub ((List.sublist_append_left R R8).cons _)⟩
end Go.Proofs.Ytggoaelbglhehaa
/- The first example's superblock on a device of 64 blocks: what Read and Write tell. Plain. -/
set_option linter.unusedVariables false
set_option linter.unusedSimpArgs false
set_option maxRecDepth 100000
namespace Go.Proofs.Ytggoaelbglhehaa
open Go.RowKit SumMath
theorem leN_rep : ∀ n, leN (List.replicate n 0) = 0
  | 0 => rfl
  | n + 1 => by rw [List.replicate_succ, leN, leN_rep n]; rfl
theorem getI_zero (a n : Nat) : getI (seg (List.replicate 512 (0 : UInt8)) a n) = 0 := by
  unfold getI seg
  rw [List.drop_replicate, List.take_replicate, leN_rep]; rfl
theorem decS_zero : decS (List.replicate 512 0) = zSp := by
  unfold decS zSp
  simp only [getI_zero]
theorem not_Vld_zero (n : Int) : ¬ Vld zSp n := fun h => by have h1 := h.gen.1; simp [zSp] at h1
theorem decG_zero : decG (List.replicate 512 0) = (zSp, 2) := by
  unfold decG
  rw [if_neg (by simp), if_neg (fun h => not_Vld_zero _ (by rw [decS_zero] at h; exact h.1))]
theorem Vld_first : Vld firstS 64 := by decide
theorem blkM_repN (N k : Nat) (h : k < N) : blkM (List.replicate (N * 512) 0) k = List.replicate 512 0 := by
  have h1 : k * 512 + 512 ≤ N * 512 := by have : (k + 1) * 512 ≤ N * 512 := Nat.mul_le_mul_right _ h; omega
  unfold blkM
  rw [List.drop_replicate, List.take_replicate, Nat.min_eq_left (by omega)]
/-- a valid superblock written on a device that is up, nothing in its cache -/
theorem anW_up (D : DS) (s : Sp) (hv : Vld s D.n) (hC : D.C = []) (ha : D.armed = false) (hd : D.down = false) : anW D s = (0, { D with M := layP D.M ⟨(s.gen % 2).toNat, encL s⟩ 512, wr := D.wr + 1, fl := D.fl + 1 }) := by
  have hlo := hv.lo
  have hact : ∀ E : DS, E.armed = false → E.down = false → actD E = (true, E) := fun E h1 h2 => by
    unfold actD; rw [if_neg (by simp [h1]), if_neg (by simp [h2]), if_neg (by simp [h1])]
  have hw : wrD D (s.gen % 2) (encL s) = (0, { D with C := D.C ++ [⟨(s.gen % 2).toNat, encL s⟩], wr := D.wr + 1 }) := by
    unfold wrD
    rw [if_neg (by simp only [Decidable.not_not]; omega), if_neg (by rw [encL_len]; simp), hact D ha hd, if_pos rfl]
  have hf : flD { D with C := D.C ++ [⟨(s.gen % 2).toNat, encL s⟩], wr := D.wr + 1 } = (0, { D with M := layP D.M ⟨(s.gen % 2).toNat, encL s⟩ 512, wr := D.wr + 1, fl := D.fl + 1 }) := by
    obtain ⟨n, M, C, left, armed, down, rd, wr, fl⟩ := D
    dsimp only at hC ha hd
    subst hC ha hd
    rfl
  unfold anW
  rw [if_pos hv, hw]
  dsimp only
  rw [if_pos (show (0 : Int) = 0 from rfl), hf]
  dsimp only
  rw [if_pos (show (0 : Int) = 0 from rfl)]
theorem anB_next (D : DS) (i : Nat) : anB D (i + 1) = if (decG (rdB D i)).2 = 0 ∧ Vld (decG (rdB D i)).1 D.n ∧ (decG (rdB D i)).1.gen % 2 = i ∧ (anB D i).1.gen < (decG (rdB D i)).1.gen then ((decG (rdB D i)).1, (i : Int)) else anB D i := rfl
theorem anB_bad (D : DS) (i : Nat) (h : (decG (rdB D i)).2 ≠ 0) : anB D (i + 1) = anB D i := by rw [anB_next, if_neg (fun k => h k.1)]
/-- nothing counts on a new device -/
theorem anR_new : anR (newD 64) = (zSp, 0, 5, { newD 64 with rd := 2 }) := by
  have h0 : rdB (newD 64) 0 = List.replicate 512 0 := blkM_repN 64 0 (by omega)
  have h1 : rdB (newD 64) 1 = List.replicate 512 0 := blkM_repN 64 1 (by omega)
  have e1 : anB (newD 64) 1 = (zSp, 0) := by rw [anB_bad _ 0 (by rw [h0, decG_zero]; decide)]; rfl
  have e2 : anB (newD 64) 2 = (zSp, 0) := by rw [anB_bad _ 1 (by rw [h1, decG_zero]; decide), e1]
  unfold anR
  rw [if_neg (by decide), e2, if_pos (show (zSp, (0 : Int)).1.gen = 0 from rfl)]
  rfl
def fixD : DS := ⟨64, layP (List.replicate (64 * 512) 0) ⟨1, encL firstS⟩ 512, [], 0, false, false, 2, 1, 1⟩
theorem anW_first : anW { newD 64 with rd := 2 } firstS = (0, fixD) := by
  rw [anW_up _ _ Vld_first rfl rfl rfl]; rfl
theorem anR_first : anR fixD = (firstS, 1, 0, { fixD with rd := 4 }) := by
  have hl : (List.replicate (64 * 512) (0 : UInt8)).length = 64 * 512 := List.length_replicate
  have h0 : rdB fixD 0 = List.replicate 512 0 := by
    show blkM (layP (List.replicate (64 * 512) 0) ⟨1, encL firstS⟩ 512) 0 = _
    rw [layP_other (N := 64) hl (by show 1 < 64; omega) (encL_len firstS) (by show 1 ≠ 0; omega)]
    exact blkM_repN 64 0 (by omega)
  have h1 : rdB fixD 1 = encL firstS := by
    have h9 := layP_same (M := List.replicate (64 * 512) 0) (x := ⟨1, encL firstS⟩) (m := 512) (N := 64) hl (by show 1 < 64; omega) (encL_len firstS)
    show blkM (layP (List.replicate (64 * 512) 0) ⟨1, encL firstS⟩ 512) 1 = _
    rw [show blkM (layP (List.replicate (64 * 512) 0) ⟨1, encL firstS⟩ 512) 1 = _ from h9]
    show (encL firstS).take 512 ++ _ = _
    rw [List.take_of_length_le (by rw [encL_len]; exact Nat.le_refl _), List.drop_eq_nil_of_le (by show (blkM _ 1).length ≤ 512; unfold blkM; rw [List.length_take]; omega), List.append_nil]
  have e1 : anB fixD 1 = (zSp, 0) := by rw [anB_bad _ 0 (by rw [h0, decG_zero]; decide)]; rfl
  have hd : decG (encL firstS) = (firstS, 0) := decG_enc firstS Vld_first
  have e2 : anB fixD 2 = (firstS, 1) := by
    rw [anB_next, h1, hd, e1, if_pos ⟨rfl, Vld_first, by decide, by decide⟩]; rfl
  unfold anR
  rw [if_neg (by decide), e2, if_neg (by decide)]
  rfl
theorem first9 : (encL firstS).take 9 = [66, 83, 65, 82, 1, 0, 0, 0, 1] := by decide +kernel
end Go.Proofs.Ytggoaelbglhehaa
/- The laws' helper fixed. -/
set_option linter.unusedVariables false
set_option linter.unusedSimpArgs false
set_option maxRecDepth 100000
namespace Go.Proofs.Ytggoaelbglhehaa
open Go.RowKit SumMath
set_option maxHeartbeats 4000000 in
theorem l11_fixed (w : World) : Calls Try.prog 8 #[] w fun e w' => e = .returned (.bool true) ∧ Below w.heap.size w w' := by
  have HN := Lib.hid (dv_New_ok 64 (by omega) (by omega) w)
  have HFR := Lib.hid l11_first
  have HEN := Lib.hid (an_Encode firstS (by unfold firstS Sp.ok; dsimp only; omega) Vld_first)
  have HOK := Lib.hid (show firstS.ok by unfold firstS Sp.ok; dsimp only; omega)
  have HF9 := Lib.hid first9
  go_enter Try.func8, Try.ntmps8
  go_wp2_with fail
  refine HN.out.mono ?_
  rintro e w1 ⟨rfl, hD, hb⟩
  have hV : IsV w1 (w.heap.size + 1) w.heap.size (.slice none 0 0) (newD 64) := ⟨hD, ⟨PdOk.nil _, World.ownsRow_nil _ _ _ _⟩, fun k hk => by cases hk⟩
  have hS1 : St w w1 (w.heap.size + 1) w.heap.size (.slice none 0 0) (newD 64) [] := St.of hV (fun s hs => by
    simp only [dvS, Value.ownBlock, Option.toList_none, List.mem_cons, List.not_mem_nil, or_false] at hs
    omega) hb
  obtain ⟨b, hbe⟩ : ∃ b, b = w.heap.size + 1 := ⟨_, rfl⟩
  obtain ⟨g, hge⟩ : ∃ g, g = w.heap.size := ⟨_, rfl⟩
  rw [← hbe] at hS1 ⊢
  have HS1 := Lib.hid (show St w w1 b g (.slice none 0 0) (newD 64) [] by rw [hge]; exact hS1)
  have HR1 := Lib.hid (st_anRead HS1.out (by show 0 < _; omega) (by show 0 ≤ _; omega))
  rw [anR_new] at HR1
  clear hD hb hV hS1 hbe hge
  go_wp2_with fail
  refine HR1.out.mono ?_
  rintro e w2 ⟨rfl, hS2⟩
  unfold spC zSp
  dsimp only
  have HS2 := Lib.hid (hS2.alloc (spO zSp))
  clear hS2 HR1
  go_wp2_with fail
  refine (HFR.out _).mono ?_
  rintro e w3 ⟨rfl, hB3⟩
  have HS3 := Lib.hid (HS2.out.below hB3)
  have HW3 := Lib.hid (st_anWrite firstS HOK.out HS3.out (by show 0 < _; omega) (by show 0 ≤ _; omega) (by show 0 < _; omega) (by show 0 < _; omega))
  rw [anW_first] at HW3
  clear hB3
  go_wp2_with fail
  refine HW3.out.mono ?_
  rintro e w4 ⟨rfl, v4, hS4⟩
  have HS4 := Lib.hid hS4
  have HR4 := Lib.hid (st_anRead HS4.out (by show 2 < _; omega) (by show 0 ≤ _; omega))
  rw [anR_first] at HR4
  clear hS4 HW3
  go_wp2_with fail
  refine HR4.out.mono ?_
  rintro e w5 ⟨rfl, hS5⟩
  obtain ⟨q6, hq6⟩ : ∃ q6, q6 = w5.heap.size := ⟨_, rfl⟩
  have HS6 := Lib.hid (show St w (w5.alloc (spO firstS)) b g v4 { fixD with rd := 4 } [(q6, spO firstS)] by rw [hq6]; exact hS5.new ((Below.refl _ w5).alloc (Nat.le_refl _) (spO firstS)) (Nat.le_refl _) (heap_alloc_new w5 (spO firstS)))
  have HQ6 := Lib.hid hq6
  unfold spC firstS
  dsimp only
  clear hS5 HR4 hq6
  go_wp2_with fail
  refine (HFR.out _).mono ?_
  rintro e w7 ⟨rfl, hB7⟩
  have HS7 := Lib.hid (HS6.out.below hB7)
  clear hB7
  go_wp2_with fail
  refine (HEN.out w7).mono ?_
  rintro e w8 ⟨gk, rfl, hO8, hB8⟩
  have HS8 := Lib.hid (HS7.out.below hB8)
  have HO8 := Lib.hid hO8
  clear hO8 hB8
  go_wp2_with fail
  rw [← HQ6.out]
  obtain ⟨X9, hX9⟩ : ∃ X9, X9 = bstr ((encL firstS).take 9) := ⟨_, rfl⟩
  have HST := Lib.hid (show ∀ W : World, Below w8.heap.size w8 W → (convert 26 9 (.slice (some ⟨gk, 0, none⟩) 9 512)).run Try.prog W = .ok (.string X9) W from fun W hW => by
    rw [hX9]; exact (((HO8.out.ext hW).rdC (by omega)).take 9 (by omega)).str)
  have e9 : X9.toList = [66, 83, 65, 82, 1, 0, 0, 0, 1] := by rw [hX9, bstr_list, HF9.out]
  have hR0 : (w8.drew.cell? ⟨q6, 0, none⟩ = some (.int .i64 1) ∧ w8.drew.cell? ⟨q6, 1, none⟩ = some (.int .i64 1) ∧ w8.drew.cell? ⟨q6, 2, none⟩ = some (.int .i64 64) ∧ w8.drew.cell? ⟨q6, 3, none⟩ = some (.int .i64 8) ∧ w8.drew.cell? ⟨q6, 4, none⟩ = some (.int .i64 1) ∧ w8.drew.cell? ⟨q6, 5, none⟩ = some (.int .i64 0) ∧ w8.drew.cell? ⟨q6, 6, none⟩ = some (.int .i64 0) ∧ w8.drew.cell? ⟨q6, 7, none⟩ = some (.int .i64 0) ∧ w8.drew.cell? ⟨q6, 8, none⟩ = some (.int .i64 0)) ∧ _ := ⟨cell9 (s := firstS) ((HS8.out.drewN 1).mem (show (q6, spO firstS) ∈ _ by simp)), HST.out w8.drew ((Below.refl _ w8).drew)⟩
  clear hX9
  refine wp_region_z (fun w' => (w'.cell? ⟨q6, 0, none⟩ = some (.int .i64 1) ∧ w'.cell? ⟨q6, 1, none⟩ = some (.int .i64 1) ∧ w'.cell? ⟨q6, 2, none⟩ = some (.int .i64 64) ∧ w'.cell? ⟨q6, 3, none⟩ = some (.int .i64 8) ∧ w'.cell? ⟨q6, 4, none⟩ = some (.int .i64 1) ∧ w'.cell? ⟨q6, 5, none⟩ = some (.int .i64 0) ∧ w'.cell? ⟨q6, 6, none⟩ = some (.int .i64 0) ∧ w'.cell? ⟨q6, 7, none⟩ = some (.int .i64 0) ∧ w'.cell? ⟨q6, 8, none⟩ = some (.int .i64 0)) ∧ (convert 26 9 (.slice (some ⟨gk, 0, none⟩) 9 512)).run Try.prog w' = .ok (.string X9) w') (fun _ => True) 35 (by kernel_rfl) ?_
  refine wpAnyZ.takeN (i := 0) (v := .int .i64 5) rfl (by kernel_rfl) (by kernel_rfl) (by kernel_rfl) (by decide) (fun _ _ _ h => h) (by rfl) (fun w => ?zy) hR0 (fun _ => trivial) ?_
  case zy => go_simp
  (try simp only [Act.put, List.getElem_toArray, List.getElem_cons_zero, List.getElem_cons_succ, List.setIfInBounds_toArray, List.set_cons_zero, List.set_cons_succ])
  refine wpAnyZ.takeN (i := 1) (v := .bool true) rfl (by kernel_rfl) (by kernel_rfl) (by kernel_rfl) (by decide) (fun _ _ _ h => h) (by rfl) (fun w => ?zy) hR0 (fun _ => trivial) ?_
  case zy => go_simp
  (try simp only [Act.put, List.getElem_toArray, List.getElem_cons_zero, List.getElem_cons_succ, List.setIfInBounds_toArray, List.set_cons_zero, List.set_cons_succ])
  refine wpAnyZ.takeN (i := 2) (v := .bool true) rfl (by kernel_rfl) (by kernel_rfl) (by kernel_rfl) (by decide) (fun _ _ _ h => h) (by rfl) (fun w => ?zy) hR0 (fun _ => trivial) ?_
  case zy => go_simp
  (try simp only [Act.put, List.getElem_toArray, List.getElem_cons_zero, List.getElem_cons_succ, List.setIfInBounds_toArray, List.set_cons_zero, List.set_cons_succ])
  refine wpAnyZ.takeN (i := 3) (v := .int .i64 0) rfl (by kernel_rfl) (by kernel_rfl) (by kernel_rfl) (by decide) (fun _ _ _ h => h) (by rfl) (fun w => ?zy) hR0 (fun _ => trivial) ?_
  case zy => go_simp
  (try simp only [Act.put, List.getElem_toArray, List.getElem_cons_zero, List.getElem_cons_succ, List.setIfInBounds_toArray, List.set_cons_zero, List.set_cons_succ])
  refine wpAnyZ.takeN (i := 4) (v := .bool true) rfl (by kernel_rfl) (by kernel_rfl) (by kernel_rfl) (by decide) (fun _ _ _ h => h) (by rfl) (fun w => ?zy) hR0 (fun _ => trivial) ?_
  case zy => go_simp
  (try simp only [Act.put, List.getElem_toArray, List.getElem_cons_zero, List.getElem_cons_succ, List.setIfInBounds_toArray, List.set_cons_zero, List.set_cons_succ])
  refine wpAnyZ.takeN (i := 5) (v := .bool true) rfl (by kernel_rfl) (by kernel_rfl) (by kernel_rfl) (by decide) (fun _ _ _ h => h) (by rfl) (fun w => ?zy) hR0 (fun _ => trivial) ?_
  case zy => go_simp
  (try simp only [Act.put, List.getElem_toArray, List.getElem_cons_zero, List.getElem_cons_succ, List.setIfInBounds_toArray, List.set_cons_zero, List.set_cons_succ])
  refine wpAnyZ.takeN (i := 6) (v := .bool true) rfl (by kernel_rfl) (by kernel_rfl) (by kernel_rfl) (by decide) (fun _ _ _ h => h) (by rfl) (fun w => ?zy) hR0 (fun _ => trivial) ?_
  case zy => go_simp
  (try simp only [Act.put, List.getElem_toArray, List.getElem_cons_zero, List.getElem_cons_succ, List.setIfInBounds_toArray, List.set_cons_zero, List.set_cons_succ])
  refine wpAnyZ.takeN (i := 7) (v := .int .i64 0) rfl (by kernel_rfl) (by kernel_rfl) (by kernel_rfl) (by decide) (fun _ _ _ h => h) (by rfl) (fun w => ?zy) hR0 (fun _ => trivial) ?_
  case zy => go_simp
  (try simp only [Act.put, List.getElem_toArray, List.getElem_cons_zero, List.getElem_cons_succ, List.setIfInBounds_toArray, List.set_cons_zero, List.set_cons_succ])
  refine wpAnyZ.takeN (i := 8) (v := .bool true) rfl (by kernel_rfl) (by kernel_rfl) (by kernel_rfl) (by decide) (fun _ _ _ h => h) (by rfl) (fun w => ?zy) hR0 (fun _ => trivial) ?_
  case zy => go_simp
  (try simp only [Act.put, List.getElem_toArray, List.getElem_cons_zero, List.getElem_cons_succ, List.setIfInBounds_toArray, List.set_cons_zero, List.set_cons_succ])
  refine wpAnyZ.takeN (i := 9) (v := .bool true) rfl (by kernel_rfl) (by kernel_rfl) (by kernel_rfl) (by decide) (fun _ _ _ h => h) (by rfl) (fun w => ?zy) hR0 (fun _ => trivial) ?_
  case zy => go_simp
  (try simp only [Act.put, List.getElem_toArray, List.getElem_cons_zero, List.getElem_cons_succ, List.setIfInBounds_toArray, List.set_cons_zero, List.set_cons_succ])
  refine wpAnyZ.takeN (i := 10) (v := .bool true) rfl (by kernel_rfl) (by kernel_rfl) (by kernel_rfl) (by decide) (fun _ _ _ h => h) (by rfl) (fun w => ?zy) hR0 (fun _ => trivial) ?_
  case zy => go_simp
  (try simp only [Act.put, List.getElem_toArray, List.getElem_cons_zero, List.getElem_cons_succ, List.setIfInBounds_toArray, List.set_cons_zero, List.set_cons_succ])
  refine wpAnyZ.takeN (i := 11) (v := .int .i64 1) rfl (by kernel_rfl) (by kernel_rfl) (by kernel_rfl) (by decide) (fun _ _ _ h => h) (by rfl) (fun w => ?zy) hR0 (fun _ => trivial) ?_
  case zy => go_simp
  (try simp only [Act.put, List.getElem_toArray, List.getElem_cons_zero, List.getElem_cons_succ, List.setIfInBounds_toArray, List.set_cons_zero, List.set_cons_succ])
  refine wpAnyZ.takeN (i := 12) (v := .bool true) rfl (by kernel_rfl) (by kernel_rfl) (by kernel_rfl) (by decide) (fun _ _ _ h => h) (by rfl) (fun w => ?zy) hR0 (fun _ => trivial) ?_
  case zy => go_simp
  (try simp only [Act.put, List.getElem_toArray, List.getElem_cons_zero, List.getElem_cons_succ, List.setIfInBounds_toArray, List.set_cons_zero, List.set_cons_succ])
  refine wpAnyZ.takeN (i := 13) (v := .bool true) rfl (by kernel_rfl) (by kernel_rfl) (by kernel_rfl) (by decide) (fun _ _ _ h => h) (by rfl) (fun w => ?zy) hR0 (fun _ => trivial) ?_
  case zy => go_simp
  (try simp only [Act.put, List.getElem_toArray, List.getElem_cons_zero, List.getElem_cons_succ, List.setIfInBounds_toArray, List.set_cons_zero, List.set_cons_succ])
  refine wpAnyZ.takeN (i := 14) (v := .bool true) rfl (by kernel_rfl) (by kernel_rfl) (by kernel_rfl) (by decide) (fun _ _ _ h => h) (by rfl) (fun w => ?zy) hR0 (fun _ => trivial) ?_
  case zy => go_simp
  (try simp only [Act.put, List.getElem_toArray, List.getElem_cons_zero, List.getElem_cons_succ, List.setIfInBounds_toArray, List.set_cons_zero, List.set_cons_succ])
  refine wpAnyZ.take (i := 15) (v := .agg #[.int .i64 1, .int .i64 1, .int .i64 64, .int .i64 8, .int .i64 1, .int .i64 0, .int .i64 0, .int .i64 0, .int .i64 0]) (U := (fun w' => (w'.cell? ⟨q6, 0, none⟩ = some (.int .i64 1) ∧ w'.cell? ⟨q6, 1, none⟩ = some (.int .i64 1) ∧ w'.cell? ⟨q6, 2, none⟩ = some (.int .i64 64) ∧ w'.cell? ⟨q6, 3, none⟩ = some (.int .i64 8) ∧ w'.cell? ⟨q6, 4, none⟩ = some (.int .i64 1) ∧ w'.cell? ⟨q6, 5, none⟩ = some (.int .i64 0) ∧ w'.cell? ⟨q6, 6, none⟩ = some (.int .i64 0) ∧ w'.cell? ⟨q6, 7, none⟩ = some (.int .i64 0) ∧ w'.cell? ⟨q6, 8, none⟩ = some (.int .i64 0)) ∧ (convert 26 9 (.slice (some ⟨gk, 0, none⟩) 9 512)).run Try.prog w' = .ok (.string X9) w')) rfl (by kernel_rfl) (by kernel_rfl) (by kernel_rfl) (by decide) (fun _ _ _ h => h) (.inl fun _ h => h) (.inr fun _ h => h) (.inl ⟨by rfl, fun w hw => ?zy⟩) hR0 hR0 (fun _ => trivial) ?_
  case zy => (dsimp only at hw; obtain ⟨⟨z0, z1, z2, z3, z4, z5, z6, z7, z8⟩, z9⟩ := hw; go_simp)
  (try simp only [Act.put, List.getElem_toArray, List.getElem_cons_zero, List.getElem_cons_succ, List.setIfInBounds_toArray, List.set_cons_zero, List.set_cons_succ])
  refine wpAnyZ.oneK (i := 16) (E := False) (by kernel_rfl) rfl (by rfl) (fun K hK => ?_)
  go_simp
  refine (HFR.out _).mono ?_
  rintro e w9 ⟨rfl, hB9⟩
  have HS9 := Lib.hid ((HS8.out.drewN 1).below hB9)
  have hR9 : (w9.cell? ⟨q6, 0, none⟩ = some (.int .i64 1) ∧ w9.cell? ⟨q6, 1, none⟩ = some (.int .i64 1) ∧ w9.cell? ⟨q6, 2, none⟩ = some (.int .i64 64) ∧ w9.cell? ⟨q6, 3, none⟩ = some (.int .i64 8) ∧ w9.cell? ⟨q6, 4, none⟩ = some (.int .i64 1) ∧ w9.cell? ⟨q6, 5, none⟩ = some (.int .i64 0) ∧ w9.cell? ⟨q6, 6, none⟩ = some (.int .i64 0) ∧ w9.cell? ⟨q6, 7, none⟩ = some (.int .i64 0) ∧ w9.cell? ⟨q6, 8, none⟩ = some (.int .i64 0)) ∧ _ := ⟨cell9 (s := firstS) (HS9.out.mem (show (q6, spO firstS) ∈ _ by simp)), HST.out w9 (((Below.refl _ w8).drew).trans hB9)⟩
  clear hB9
  unfold spC firstS
  dsimp only
  go_wp2_with fail
  refine hK.out _ _ ⟨⟨hR9, fun _ => trivial⟩, ?_⟩
  clear hK hR0
  (try simp only [Act.put, List.getElem_toArray, List.getElem_cons_zero, List.getElem_cons_succ, List.setIfInBounds_toArray, List.set_cons_zero, List.set_cons_succ])
  refine wpAnyZ.takeN (i := 17) (v := .bool true) rfl (by kernel_rfl) (by kernel_rfl) (by kernel_rfl) (by decide) (fun _ _ _ h => h) (by rfl) (fun w => ?zy) hR9 (fun _ => trivial) ?_
  case zy => go_simp
  (try simp only [Act.put, List.getElem_toArray, List.getElem_cons_zero, List.getElem_cons_succ, List.setIfInBounds_toArray, List.set_cons_zero, List.set_cons_succ])
  refine wpAnyZ.takeN (i := 18) (v := .bool true) rfl (by kernel_rfl) (by kernel_rfl) (by kernel_rfl) (by decide) (fun _ _ _ h => h) (by rfl) (fun w => ?zy) hR9 (fun _ => trivial) ?_
  case zy => go_simp
  (try simp only [Act.put, List.getElem_toArray, List.getElem_cons_zero, List.getElem_cons_succ, List.setIfInBounds_toArray, List.set_cons_zero, List.set_cons_succ])
  refine wpAnyZ.takeN (i := 19) (v := .bool true) rfl (by kernel_rfl) (by kernel_rfl) (by kernel_rfl) (by decide) (fun _ _ _ h => h) (by rfl) (fun w => ?zy) hR9 (fun _ => trivial) ?_
  case zy => go_simp
  (try simp only [Act.put, List.getElem_toArray, List.getElem_cons_zero, List.getElem_cons_succ, List.setIfInBounds_toArray, List.set_cons_zero, List.set_cons_succ])
  refine wpAnyZ.takeN (i := 20) (v := .int .i64 0) rfl (by kernel_rfl) (by kernel_rfl) (by kernel_rfl) (by decide) (fun _ _ _ h => h) (by rfl) (fun w => ?zy) hR9 (fun _ => trivial) ?_
  case zy => go_simp
  (try simp only [Act.put, List.getElem_toArray, List.getElem_cons_zero, List.getElem_cons_succ, List.setIfInBounds_toArray, List.set_cons_zero, List.set_cons_succ])
  refine wpAnyZ.takeN (i := 21) (v := .bool true) rfl (by kernel_rfl) (by kernel_rfl) (by kernel_rfl) (by decide) (fun _ _ _ h => h) (by rfl) (fun w => ?zy) hR9 (fun _ => trivial) ?_
  case zy => go_simp
  (try simp only [Act.put, List.getElem_toArray, List.getElem_cons_zero, List.getElem_cons_succ, List.setIfInBounds_toArray, List.set_cons_zero, List.set_cons_succ])
  refine wpAnyZ.takeN (i := 22) (v := .bool true) rfl (by kernel_rfl) (by kernel_rfl) (by kernel_rfl) (by decide) (fun _ _ _ h => h) (by rfl) (fun w => ?zy) hR9 (fun _ => trivial) ?_
  case zy => go_simp
  (try simp only [Act.put, List.getElem_toArray, List.getElem_cons_zero, List.getElem_cons_succ, List.setIfInBounds_toArray, List.set_cons_zero, List.set_cons_succ])
  refine wpAnyZ.takeN (i := 23) (v := .bool true) rfl (by kernel_rfl) (by kernel_rfl) (by kernel_rfl) (by decide) (fun _ _ _ h => h) (by rfl) (fun w => ?zy) hR9 (fun _ => trivial) ?_
  case zy => go_simp
  (try simp only [Act.put, List.getElem_toArray, List.getElem_cons_zero, List.getElem_cons_succ, List.setIfInBounds_toArray, List.set_cons_zero, List.set_cons_succ])
  refine wpAnyZ.takeN (i := 24) (v := .slice (some ⟨gk, 0, none⟩) 512 512) rfl (by kernel_rfl) (by kernel_rfl) (by kernel_rfl) (by decide) (fun _ _ _ h => h) (by rfl) (fun w => ?zy) hR9 (fun _ => trivial) ?_
  case zy => go_simp
  (try simp only [Act.put, List.getElem_toArray, List.getElem_cons_zero, List.getElem_cons_succ, List.setIfInBounds_toArray, List.set_cons_zero, List.set_cons_succ])
  refine wpAnyZ.takeN (i := 25) (v := .int .i64 512) rfl (by kernel_rfl) (by kernel_rfl) (by kernel_rfl) (by decide) (fun _ _ _ h => h) (by rfl) (fun w => ?zy) hR9 (fun _ => trivial) ?_
  case zy => go_simp
  (try simp only [Act.put, List.getElem_toArray, List.getElem_cons_zero, List.getElem_cons_succ, List.setIfInBounds_toArray, List.set_cons_zero, List.set_cons_succ])
  refine wpAnyZ.takeN (i := 26) (v := .bool true) rfl (by kernel_rfl) (by kernel_rfl) (by kernel_rfl) (by decide) (fun _ _ _ h => h) (by rfl) (fun w => ?zy) hR9 (fun _ => trivial) ?_
  case zy => go_simp
  (try simp only [Act.put, List.getElem_toArray, List.getElem_cons_zero, List.getElem_cons_succ, List.setIfInBounds_toArray, List.set_cons_zero, List.set_cons_succ])
  refine wpAnyZ.takeN (i := 27) (v := .bool true) rfl (by kernel_rfl) (by kernel_rfl) (by kernel_rfl) (by decide) (fun _ _ _ h => h) (by rfl) (fun w => ?zy) hR9 (fun _ => trivial) ?_
  case zy => go_simp
  (try simp only [Act.put, List.getElem_toArray, List.getElem_cons_zero, List.getElem_cons_succ, List.setIfInBounds_toArray, List.set_cons_zero, List.set_cons_succ])
  refine wpAnyZ.takeN (i := 28) (v := .bool true) rfl (by kernel_rfl) (by kernel_rfl) (by kernel_rfl) (by decide) (fun _ _ _ h => h) (by rfl) (fun w => ?zy) hR9 (fun _ => trivial) ?_
  case zy => go_simp
  (try simp only [Act.put, List.getElem_toArray, List.getElem_cons_zero, List.getElem_cons_succ, List.setIfInBounds_toArray, List.set_cons_zero, List.set_cons_succ])
  refine wpAnyZ.takeN (i := 29) (v := .slice (some ⟨gk, 0, none⟩) 512 512) rfl (by kernel_rfl) (by kernel_rfl) (by kernel_rfl) (by decide) (fun _ _ _ h => h) (by rfl) (fun w => ?zy) hR9 (fun _ => trivial) ?_
  case zy => go_simp
  (try simp only [Act.put, List.getElem_toArray, List.getElem_cons_zero, List.getElem_cons_succ, List.setIfInBounds_toArray, List.set_cons_zero, List.set_cons_succ])
  refine wpAnyZ.takeN (i := 30) (v := .slice (some ⟨gk, 0, none⟩) 9 512) rfl (by kernel_rfl) (by kernel_rfl) (by kernel_rfl) (by decide) (fun _ _ _ h => h) (by rfl) (fun w => ?zy) hR9 (fun _ => trivial) ?_
  case zy => go_simp
  (try simp only [Act.put, List.getElem_toArray, List.getElem_cons_zero, List.getElem_cons_succ, List.setIfInBounds_toArray, List.set_cons_zero, List.set_cons_succ])
  refine wpAnyZ.take (i := 31) (v := .string X9) (U := (fun w' => (w'.cell? ⟨q6, 0, none⟩ = some (.int .i64 1) ∧ w'.cell? ⟨q6, 1, none⟩ = some (.int .i64 1) ∧ w'.cell? ⟨q6, 2, none⟩ = some (.int .i64 64) ∧ w'.cell? ⟨q6, 3, none⟩ = some (.int .i64 8) ∧ w'.cell? ⟨q6, 4, none⟩ = some (.int .i64 1) ∧ w'.cell? ⟨q6, 5, none⟩ = some (.int .i64 0) ∧ w'.cell? ⟨q6, 6, none⟩ = some (.int .i64 0) ∧ w'.cell? ⟨q6, 7, none⟩ = some (.int .i64 0) ∧ w'.cell? ⟨q6, 8, none⟩ = some (.int .i64 0)) ∧ (convert 26 9 (.slice (some ⟨gk, 0, none⟩) 9 512)).run Try.prog w' = .ok (.string X9) w')) rfl (by kernel_rfl) (by kernel_rfl) (by kernel_rfl) (by decide) (fun _ _ _ h => h) (.inl fun _ h => h) (.inr fun _ h => h) (.inl ⟨by rfl, fun w hw => ?zy⟩) hR9 hR9 (fun _ => trivial) ?_
  case zy => (dsimp only at hw; obtain ⟨⟨z0, z1, z2, z3, z4, z5, z6, z7, z8⟩, z9⟩ := hw; go_simp)
  (try simp only [Act.put, List.getElem_toArray, List.getElem_cons_zero, List.getElem_cons_succ, List.setIfInBounds_toArray, List.set_cons_zero, List.set_cons_succ])
  refine wpAnyZ.takeN (i := 32) (v := .bool true) rfl (by kernel_rfl) (by kernel_rfl) (by kernel_rfl) (by decide) (fun _ _ _ h => h) (by rfl) (fun w => ?zy) hR9 (fun _ => trivial) ?_
  case zy => go_simp
  (try simp only [Act.put, List.getElem_toArray, List.getElem_cons_zero, List.getElem_cons_succ, List.setIfInBounds_toArray, List.set_cons_zero, List.set_cons_succ])
  refine wpAnyZ.takeN (i := 33) (v := .bool true) rfl (by kernel_rfl) (by kernel_rfl) (by kernel_rfl) (by decide) (fun _ _ _ h => h) (by rfl) (fun w => ?zy) hR9 (fun _ => trivial) ?_
  case zy => go_simp
  (try simp only [Act.put, List.getElem_toArray, List.getElem_cons_zero, List.getElem_cons_succ, List.setIfInBounds_toArray, List.set_cons_zero, List.set_cons_succ])
  refine wpAnyZ.takeN (i := 34) (v := .bool true) rfl (by kernel_rfl) (by kernel_rfl) (by kernel_rfl) (by decide) (fun _ _ _ h => h) (by rfl) (fun w => ?zy) hR9 (fun _ => trivial) ?_
  case zy => go_simp
  (try simp only [Act.put, List.getElem_toArray, List.getElem_cons_zero, List.getElem_cons_succ, List.setIfInBounds_toArray, List.set_cons_zero, List.set_cons_succ])
  refine wpAnyZ.done (by kernel_rfl) ?_ _
  go_wp2
  go_ret
  exact ⟨rfl, HS9.out.bl⟩
end Go.Proofs.Ytggoaelbglhehaa
