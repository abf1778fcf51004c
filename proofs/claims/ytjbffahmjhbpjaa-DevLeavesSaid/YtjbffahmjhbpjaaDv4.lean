/- The device as a whole: its state, what an act may change, and the small walks: has, act, Arm, Down. -/
import Derived.Test.YtjbffahmjhbpjaaDv3
set_option linter.unusedVariables false
set_option linter.unusedSimpArgs false
set_option maxRecDepth 100000
namespace Go.Proofs.Ytjbffahmjhbpjaa
open Go.RowKit
/-- what a device is -/
structure DS where
  n : Nat
  M : List UInt8
  C : List Pd
  left : Nat
  armed : Bool
  down : Bool
  rd : Nat
  wr : Nat
  fl : Nat
/-- of the blocks S only changed; those of S' are of S, or new -/
structure Fr (S S' : List Nat) (w w' : World) : Prop where
  only : Only S w w'
  new : ∀ k ∈ S', k ∈ S ∨ w.heap.size ≤ k
theorem Fr.refl (S : List Nat) (w : World) : Fr S S w w := ⟨Only.refl S w, fun k hk => .inl hk⟩
theorem Fr.trans {S S' S'' : List Nat} {a b c : World} (h : Fr S S' a b) (k : Fr S' S'' b c) : Fr S S'' a c :=
  ⟨⟨k.only.os.trans h.only.os, k.only.tape.trans h.only.tape, k.only.output.trans h.only.output, Nat.le_trans h.only.size k.only.size, fun i hi hs =>
    (k.only.blk i (Nat.lt_of_lt_of_le hi h.only.size) (fun hm => by
      rcases h.new i hm with h1 | h1
      · exact hs h1
      · omega)).trans (h.only.blk i hi hs)⟩, fun i hi => by
    rcases k.new i hi with h1 | h1
    · exact h.new i h1
    · exact .inr (Nat.le_trans h.only.size h1)⟩
theorem Fr.below (S : List Nat) {w w' : World} (h : Below w.heap.size w w') : Fr S S w w' := ⟨Only.of_below S h, fun k hk => .inl hk⟩
theorem Fr.drew {S S' : List Nat} {a b : World} (h : Fr S S' a b) (n : Nat) : Fr S S' a (b.drewN n) := ⟨h.only.drewN n, h.new⟩
theorem Fr.apart {S S' : List Nat} {w w' : World} (h : Fr S S' w w') {k : Nat} (hk : k < w.heap.size) (hs : k ∉ S) : k < w'.heap.size ∧ k ∉ S' :=
  ⟨Nat.lt_of_lt_of_le hk h.only.size, fun hm => by
    rcases h.new k hm with h1 | h1
    · exact hs h1
    · omega⟩
theorem Fr.toBelow {S S' : List Nat} {w w' : World} {B : Nat} (h : Fr S S' w w') (hB : B ≤ w.heap.size) (hS : ∀ k ∈ S, B ≤ k) : Below B w w' ∧ ∀ k ∈ S', B ≤ k :=
  ⟨h.only.below hB hS, fun k hk => by
    rcases h.new k hk with h1 | h1
    · exact hS k h1
    · omega⟩
def dvS (b g : Nat) (vc : Value) : List Nat := b :: g :: vc.ownBlock.toList
/-- the device D lies there: its struct in block b, its medium in g, its cache is vc -/
structure IsV (w : World) (b g : Nat) (vc : Value) (D : DS) : Prop where
  dev : IsDev w b g D.n D.M vc D.left D.armed D.down D.rd D.wr D.fl
  ca : OwnP w 0 D.n vc D.C.length D.C
  nb : ∀ k, vc.ownBlock = some k → k ≠ b ∧ k ≠ g
section
variable {w w' : World} {b g : Nat} {vc : Value} {D : DS}
theorem OwnP.lt {base n q : Nat} {C : List Pd} (h : OwnP w base n vc q C) (k : Nat) (hk : vc.ownBlock = some k) : base ≤ k ∧ k < w.heap.size := (World.ownsRow.lt h.2) k hk
theorem OwnP.keep {base n q : Nat} {C : List Pd} {S : List Nat} (h : OwnP w base n vc q C) (hw : Only S w w') (hs : ∀ k, vc.ownBlock = some k → k ∉ S) : OwnP w' base n vc q C := by
  refine ⟨h.1, h.2.1, ?_⟩
  rcases h.2.2 with h1 | ⟨g, cap, cur, rfl, hb, hh, h3⟩
  · exact .inl h1
  · exact .inr ⟨g, cap, cur, rfl, hb, (hw.blk g (lt_of_block hh) (hs g rfl)).trans hh, h3⟩
theorem IsV.lt (h : IsV w b g vc D) : ∀ k ∈ dvS b g vc, k < w.heap.size := by
  intro k hk
  simp only [dvS, List.mem_cons, Option.mem_toList] at hk
  rcases hk with rfl | rfl | hk
  · exact lt_of_block h.dev.st
  · exact lt_of_block h.dev.med
  · exact (h.ca.lt k hk).2
theorem IsV.keep {S : List Nat} (h : IsV w b g vc D) (hw : Only S w w') (hs : ∀ k ∈ dvS b g vc, k ∉ S) : IsV w' b g vc D :=
  ⟨h.dev.only hw (hs b (by simp [dvS])) (hs g (by simp [dvS])), h.ca.keep hw (fun k hk => hs k (by simp [dvS, hk])), h.nb⟩
theorem IsV.ext (h : IsV w b g vc D) (hb : Below w.heap.size w w') : IsV w' b g vc D := h.keep (Only.of_below [] hb) (by simp)
theorem IsV.drewN (h : IsV w b g vc D) (n : Nat) : IsV (w.drewN n) b g vc D := h.keep ((Only.refl [] w).drewN n) (by simp)
/-- a cell of the struct is written -/
theorem IsV.store (h : IsV w b g vc D) (j : Nat) (v : Value) (D' : DS) (hn : D'.n = D.n) (hM : D'.M = D.M) (hC : D'.C = D.C)
    (hst : (#[.slice (some ⟨g, 0, none⟩) D.n D.n, vc, .int .i64 D.left, .bool D.armed, .bool D.down, .int .i64 D.rd, .int .i64 D.wr, .int .i64 D.fl] : Array Value).setIfInBounds j v = #[.slice (some ⟨g, 0, none⟩) D.n D.n, vc, .int .i64 D'.left, .bool D'.armed, .bool D'.down, .int .i64 D'.rd, .int .i64 D'.wr, .int .i64 D'.fl]) :
    IsV (w.setCell ⟨b, j, none⟩ v) b g vc D' ∧ Fr (dvS b g vc) (dvS b g vc) w (w.setCell ⟨b, j, none⟩ v) := by
  have hO : Only [b] w (w.setCell ⟨b, j, none⟩ v) := (Only.refl [b] w).setCell (by simp) v
  refine ⟨⟨⟨?_, ?_, ?_, h.dev.ne, ?_⟩, ?_, h.nb⟩, hO.mono (by simp [dvS]), fun k hk => .inl hk⟩
  · rw [heap_setCell_same w b j _ _ v h.dev.st, hn, hst]
  · rw [hM]; exact (hO.blk g (lt_of_block h.dev.med) (by simp; exact fun e => h.dev.ne e.symm)).trans h.dev.med
  · rw [hM, hn]; exact h.dev.len
  · rw [hn]; exact h.dev.small
  · rw [hn, hC]; exact h.ca.keep hO (fun k hk => by simp; exact (h.nb k hk).1)
end
theorem dv_has (w : World) (b g : Nat) (vc : Value) (D : DS) (num : Int) (h : IsV w b g vc D) :
    Calls Try.prog 34 #[.pointer (some ⟨b, 0, none⟩), .int .i64 num] w fun e w' => e = .returned (.bool (decide (0 ≤ num ∧ num < D.n))) ∧ w' = w := by
  have c0 := h.dev.c0
  clear h
  rcases (by omega : num < 0 ∨ (0 ≤ num ∧ num < (D.n : Int)) ∨ (0 ≤ num ∧ ¬ num < (D.n : Int))) with h1 | ⟨h1, h2⟩ | ⟨h1, h2⟩
  · rw [decide_eq_false (p := 0 ≤ num ∧ num < (D.n : Int)) (by omega)]
    have e1 : ¬ 0 ≤ num := by omega
    clear h1
    go_enter Try.func34, Try.ntmps34
    go_wp2
    go_ret
    exact ⟨rfl, rfl⟩
  · rw [decide_eq_true (p := 0 ≤ num ∧ num < (D.n : Int)) (by omega)]
    go_enter Try.func34, Try.ntmps34
    go_wp2
    go_ret
    exact ⟨by simp [h2], rfl⟩
  · rw [decide_eq_false (p := 0 ≤ num ∧ num < (D.n : Int)) (by omega)]
    go_enter Try.func34, Try.ntmps34
    go_wp2
    go_ret
    exact ⟨by simp [h2], rfl⟩
def actD (D : DS) : Bool × DS := if D.armed = true ∧ D.left = 0 then (false, { D with down := true }) else if D.down = true then (false, D) else if D.armed = true then (true, { D with left := D.left - 1 }) else (true, D)
theorem dv_act (w : World) (b g : Nat) (vc : Value) (D : DS) (hl : D.left < 9223372036854775808) (h : IsV w b g vc D) :
    Calls Try.prog 35 #[.pointer (some ⟨b, 0, none⟩)] w fun e w' => e = .returned (.bool (actD D).1) ∧ IsV w' b g vc (actD D).2 ∧ Fr (dvS b g vc) (dvS b g vc) w w' := by
  have c2 : w.cell? ⟨b, 2, none⟩ = some (.int .i64 (D.left : Int)) := h.dev.cell 2
  have c3 : w.cell? ⟨b, 3, none⟩ = some (.bool D.armed) := h.dev.cell 3
  have c4 : w.cell? ⟨b, 4, none⟩ = some (.bool D.down) := h.dev.cell 4
  have f2 := frozen_of_row w b 2 _ _ h.dev.st
  have f4 := frozen_of_row w b 4 _ _ h.dev.st
  have HD := Lib.hid h
  clear h
  cases ha : D.armed with
  | false =>
    rw [ha] at c3
    cases hd : D.down with
    | true =>
      rw [hd] at c4
      have HA := Lib.hid (show actD D = (false, D) by unfold actD; rw [if_neg (by simp [ha]), if_pos hd])
      clear ha hd
      rw [HA.out]
      go_enter Try.func35, Try.ntmps35
      go_wp2
      go_ret
      exact ⟨rfl, HD.out, Fr.refl _ _⟩
    | false =>
      rw [hd] at c4
      have HA := Lib.hid (show actD D = (true, D) by unfold actD; rw [if_neg (by simp [ha]), if_neg (by simp [hd]), if_neg (by simp [ha])])
      clear ha hd
      rw [HA.out]
      go_enter Try.func35, Try.ntmps35
      go_wp2
      go_ret
      exact ⟨rfl, HD.out, Fr.refl _ _⟩
  | true =>
    rw [ha] at c3
    by_cases h0 : D.left = 0
    · have e0 : ((D.left : Int) == 0) = true := by simp [h0]
      have HA := Lib.hid (show actD D = (false, { D with down := true }) by unfold actD; rw [if_pos ⟨ha, h0⟩])
      have HS := Lib.hid (HD.out.store 4 (.bool true) { D with down := true } rfl rfl rfl rfl)
      clear h0
      rw [HA.out]
      go_enter Try.func35, Try.ntmps35
      go_wp2
      go_ret
      exact ⟨rfl, HS.out.1, HS.out.2⟩
    · have e0 : ((D.left : Int) == 0) = false := by simp [h0]
      cases hd : D.down with
      | true =>
        rw [hd] at c4
        have HA := Lib.hid (show actD D = (false, D) by unfold actD; rw [if_neg (by simp [h0]), if_pos hd])
        clear ha hd
        rw [HA.out]
        go_enter Try.func35, Try.ntmps35
        go_wp2
        go_ret
        exact ⟨rfl, HD.out, Fr.refl _ _⟩
      | false =>
        rw [hd] at c4
        have HA := Lib.hid (show actD D = (true, { D with left := D.left - 1 }) by unfold actD; rw [if_neg (by simp [h0]), if_neg (by simp [hd]), if_pos ha])
        have e1 : (D.left : Int) - 1 = ((D.left - 1 : Nat) : Int) := by omega
        obtain ⟨l1, hl1⟩ : ∃ l1, l1 = D.left - 1 := ⟨_, rfl⟩
        rw [← hl1] at e1 HA
        have HS := Lib.hid (HD.out.store 2 (.int .i64 (l1 : Int)) { D with left := l1 } rfl rfl rfl rfl)
        have hb1 : (1 : Int) ≤ (D.left : Int) ∧ (D.left : Int) < 9223372036854775808 := by omega
        clear ha hd h0 hl1
        rw [HA.out]
        go_enter Try.func35, Try.ntmps35
        go_wp2
        go_ret
        exact ⟨rfl, HS.out.1, HS.out.2⟩
theorem dv_Down (w : World) (b g : Nat) (vc : Value) (D : DS) (h : IsV w b g vc D) :
    Calls Try.prog 26 #[.pointer (some ⟨b, 0, none⟩)] w fun e w' => e = .returned (.bool D.down) ∧ w' = w := by
  have c4 : w.cell? ⟨b, 4, none⟩ = some (.bool D.down) := h.dev.cell 4
  clear h
  go_enter Try.func26, Try.ntmps26
  go_wp2
  go_ret
  exact ⟨rfl, rfl⟩
def armD (D : DS) (k : Int) : Int × DS := if k < 0 then (1, D) else if D.down = true then (6, D) else (0, { D with armed := true, left := k.toNat })
theorem dv_Arm (w : World) (b g : Nat) (vc : Value) (D : DS) (k : Int) (h : IsV w b g vc D) :
    Calls Try.prog 30 #[.pointer (some ⟨b, 0, none⟩), .int .i64 k] w fun e w' => e = .returned (.int .i64 (armD D k).1) ∧ IsV w' b g vc (armD D k).2 ∧ Fr (dvS b g vc) (dvS b g vc) w w' := by
  have c4 : w.cell? ⟨b, 4, none⟩ = some (.bool D.down) := h.dev.cell 4
  have c2 : w.cell? ⟨b, 2, none⟩ = some (.int .i64 (D.left : Int)) := h.dev.cell 2
  have c3 : w.cell? ⟨b, 3, none⟩ = some (.bool D.armed) := h.dev.cell 3
  have f2 := frozen_of_row w b 2 _ _ h.dev.st
  have f3 := frozen_of_row w b 3 _ _ h.dev.st
  have HD := Lib.hid h
  clear h
  by_cases h0 : k < 0
  · have HA := Lib.hid (show armD D k = (1, D) from if_pos h0)
    rw [HA.out]
    go_enter Try.func30, Try.ntmps30
    go_wp2
    go_ret
    exact ⟨rfl, HD.out, Fr.refl _ _⟩
  · obtain ⟨m, rfl⟩ : ∃ m : Nat, k = m := ⟨k.toNat, by omega⟩
    cases hd : D.down with
    | true =>
      rw [hd] at c4
      have HA := Lib.hid (show armD D m = (6, D) by unfold armD; rw [if_neg h0, if_pos hd])
      clear hd
      rw [HA.out]
      go_enter Try.func30, Try.ntmps30
      go_wp2
      go_ret
      exact ⟨rfl, HD.out, Fr.refl _ _⟩
    | false =>
      rw [hd] at c4
      have HA := Lib.hid (show armD D m = (0, { D with armed := true, left := m }) by unfold armD; rw [if_neg h0, if_neg (by simp [hd]), Int.toNat_natCast])
      have HS := HD.out.store 3 (.bool true) { D with armed := true } rfl rfl rfl rfl
      have HS2 := Lib.hid (HS.1.store 2 (.int .i64 (m : Int)) { D with armed := true, left := m } rfl rfl rfl rfl)
      have HS1 := Lib.hid HS.2
      clear hd HS
      rw [HA.out]
      go_enter Try.func30, Try.ntmps30
      go_wp2
      go_ret
      exact ⟨rfl, HS2.out.1, HS1.out.trans HS2.out.2⟩
end Go.Proofs.Ytjbffahmjhbpjaa
