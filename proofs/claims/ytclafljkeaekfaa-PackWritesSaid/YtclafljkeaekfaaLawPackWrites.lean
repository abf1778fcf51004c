/- The walk of PackWrites. -/
import Derived.Test.YtclafljkeaekfaaPx4
import Derived.Test.YtclafljkeaekfaaPk7
import Derived.Deep.QuietTactic
import Derived.BigQuiet
import Derived.Deep.DeepCutAuto
set_option linter.unusedVariables false
set_option linter.unusedSimpArgs false
set_option maxRecDepth 100000
namespace Go.Proofs.Ytclafljkeaekfaa
open Go.RowKit
/-- a step of the script -/
structure OpW where
  two : Bool
  new : Bool
  lim : Int
  v : ValV
  deriving Inhabited
/-- The cells of a script. -/
structure RdOW (w : World) (A : Option Addr) (n c : Nat) (l : List OpW) : Prop where
  len : l.length = n
  cap : n ≤ c
  max : n ≤ 140737488355328
  ok : ∀ x ∈ l, x.v.ok
  at_ : 0 < n → ∃ b o, A = some ⟨b, o, none⟩ ∧ ∀ j, j < n → w.cell? ⟨b, o + j * 7, none⟩ = some (.bool (l.getD j default).two) ∧ w.cell? ⟨b, o + j * 7 + 1, none⟩ = some (.bool (l.getD j default).new) ∧
    w.cell? ⟨b, o + j * 7 + 2, none⟩ = some (.int .i64 (l.getD j default).lim) ∧ w.cell? ⟨b, o + j * 7 + 3, none⟩ = some (.int .i64 (l.getD j default).v.kind) ∧ w.cell? ⟨b, o + j * 7 + 4, none⟩ = some (.int .u64 (l.getD j default).v.u) ∧
    w.cell? ⟨b, o + j * 7 + 5, none⟩ = some (.int .i64 (l.getD j default).v.i) ∧ w.cell? ⟨b, o + j * 7 + 6, none⟩ = some (.string (l.getD j default).v.s)
structure WrI (w : World) (G1 G2 : List Nat) (a b x y : Nat) (wx : World) : Prop where
  p1 : PairE G1 a x wx
  p2 : PairE G2 b y wx
  dis : Dis G1 G2
  lo1 : ∀ k ∈ G1, w.heap.size ≤ k
  lo2 : ∀ k ∈ G2, w.heap.size ≤ k
  below : Below w.heap.size w wx
theorem WrI.ext {w wx w' : World} {G1 G2 : List Nat} {a b x y : Nat} (h : WrI w G1 G2 a b x y wx) (hB : Below wx.heap.size wx w') : WrI w G1 G2 a b x y w' :=
  ⟨h.p1.ext hB, h.p2.ext hB, h.dis, h.lo1, h.lo2, h.below.trans (hB.mono h.below.size)⟩
theorem WrI.one {w wx w' : World} {G1 G2 : List Nat} {a b x y : Nat} (h : WrI w G1 G2 a b x y wx) (hS : PStep G1 a x wx w') : ∃ G, WrI w G G2 a b x y w' := by
  obtain ⟨G', h1, h2, h3⟩ := hS
  have hz := h.below.size
  refine ⟨G', h1, h.p2.keep h2 h.dis.symm, h.dis.step h3 h.p2.lt, fun k hk => ?_, h.lo2, h.below.trans (h2.below hz h.lo1)⟩
  rcases h3 k hk with h4 | h4
  · exact h.lo1 k h4
  · omega
theorem WrI.two {w wx w' : World} {G1 G2 : List Nat} {a b x y : Nat} (h : WrI w G1 G2 a b x y wx) (hS : PStep G2 b y wx w') : ∃ G, WrI w G1 G a b x y w' := by
  obtain ⟨G', h1, h2, h3⟩ := hS
  have hz := h.below.size
  refine ⟨G', h.p1.keep h2 h.dis, h1, (h.dis.symm.step h3 h.p1.lt).symm, h.lo1, fun k hk => ?_, h.below.trans (h2.below hz h.lo2)⟩
  rcases h3 k hk with h4 | h4
  · exact h.lo2 k h4
  · omega
/-- two new ones -/
theorem newPair {w w1 w2 : World} {lim : Nat} (h1 : IsW w1 w.heap.size (w.heap.size + 1) lim [] (.slice none 0 0) 0) (hB1 : Below w.heap.size w w1) (h2 : IsX w2 w1.heap.size (w1.heap.size + 1) lim [] (.slice none 0 0) 0) (hB2 : Below w1.heap.size w1 w2) :
    PairE [w.heap.size, w1.heap.size] w.heap.size w1.heap.size w2 := by
  have hlt := lt_of_block h1.st
  refine ⟨_, _, _, _, _, _, _, ⟨h1.ext hB2, h2, ?_⟩, rfl⟩
  intro k hk hm
  simp [Foot, Value.ownBlock] at hk hm
  omega
theorem WrI.new1 {w wx w1 w2 : World} {G1 G2 : List Nat} {a b x y lim : Nat} (h : WrI w G1 G2 a b x y wx) (h1 : IsW w1 wx.heap.size (wx.heap.size + 1) lim [] (.slice none 0 0) 0) (hB1 : Below wx.heap.size wx w1) (h2 : IsX w2 w1.heap.size (w1.heap.size + 1) lim [] (.slice none 0 0) 0) (hB2 : Below w1.heap.size w1 w2) :
    ∃ G, WrI w G G2 wx.heap.size b w1.heap.size y w2 := by
  have hz := h.below.size
  have hz1 := hB1.size
  have hB := hB1.trans (hB2.mono hz1)
  refine ⟨[wx.heap.size, w1.heap.size], newPair h1 hB1 h2 hB2, h.p2.ext hB, fun k hk hm => ?_, fun k hk => ?_, h.lo2, h.below.trans (hB.mono hz)⟩
  · have := h.p2.lt k hm
    simp at hk; omega
  · simp at hk; omega
theorem WrI.new2 {w wx w1 w2 : World} {G1 G2 : List Nat} {a b x y lim : Nat} (h : WrI w G1 G2 a b x y wx) (h1 : IsW w1 wx.heap.size (wx.heap.size + 1) lim [] (.slice none 0 0) 0) (hB1 : Below wx.heap.size wx w1) (h2 : IsX w2 w1.heap.size (w1.heap.size + 1) lim [] (.slice none 0 0) 0) (hB2 : Below w1.heap.size w1 w2) :
    ∃ G, WrI w G1 G a wx.heap.size x w1.heap.size w2 := by
  have hz := h.below.size
  have hz1 := hB1.size
  have hB := hB1.trans (hB2.mono hz1)
  refine ⟨[wx.heap.size, w1.heap.size], h.p1.ext hB, newPair h1 hB1 h2 hB2, fun k hk hm => ?_, h.lo1, fun k hk => ?_, h.below.trans (hB.mono hz)⟩
  · have := h.p1.lt k hk
    simp at hm; omega
  · simp at hk; omega
/-- both pairs at the beginning -/
theorem WrI.start {w w1 w2 w3 w4 : World} {l1 l2 : Nat} (hB0 : Below w.heap.size w w1) (h1 : IsW w2 w1.heap.size (w1.heap.size + 1) l1 [] (.slice none 0 0) 0) (hB1 : Below w1.heap.size w1 w2) (h2 : IsW w3 w2.heap.size (w2.heap.size + 1) l2 [] (.slice none 0 0) 0) (hB2 : Below w2.heap.size w2 w3)
    (h3 : IsX w4 w3.heap.size (w3.heap.size + 1) l1 [] (.slice none 0 0) 0) (hB3 : Below w3.heap.size w3 w4) {w5 : World} (h4 : IsX w5 w4.heap.size (w4.heap.size + 1) l2 [] (.slice none 0 0) 0) (hB4 : Below w4.heap.size w4 w5) :
    WrI w [w1.heap.size, w3.heap.size] [w2.heap.size, w4.heap.size] w1.heap.size w2.heap.size w3.heap.size w4.heap.size w5 := by
  have z0 := hB0.size
  have z1 := lt_of_block h1.st
  have z2 := lt_of_block h2.st
  have z3 := lt_of_block h3.st
  have z4 := lt_of_block h4.st
  refine ⟨⟨_, _, _, _, _, _, _, ⟨((h1.ext hB2).ext hB3).ext hB4, h3.ext hB4, ?_⟩, rfl⟩, ⟨_, _, _, _, _, _, _, ⟨(h2.ext hB3).ext hB4, h4, ?_⟩, rfl⟩, ?_, ?_, ?_, ?_⟩
  · intro k hk hm; simp [Foot, Value.ownBlock] at hk hm; omega
  · intro k hk hm; simp [Foot, Value.ownBlock] at hk hm; omega
  · intro k hk hm; simp at hk hm; omega
  · intro k hk; simp at hk; omega
  · intro k hk; simp at hk; omega
  · exact hB0.trans ((hB1.trans ((hB2.trans ((hB3.trans (hB4.mono (by omega))).mono (by omega))).mono (by omega))).mono z0)
set_option maxHeartbeats 2000000 in
theorem walk_PackWrites (k1 k2 : Int) (A : Option Addr) (n c : Nat) (l : List OpW) (w : World) (_ : -9223372036854775808 ≤ k1 ∧ k1 < 9223372036854775808) (_ : -9223372036854775808 ≤ k2 ∧ k2 < 9223372036854775808) (hr : RdOW w A n c l) :
    Calls Try.prog 5 #[.int .i64 k1, .int .i64 k2, .slice A n c] w fun e w' => e = .returned (.bool true) ∧ Below w.heap.size w w' := by
  have HR := Lib.hid hr
  have hmx := hr.max
  have HL := Lib.hid hr.len
  clear hr
  go_enter Try.func5, Try.ntmps5
  go_wp2_with fail
  refine (l2_fixed w).mono ?_
  rintro e w1 ⟨rfl, hB1⟩
  have HB1 := Lib.hid hB1
  clear hB1
  go_wp2_with fail
  refine (pk_NewWriter k1 w1).mono ?_
  rintro e w2 ⟨rfl, hI2, hB2⟩
  have HI2 := Lib.hid hI2
  have HB2 := Lib.hid hB2
  clear hI2 hB2
  go_wp2_with fail
  refine (pk_NewWriter k2 w2).mono ?_
  rintro e w3 ⟨rfl, hI3, hB3⟩
  have HI3 := Lib.hid hI3
  have HB3 := Lib.hid hB3
  clear hI3 hB3
  go_wp2_with fail
  refine (px_NewWriter k1 w3).mono ?_
  rintro e w4 ⟨rfl, hI4, hB4⟩
  have HI4 := Lib.hid hI4
  have HB4 := Lib.hid hB4
  clear hI4 hB4
  go_wp2_with fail
  refine (px_NewWriter k2 w4).mono ?_
  rintro e w5 ⟨rfl, hI5, hB5⟩
  have HW := Lib.hid (WrI.start HB1.out HI2.out HB2.out HI3.out HB3.out HI4.out HB4.out hI5 hB5)
  obtain ⟨a0, ha0⟩ : ∃ a0, a0 = w1.heap.size := ⟨_, rfl⟩
  obtain ⟨b0, hb0⟩ : ∃ b0, b0 = w2.heap.size := ⟨_, rfl⟩
  obtain ⟨x0, hx0⟩ : ∃ x0, x0 = w3.heap.size := ⟨_, rfl⟩
  obtain ⟨y0, hy0⟩ : ∃ y0, y0 = w4.heap.size := ⟨_, rfl⟩
  rw [← ha0, ← hb0, ← hx0, ← hy0] at HW
  rw [← ha0, ← hb0, ← hx0, ← hy0]
  clear ha0 hb0 hx0 hy0 hI5 hB5 HB1 HI2 HB2 HI3 HB3 HI4 HB4
  go_wp2_with fail
  go_loopw [8, 9, 10, 11, 12, 13] (fun pa pb px py ix _ wx => ∃ (a b x y i : Nat) (G1 G2 : List Nat), pa = .pointer (some ⟨a, 0, none⟩) ∧ pb = .pointer (some ⟨b, 0, none⟩) ∧ px = .pointer (some ⟨x, 0, none⟩) ∧ py = .pointer (some ⟨y, 0, none⟩) ∧ i ≤ n ∧ ix = .int .i64 i ∧ WrI w G1 G2 a b x y wx) (fun _ _ _ _ x _ _ => n - (intOf x).toNat)
  case atStart => exact ⟨a0, b0, x0, y0, 0, _, _, rfl, rfl, rfl, rfl, by omega, rfl, HW.out⟩
  case round =>
    obtain ⟨a, b, x, y, i, G1, G2, rfl, rfl, rfl, rfl, hi, rfl, hI⟩ := hrel
    have HI := Lib.hid hI
    clear hI
    by_cases hin : i < n
    · obtain ⟨bb, oo, rfl, hc⟩ := HR.out.at_ (by omega)
      obtain ⟨g0, g1, g2, g3, g4, g5, g6⟩ := hc i hin
      have hok := HR.out.ok (l.getD i default) (by
        have hl := HR.out.len
        rw [List.getD_eq_getElem?_getD, List.getElem?_eq_getElem (by omega)]
        exact List.getElem_mem _)
      obtain ⟨o, ho⟩ : ∃ o, o = l.getD i default := ⟨_, rfl⟩
      rw [← ho] at g0 g1 g2 g3 g4 g5 g6 hok
      have d0 := cell_ext HI.out.below g0
      have d1 := cell_ext HI.out.below g1
      have d2 := cell_ext HI.out.below g2
      have d3 := cell_ext HI.out.below g3
      have d4 := cell_ext HI.out.below g4
      have d5 := cell_ext HI.out.below g5
      have d6 := cell_ext HI.out.below g6
      obtain ⟨two, new, lim, v⟩ := o
      dsimp only at d0 d1 d2 d3 d4 d5 d6 hok
      have HOK := Lib.hid hok
      clear hc ho g0 g1 g2 g3 g4 g5 g6 hok
      rcases two with _ | _ <;> rcases new with _ | _
      · have HA := Lib.hid (HI.out.ext ((Below.refl _ wr).alloc (Nat.le_refl _) (.cells #[.bool false, .bool false, .int .i64 lim, .int .i64 v.kind, .int .u64 v.u, .int .i64 v.i, .string v.s] 42)))
        obtain ⟨bA, bX, lm, L, va, vx, e', hP, hG⟩ := HA.out.p1
        have HP := Lib.hid hP
        have hlo := HI.out.p1.lt
        have hfa : wr.heap.size ∉ Foot a va := fun hm => by
          have := hlo wr.heap.size (by rw [hG]; exact List.mem_append.2 (.inl hm)); omega
        have hfg : PStep G1 a x = PStep (Foot a va ++ Foot x vx) a x := by rw [hG]
        have HFA := Lib.hid hfa
        have HFG := Lib.hid hfg
        clear hP hG hlo hfa hfg
        go_wp2_with fail
        refine (l2_lay a _ _ _ _ _ v HOK.out _ HP.out.wr).mono ?_
        rintro e1 w6 ⟨rfl, hW6⟩
        have HW6 := Lib.hid hW6
        obtain ⟨va', hI6, hO6, hA6⟩ := hW6
        have hrow : w6.heap[wr.heap.size]? = some (.cells #[.bool false, .bool false, .int .i64 lim, .int .i64 v.kind, .int .u64 v.u, .int .i64 v.i, .string v.s] 42) := (hO6.blk _ (by simp) HFA.out).trans (heap_alloc_new wr _)
        have q3 : w6.cell? ⟨wr.heap.size, 3, none⟩ = some (.int .i64 v.kind) := by rw [cell_of_row _ _ _ _ _ _ hrow]; rfl
        have q4 : w6.cell? ⟨wr.heap.size, 4, none⟩ = some (.int .u64 v.u) := by rw [cell_of_row _ _ _ _ _ _ hrow]; rfl
        have q5 : w6.cell? ⟨wr.heap.size, 5, none⟩ = some (.int .i64 v.i) := by rw [cell_of_row _ _ _ _ _ _ hrow]; rfl
        have q6 : w6.cell? ⟨wr.heap.size, 6, none⟩ = some (.string v.s) := by rw [cell_of_row _ _ _ _ _ _ hrow]; rfl
        have HX6 := Lib.hid (HP.out.rf.keepD hO6 HP.out.dis.symm)
        clear hI6 hO6 hA6 hrow
        go_wp2_with fail
        refine (l2_layRef x _ _ _ _ _ v HOK.out _ HX6.out).mono ?_
        rintro e2 w7 ⟨rfl, hX7⟩
        have hstep := PStep.lay HP.out HW6.out hX7
        rw [show PStep (Foot a va ++ Foot x vx) a x = PStep G1 a x from HFG.out.symm] at hstep
        obtain ⟨G9, hF⟩ := HA.out.one hstep
        have HF := Lib.hid hF
        clear hstep hF hX7 q3 q4 q5 q6
        obtain ⟨bA1, bX1, lm1, L1, va1, vx1, e1', hP1, hG1⟩ := HF.out.p1
        obtain ⟨bA2, bX2, lm2, L2, va2, vx2, e2', hP2, hG2⟩ := HF.out.p2
        have HP1 := Lib.hid hP1
        have HP2 := Lib.hid hP2
        clear hP1 hP2 hG1 hG2
        go_wp2_with fail
        refine (l2_tells a x _ _ _ _ _ _ _ _ HP1.out).mono ?_
        rintro e8 w8 ⟨rfl, hB8⟩
        have HF8 := Lib.hid (HF.out.ext hB8)
        have HP3 := Lib.hid (show Pair w8 b y bA2 bX2 lm2 L2 va2 vx2 e2' from ⟨HP2.out.wr.ext hB8, HP2.out.rf.ext hB8, HP2.out.dis⟩)
        clear hB8
        go_wp2_with fail
        refine (l2_tells b y _ _ _ _ _ _ _ _ HP3.out).mono ?_
        rintro e9 w9 ⟨rfl, hB9⟩
        have HF9 := Lib.hid (HF8.out.ext hB9)
        clear hB9
        go_wp2
        go_roundw
        case rel => exact ⟨a, b, x, y, i + 1, _, _, rfl, rfl, rfl, rfl, by omega, by go_num, HF9.out⟩
        case measure => simp [intOf]; omega
      · have HA := Lib.hid (HI.out.ext ((Below.refl _ wr).alloc (Nat.le_refl _) (.cells #[.bool false, .bool true, .int .i64 lim, .int .i64 v.kind, .int .u64 v.u, .int .i64 v.i, .string v.s] 42)))
        have q2 : (wr.alloc (.cells #[.bool false, .bool true, .int .i64 lim, .int .i64 v.kind, .int .u64 v.u, .int .i64 v.i, .string v.s] 42)).cell? ⟨wr.heap.size, 2, none⟩ = some (.int .i64 lim) := by rw [cell_of_row _ _ _ _ _ _ (heap_alloc_new wr _)]; rfl
        have Q2 := Lib.hid q2
        clear q2
        go_wp2_with fail
        refine (pk_NewWriter lim _).mono ?_
        rintro e1 w6 ⟨rfl, hI6, hB6⟩
        obtain ⟨w5', hw5⟩ : ∃ w5', w5' = wr.alloc (.cells #[.bool false, .bool true, .int .i64 lim, .int .i64 v.kind, .int .u64 v.u, .int .i64 v.i, .string v.s] 42) := ⟨_, rfl⟩
        rw [← hw5] at hI6 hB6 HA Q2 ⊢
        obtain ⟨a1, ha1⟩ : ∃ a1, a1 = w5'.heap.size := ⟨_, rfl⟩
        rw [← ha1]
        have HI6 := Lib.hid hI6
        have HB6 := Lib.hid hB6
        have HA1 := Lib.hid ha1
        have q2 := cell_ext hB6 Q2.out
        clear hI6 hB6 hw5 ha1
        go_wp2_with fail
        refine (px_NewWriter lim _).mono ?_
        rintro e2 w7 ⟨rfl, hI7, hB7⟩
        obtain ⟨G9, hF⟩ := HA.out.new1 HI6.out HB6.out hI7 hB7
        obtain ⟨x1, hx1⟩ : ∃ x1, x1 = w6.heap.size := ⟨_, rfl⟩
        rw [← hx1]
        rw [← hx1, ← HA1.out] at hF
        have HF := Lib.hid hF
        clear hF hI7 hB7 hx1 q2
        obtain ⟨bA1, bX1, lm1, L1, va1, vx1, e1', hP1, hG1⟩ := HF.out.p1
        obtain ⟨bA2, bX2, lm2, L2, va2, vx2, e2', hP2, hG2⟩ := HF.out.p2
        have HP1 := Lib.hid hP1
        have HP2 := Lib.hid hP2
        clear hP1 hP2 hG1 hG2
        go_wp2_with fail
        refine (l2_tells a1 x1 _ _ _ _ _ _ _ _ HP1.out).mono ?_
        rintro e8 w8 ⟨rfl, hB8⟩
        have HF8 := Lib.hid (HF.out.ext hB8)
        have HP3 := Lib.hid (show Pair w8 b y bA2 bX2 lm2 L2 va2 vx2 e2' from ⟨HP2.out.wr.ext hB8, HP2.out.rf.ext hB8, HP2.out.dis⟩)
        clear hB8
        go_wp2_with fail
        refine (l2_tells b y _ _ _ _ _ _ _ _ HP3.out).mono ?_
        rintro e9 w9 ⟨rfl, hB9⟩
        have HF9 := Lib.hid (HF8.out.ext hB9)
        clear hB9
        go_wp2
        go_roundw
        case rel => exact ⟨a1, b, x1, y, i + 1, _, _, rfl, rfl, rfl, rfl, by omega, by go_num, HF9.out⟩
        case measure => simp [intOf]; omega
      · have HA := Lib.hid (HI.out.ext ((Below.refl _ wr).alloc (Nat.le_refl _) (.cells #[.bool true, .bool false, .int .i64 lim, .int .i64 v.kind, .int .u64 v.u, .int .i64 v.i, .string v.s] 42)))
        obtain ⟨bA, bX, lm, L, va, vx, e', hP, hG⟩ := HA.out.p2
        have HP := Lib.hid hP
        have hlo := HI.out.p2.lt
        have hfa : wr.heap.size ∉ Foot b va := fun hm => by
          have := hlo wr.heap.size (by rw [hG]; exact List.mem_append.2 (.inl hm)); omega
        have hfg : PStep G2 b y = PStep (Foot b va ++ Foot y vx) b y := by rw [hG]
        have HFA := Lib.hid hfa
        have HFG := Lib.hid hfg
        clear hP hG hlo hfa hfg
        go_wp2_with fail
        refine (l2_lay b _ _ _ _ _ v HOK.out _ HP.out.wr).mono ?_
        rintro e1 w6 ⟨rfl, hW6⟩
        have HW6 := Lib.hid hW6
        obtain ⟨va', hI6, hO6, hA6⟩ := hW6
        have hrow : w6.heap[wr.heap.size]? = some (.cells #[.bool true, .bool false, .int .i64 lim, .int .i64 v.kind, .int .u64 v.u, .int .i64 v.i, .string v.s] 42) := (hO6.blk _ (by simp) HFA.out).trans (heap_alloc_new wr _)
        have q3 : w6.cell? ⟨wr.heap.size, 3, none⟩ = some (.int .i64 v.kind) := by rw [cell_of_row _ _ _ _ _ _ hrow]; rfl
        have q4 : w6.cell? ⟨wr.heap.size, 4, none⟩ = some (.int .u64 v.u) := by rw [cell_of_row _ _ _ _ _ _ hrow]; rfl
        have q5 : w6.cell? ⟨wr.heap.size, 5, none⟩ = some (.int .i64 v.i) := by rw [cell_of_row _ _ _ _ _ _ hrow]; rfl
        have q6 : w6.cell? ⟨wr.heap.size, 6, none⟩ = some (.string v.s) := by rw [cell_of_row _ _ _ _ _ _ hrow]; rfl
        have HX6 := Lib.hid (HP.out.rf.keepD hO6 HP.out.dis.symm)
        clear hI6 hO6 hA6 hrow
        go_wp2_with fail
        refine (l2_layRef y _ _ _ _ _ v HOK.out _ HX6.out).mono ?_
        rintro e2 w7 ⟨rfl, hX7⟩
        have hstep := PStep.lay HP.out HW6.out hX7
        rw [show PStep (Foot b va ++ Foot y vx) b y = PStep G2 b y from HFG.out.symm] at hstep
        obtain ⟨G9, hF⟩ := HA.out.two hstep
        have HF := Lib.hid hF
        clear hstep hF hX7 q3 q4 q5 q6
        obtain ⟨bA1, bX1, lm1, L1, va1, vx1, e1', hP1, hG1⟩ := HF.out.p1
        obtain ⟨bA2, bX2, lm2, L2, va2, vx2, e2', hP2, hG2⟩ := HF.out.p2
        have HP1 := Lib.hid hP1
        have HP2 := Lib.hid hP2
        clear hP1 hP2 hG1 hG2
        go_wp2_with fail
        refine (l2_tells a x _ _ _ _ _ _ _ _ HP1.out).mono ?_
        rintro e8 w8 ⟨rfl, hB8⟩
        have HF8 := Lib.hid (HF.out.ext hB8)
        have HP3 := Lib.hid (show Pair w8 b y bA2 bX2 lm2 L2 va2 vx2 e2' from ⟨HP2.out.wr.ext hB8, HP2.out.rf.ext hB8, HP2.out.dis⟩)
        clear hB8
        go_wp2_with fail
        refine (l2_tells b y _ _ _ _ _ _ _ _ HP3.out).mono ?_
        rintro e9 w9 ⟨rfl, hB9⟩
        have HF9 := Lib.hid (HF8.out.ext hB9)
        clear hB9
        go_wp2
        go_roundw
        case rel => exact ⟨a, b, x, y, i + 1, _, _, rfl, rfl, rfl, rfl, by omega, by go_num, HF9.out⟩
        case measure => simp [intOf]; omega
      · have HA := Lib.hid (HI.out.ext ((Below.refl _ wr).alloc (Nat.le_refl _) (.cells #[.bool true, .bool true, .int .i64 lim, .int .i64 v.kind, .int .u64 v.u, .int .i64 v.i, .string v.s] 42)))
        have q2 : (wr.alloc (.cells #[.bool true, .bool true, .int .i64 lim, .int .i64 v.kind, .int .u64 v.u, .int .i64 v.i, .string v.s] 42)).cell? ⟨wr.heap.size, 2, none⟩ = some (.int .i64 lim) := by rw [cell_of_row _ _ _ _ _ _ (heap_alloc_new wr _)]; rfl
        have Q2 := Lib.hid q2
        clear q2
        go_wp2_with fail
        refine (pk_NewWriter lim _).mono ?_
        rintro e1 w6 ⟨rfl, hI6, hB6⟩
        obtain ⟨w5', hw5⟩ : ∃ w5', w5' = wr.alloc (.cells #[.bool true, .bool true, .int .i64 lim, .int .i64 v.kind, .int .u64 v.u, .int .i64 v.i, .string v.s] 42) := ⟨_, rfl⟩
        rw [← hw5] at hI6 hB6 HA Q2 ⊢
        obtain ⟨a1, ha1⟩ : ∃ a1, a1 = w5'.heap.size := ⟨_, rfl⟩
        rw [← ha1]
        have HI6 := Lib.hid hI6
        have HB6 := Lib.hid hB6
        have HA1 := Lib.hid ha1
        have q2 := cell_ext hB6 Q2.out
        clear hI6 hB6 hw5 ha1
        go_wp2_with fail
        refine (px_NewWriter lim _).mono ?_
        rintro e2 w7 ⟨rfl, hI7, hB7⟩
        obtain ⟨G9, hF⟩ := HA.out.new2 HI6.out HB6.out hI7 hB7
        obtain ⟨x1, hx1⟩ : ∃ x1, x1 = w6.heap.size := ⟨_, rfl⟩
        rw [← hx1]
        rw [← hx1, ← HA1.out] at hF
        have HF := Lib.hid hF
        clear hF hI7 hB7 hx1 q2
        obtain ⟨bA1, bX1, lm1, L1, va1, vx1, e1', hP1, hG1⟩ := HF.out.p1
        obtain ⟨bA2, bX2, lm2, L2, va2, vx2, e2', hP2, hG2⟩ := HF.out.p2
        have HP1 := Lib.hid hP1
        have HP2 := Lib.hid hP2
        clear hP1 hP2 hG1 hG2
        go_wp2_with fail
        refine (l2_tells a x _ _ _ _ _ _ _ _ HP1.out).mono ?_
        rintro e8 w8 ⟨rfl, hB8⟩
        have HF8 := Lib.hid (HF.out.ext hB8)
        have HP3 := Lib.hid (show Pair w8 a1 x1 bA2 bX2 lm2 L2 va2 vx2 e2' from ⟨HP2.out.wr.ext hB8, HP2.out.rf.ext hB8, HP2.out.dis⟩)
        clear hB8
        go_wp2_with fail
        refine (l2_tells a1 x1 _ _ _ _ _ _ _ _ HP3.out).mono ?_
        rintro e9 w9 ⟨rfl, hB9⟩
        have HF9 := Lib.hid (HF8.out.ext hB9)
        clear hB9
        go_wp2
        go_roundw
        case rel => exact ⟨a, a1, x, x1, i + 1, _, _, rfl, rfl, rfl, rfl, by omega, by go_num, HF9.out⟩
        case measure => simp [intOf]; omega
    · obtain rfl : n = i := by omega
      go_wp2
      go_ret
      exact ⟨by simp, HI.out.below⟩
end Go.Proofs.Ytclafljkeaekfaa
