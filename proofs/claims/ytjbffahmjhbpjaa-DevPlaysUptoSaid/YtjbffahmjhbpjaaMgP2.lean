/- The laws' own helpers over the device: lives. -/
import Derived.Test.YtjbffahmjhbpjaaMgP1
import Derived.ArgAppend
import Derived.Test.YtjbffahmjhbpjaaProg
import Derived.WalkKit
import Derived.Deep.MidRow
import Derived.Deep.Cut
import Derived.Deep.RegionHeld3
import Derived.Deep.QuietTactic
import Derived.IntWalk
import Derived.Laws.Rows
/- The laws' own helpers over the device: lives. -/
set_option linter.unusedVariables false
set_option linter.unusedSimpArgs false
set_option maxRecDepth 100000
namespace Go.Proofs.Ytjbffahmjhbpjaa
open Go.RowKit
def newD (n : Nat) : DS := ⟨n, List.replicate (n * 512) 0, [], 0, false, false, 0, 0, 0⟩
theorem IsV.ofNew {w : World} {b g n : Nat} (h : IsDev w b g n (List.replicate (n * 512) 0) (.slice none 0 0) 0 false false 0 0 0) : IsV w b g (.slice none 0 0) (newD n) :=
  ⟨h, ⟨PdOk.nil _, World.ownsRow_nil _ _ _ _⟩, fun k hk => by cases hk⟩
def fiveL : List UInt8 := List.replicate 512 5
theorem fiveL_len : fiveL.length = 512 := List.length_replicate
def zM : List UInt8 := List.replicate (64 * 512) 0
theorem zM_len : zM.length = 64 * 512 := List.length_replicate
def liveM : List UInt8 := splice zM (63 * 512) fiveL
def newD64 : DS := ⟨64, zM, [], 0, false, false, 0, 0, 0⟩
def wrD64 : DS := ⟨64, zM, [⟨63, fiveL⟩], 0, false, false, 0, 1, 0⟩
def liveD : DS := ⟨64, liveM, [], 0, false, false, 0, 1, 1⟩
theorem newD_64 : newD 64 = newD64 := rfl
theorem live_wr : wrD newD64 63 fiveL = (0, wrD64) := by
  unfold wrD
  rw [if_neg (by show ¬ ¬ ((0 : Int) ≤ 63 ∧ (63 : Int) < ((64 : Nat) : Int)); decide), if_neg (fun h => h fiveL_len)]
  rfl
theorem live_fl : flD wrD64 = (0, liveD) := by
  have h : fiveL.take 512 = fiveL := List.take_of_length_le (by rw [fiveL_len]; exact Nat.le_refl _)
  have h2 : layA (fun _ => 512) 0 [⟨63, fiveL⟩] zM = liveM := by
    show splice zM (63 * 512) (fiveL.take 512) = _
    rw [h]; rfl
  unfold flD
  rw [show actD wrD64 = (true, wrD64) from rfl, if_pos rfl]
  show (0, (⟨64, layA (fun _ => 512) 0 [⟨63, fiveL⟩] zM, [], 0, false, false, 0, 1, 1⟩ : DS)) = _
  rw [h2]; rfl
theorem live_raw : blkM liveM 63 = fiveL := by
  unfold blkM liveM splice
  rw [List.drop_left' (by rw [List.length_take, zM_len]; decide), List.take_left' fiveL_len]
end Go.Proofs.Ytjbffahmjhbpjaa
/- The laws' own helpers over the device: lives, its walk. -/
set_option linter.unusedVariables false
set_option linter.unusedSimpArgs false
set_option maxRecDepth 100000
namespace Go.Proofs.Ytjbffahmjhbpjaa
open Go.RowKit
set_option maxHeartbeats 2000000 in
theorem l6_lives (w : World) : Calls Try.prog 14 #[] w fun e w' => ∃ b g vc, e = .returned (.pointer (some ⟨b, 0, none⟩)) ∧ IsV w' b g vc liveD ∧ (∀ k ∈ dvS b g vc, w.heap.size ≤ k) ∧ Below w.heap.size w w' := by
  go_enter Try.func14, Try.ntmps14
  go_wp2_with fail
  refine (dv_New_ok 64 (by omega) (by omega) w).mono ?_
  rintro e w1 ⟨rfl, hD, hB⟩
  obtain ⟨b, hb⟩ : ∃ b, b = w.heap.size + 1 := ⟨_, rfl⟩
  obtain ⟨g, hg⟩ : ∃ g, g = w.heap.size := ⟨_, rfl⟩
  rw [← hb, ← hg] at hD
  rw [← hb]
  have hV := IsV.ofNew hD
  rw [newD_64] at hV
  have HV1 := Lib.hid hV
  have HB1 := Lib.hid hB
  have HBG := Lib.hid (And.intro hb hg)
  clear hD hB hV hb hg
  go_wp2_with fail
  refine (l6_full 5 w1).mono ?_
  rintro e w2 ⟨u2, rfl, k2, rfl, hO2, hB2⟩
  have HO2 := Lib.hid hO2
  have HB2 := Lib.hid hB2
  have HV2 := Lib.hid (HV1.out.ext hB2)
  have hB12 := hB2
  obtain ⟨A9, c9, he9, hR2⟩ := hO2.rd (by omega)
  injection he9 with he1 he2 he3
  subst he1 he3
  have hlt := HV1.out.lt
  have hbase := hO2.base_le
  have HW := Lib.hid (dv_Write w2 b g _ newD64 63 _ 512 512 _ HV2.out hR2 (fun _ p hp hm => by
    have e1 : (⟨k2, 0, none⟩ : Addr) = p := Option.some.inj hp
    have h9 := hlt _ hm
    rw [← e1] at h9
    have h10 : k2 < w1.heap.size := h9
    omega) (by decide) (by decide) (by decide))
  clear hO2 hB2 hR2 hlt hbase
  have hlw := live_wr
  unfold fiveL at hlw
  rw [hlw] at HW
  go_wp2_with fail
  refine HW.out.mono ?_
  rintro e w3 ⟨rfl, vc3, hV3, hF3⟩
  have HF := Lib.hid ((Fr.below (dvS b g (.slice none 0 0)) hB12).trans hF3)
  have HFL := Lib.hid (dv_Flush w3 b g vc3 wrD64 hV3 (by decide) (by decide) (by decide))
  rw [live_fl] at HFL
  clear hV3 hF3 hlw
  go_wp2_with fail
  refine HFL.out.mono ?_
  rintro e w4 ⟨rfl, vc4, hV4, hF4⟩
  have HF4 := Lib.hid (HF.out.trans hF4)
  have HV4 := Lib.hid hV4
  have HRW := Lib.hid (dv_Raw w4 b g vc4 liveD 63 hV4 (by decide))
  rw [show blkM liveD.M 63 = List.replicate 512 5 from live_raw] at HRW
  clear hV4 hF4
  go_wp2_with fail
  refine HRW.out.mono ?_
  rintro e w5 ⟨u5, rfl, k5, rfl, hO5, hB5⟩
  have HO5 := Lib.hid hO5
  have hB45 := hB5
  clear hO5 hB5
  go_wp2_with fail
  refine (l6_full 5 w5).mono ?_
  rintro e w6 ⟨u6, rfl, k6, rfl, hO6, hB6⟩
  have hO56 := HO5.out.ext hB6
  obtain ⟨A7, c7, he7, hR7⟩ := hO56.rd (by omega)
  injection he7 with he1 he2 he3
  subst he1 he3
  obtain ⟨A8, c8, he8, hR8⟩ := hO6.rd (by omega)
  injection he8 with he1 he2 he3
  subst he1 he3
  have HSM := Lib.hid (l6_same _ _ 512 512 512 512 _ _ w6 hR7 hR8)
  rw [decide_eq_true rfl] at HSM
  have HV6 := Lib.hid ((HV4.out.ext hB45).ext hB6)
  have HF6 := Lib.hid ((HF4.out.trans (Fr.below _ hB45)).trans (Fr.below _ hB6))
  clear hO6 hB6 hO56 hR7 hR8 hB45
  go_wp2_with fail
  refine HSM.out.mono ?_
  rintro e w7 ⟨rfl, rfl⟩
  go_wp2
  go_ret
  have hbl := HF6.out.toBelow (B := w.heap.size) HB1.out.size (by
    intro k hk
    simp only [dvS, Value.ownBlock, Option.toList_none, List.mem_cons, List.not_mem_nil, or_false] at hk
    have := HBG.out
    omega)
  exact ⟨b, g, vc4, rfl, HV6.out, hbl.2, HB1.out.trans hbl.1⟩
end Go.Proofs.Ytjbffahmjhbpjaa
/- Words on memory: a slice of ints that the call itself made, and append onto it. -/
set_option linter.unusedVariables false
set_option linter.unusedSimpArgs false
namespace Go.Proofs.Ytjbffahmjhbpjaa
open Go.RowKit
theorem info_int : (Try.prog.info? 3).map (fun i => (i.zero, i.size, i.bytes)) = some (some (.int .i64 0), 1, 8) := by kernel_rfl
/-- v is a slice of ints in a block from base on, unfrozen, that holds l (or nil and l empty). -/
def OwnI (w : World) (base : Nat) (v : Value) (n : Nat) (l : List Int) : Prop := w.ownsRow base 3 1 v n (iv_ l)
theorem OwnI.len {w : World} {base n : Nat} {v : Value} {l : List Int} (h : OwnI w base v n l) : l.length = n := by
  have := h.1; rwa [iv_length, Nat.mul_one] at this
theorem OwnI.nil (w : World) (base : Nat) : OwnI w base (.slice none 0 0) 0 [] := World.ownsRow_nil w base _ _
theorem OwnI.mono {w : World} {base base' n : Nat} {v : Value} {l : List Int} (h : OwnI w base v n l) (hb : base' ≤ base) : OwnI w base' v n l := by
  refine ⟨h.1, ?_⟩
  rcases h.2 with h | ⟨g, cap, cur, h1, h2, h3⟩
  · exact .inl h
  · exact .inr ⟨g, cap, cur, h1, Nat.le_trans hb h2, h3⟩
theorem OwnI.only {w w' : World} {base n : Nat} {v : Value} {l : List Int} {S : List Nat} (h : OwnI w base v n l) (hw : Only S w w') (hs : ∀ k ∈ S, k < base) : OwnI w' base v n l := by
  refine ⟨h.1, ?_⟩
  rcases h.2 with h | ⟨g, cap, cur, h1, h2, h3, h4⟩
  · exact .inl h
  · exact .inr ⟨g, cap, cur, h1, h2, (hw.blk g (lt_of_block h3) (fun hm => by have := hs g hm; omega)).trans h3, h4⟩
theorem OwnI.ext {w w' : World} {base n : Nat} {v : Value} {l : List Int} (h : OwnI w base v n l) (hb : Below w.heap.size w w') : OwnI w' base v n l := h.only (Only.of_below [] hb) (by simp)
theorem OwnI.alloc {w : World} {base n : Nat} {v : Value} {l : List Int} (h : OwnI w base v n l) (o : Obj) : OwnI (w.alloc o) base v n l := World.ownsRow.alloc h o
theorem OwnI.drewN {w : World} {base n : Nat} {v : Value} {l : List Int} (h : OwnI w base v n l) (k : Nat) : OwnI (w.drewN k) base v n l := h
theorem OwnI.slice {w : World} {base n : Nat} {v : Value} {l : List Int} (h : OwnI w base v n l) : ∃ A c, v = .slice A n c := by
  rcases h.2 with ⟨rfl, h0⟩ | ⟨g, cap, cur, rfl, _⟩
  · subst h0; exact ⟨none, 0, rfl⟩
  · exact ⟨_, cap, rfl⟩
theorem OwnI.rd {w : World} {base n : Nat} {v : Value} {l : List Int} (D : List Nat) (h : OwnI w base v n l) (hm : n ≤ 140737488355328) (hD : ∀ k ∈ D, k < base) : ∃ A c, v = .slice A n c ∧ RdI D w A n c l := by
  have hl := h.len
  rcases h.2 with ⟨rfl, h0⟩ | ⟨g, cap, cur, rfl, hb, hh, h1, h2, h3, h4⟩
  · subst h0
    exact ⟨none, 0, rfl, hl, Nat.le_refl _, by omega, fun hp => absurd hp (by omega)⟩
  · refine ⟨_, cap, rfl, hl, h1, hm, fun hp => ⟨g, 0, rfl, fun hm => by have := hD g hm; omega, fun j hj => ?_⟩⟩
    have := World.ownsRow.cells h (g := g) rfl j _ (iv_get l j (by omega))
    rwa [Addr.add_mid] at this
theorem OwnI.rdA {w : World} {base n cap : Nat} {A : Option Addr} {l : List Int} (D : List Nat) (h : OwnI w base (.slice A n cap) n l) (hm : n ≤ 140737488355328) (hD : ∀ k ∈ D, k < base) : RdI D w A n cap l := by
  obtain ⟨A9, c9, he, hr⟩ := h.rd D hm hD
  injection he with h1 h2 h3
  subst h1 h3
  exact hr
theorem OwnI.form {w : World} {base n : Nat} {v : Value} {l : List Int} (h : OwnI w base v n l) (hp : 0 < n) : ∃ g c, v = .slice (some ⟨g, 0, none⟩) n c ∧ base ≤ g ∧ g < w.heap.size := by
  rcases h.2 with ⟨_, h0⟩ | ⟨g, cap, cur, rfl, hb, hh, _⟩
  · omega
  · exact ⟨g, cap, rfl, hb, lt_of_block hh⟩
theorem RdI.lit (D : List Nat) (w : World) (l : List Int) (n : Nat) (hn : l.length = n) (hm : n ≤ 140737488355328) (hD : ∀ k ∈ D, k < w.heap.size) (fr : Nat × Nat := (0, 0)) : RdI D (w.alloc (.cells (iv_ l).toArray 3 fr)) (some ⟨w.heap.size, 0, none⟩) n n l :=
  ⟨hn, Nat.le_refl _, hm, fun _ => ⟨_, _, rfl, fun hm => by have := hD _ hm; omega, fun j hj => by
    rw [cell_of_row _ _ _ _ _ _ (heap_alloc_new w _)]
    simpa using iv_get l j (by omega)⟩⟩
theorem run_appI {W : World} {D : List Nat} (base : Nat) (ty : TypeId) {v : Value} {n : Nat} {xs ys : List Int} {A : Option Addr} {m c : Nat}
    (HO : OwnI W base v n xs) (HR : RdI D W A m c ys) (hbase : base ≤ W.heap.size) (hl : (n + m) * 8 ≤ 140737488355328) :
    ∃ v1 w1, (Builtin.append_ #[38, 38] ty #[v, .slice A m c]).run Try.prog W = .ok v1 w1 ∧ OwnI w1 base v1 (n + m) (xs ++ ys) ∧ W.grownBy w1 v.ownBlock ∧ (v1.ownBlock = v.ownBlock ∨ v1.ownBlock = some W.heap.size) := by
  obtain ⟨i0, hi, hzz⟩ := Option.map_eq_some_iff.1 info_int
  simp only [Prod.mk.injEq] at hzz
  obtain ⟨hz0, hz1, hz2⟩ := hzz
  have ht := Try.underlying38
  have hm : ys.length = m := HR.len
  rcases A with _ | ad
  · have h0 : m = 0 := by
      rcases Nat.eq_zero_or_pos m with h0 | h0
      · exact h0
      · obtain ⟨b, o', h, _⟩ := HR.at_ h0
        cases h
    subst h0
    obtain rfl : ys = [] := List.eq_nil_of_length_eq_zero hm
    refine ⟨v, W, ?_, by simpa using HO, World.grownBy.refl W _, .inl rfl⟩
    rcases HO.2 with ⟨rfl, hn⟩ | ⟨g, cap, cur, rfl, _, _, hnc, _⟩
    · simp [Builtin.append_, run_underlying ht, sizeOf, typeInfo, hi, Builtin.lenOf, Builtin.firstCells]
    · simp [Builtin.append_, run_underlying ht, sizeOf, typeInfo, hi, Builtin.lenOf, Builtin.firstCells, hnc, storeCells]
  · have hcells : ∀ j u, (iv_ ys)[j]? = some u → W.cell? (ad.add j) = some u := by
      intro j u hu
      have hj : j < ys.length := by
        rcases Nat.lt_or_ge j ys.length with h | h
        · exact h
        · simp [iv_, List.getElem?_eq_none h] at hu
      obtain ⟨b, o', h', _, hc⟩ := HR.at_ (by omega)
      injection h' with h'
      subst h'
      rw [iv_get ys j hj] at hu
      rw [Addr.add_mid, hc j (by omega), hu]
    obtain ⟨v1, w1, hr, h2, h3, _, h5⟩ := run_append_own_at (P := Try.prog) W base 38 ty 3 i0 (.int .i64 0) 1 8 ht hi hz0 hz1 hz2 rfl (by omega) v n (iv_ xs) HO ad m c (iv_ ys) (by rw [iv_length]; omega) hcells
      (iv_one ys) (by simp only [maxLen]; omega) hl hbase
    exact ⟨v1, w1, hr, by unfold OwnI; rw [iv_append]; exact h2, h3, h5⟩
section
variable {ops : Array Oper} {rest : List Oper} {o : Oper} {a : Act} {Q : Exit → Act → World → Prop}
theorem wp_appI {w0 W : World} {D : List Nat} (base : Nat) {v : Value} {n : Nat} {xs ys : List Int} {A : Option Addr} {m c : Nat}
    (HO : OwnI W base v n xs) (HR : RdI D W A m c ys) (HB : Below base w0 W) (hbase : base ≤ W.heap.size) (hl : (n + m) * 8 ≤ 140737488355328) (s x : Operand) (hgd : o.guard = none)
    (ho : o.op = .call { callee := .builtin .append, args := #[s, x], argTypes := #[38, 38] }) (hs : a.eval s = v) (hx : a.eval x = .slice A m c)
    (h : ∀ v1 w1, OwnI w1 base v1 (n + m) (xs ++ ys) → Below base w0 w1 → wpList Try.prog ops Q rest (a.put o.dst v1) w1) :
    wpList Try.prog ops Q (o :: rest) a W := by
  obtain ⟨v1, w1, hr, hown, hg, hat⟩ := run_appI base o.type HO HR hbase hl
  refine wpList_plain hgd fun K hK => ?_
  unfold Oper.wp execOp
  simp only [ho, resolve, invoke, builtin, Sem.run_bind, Sem.run_pure, Result.andThen_ok, List.map_toArray, List.map_cons, List.map_nil, hs, hx, hr]
  refine hK _ _ (h v1 w1 hown (HB.grown hg hbase ?_))
  intro k hk
  exact ((World.ownsRow.lt HO) k hk).1
theorem wp_appI1 {w0 W : World} (base : Nat) {v : Value} {n : Nat} {xs : List Int} (y : Int)
    (HO : OwnI W base v n xs) (HB : Below base w0 W) (hbase : base ≤ W.heap.size) (hl : (n + 1) * 8 ≤ 140737488355328) (s x : Operand) (hgd : o.guard = none)
    (ho : o.op = .call { callee := .builtin .append, args := #[s, x], argTypes := #[38, 38] }) (hs : a.eval s = v) (hx : a.eval x = .slice (some ⟨W.heap.size, 0, none⟩) 1 1)
    (h : ∀ v1 w1, OwnI w1 base v1 (n + 1) (xs ++ [y]) → Below base w0 w1 → wpList Try.prog ops Q rest (a.put o.dst v1) w1) :
    wpList Try.prog ops Q (o :: rest) a (W.alloc (.cells #[.int .i64 y] 3)) :=
  wp_appI base (D := []) (HO.alloc _) (RdI.lit [] W [y] 1 rfl (by decide) (by simp)) (HB.alloc hbase _) (by simp; omega) hl s x hgd ho hs hx h
end
end Go.Proofs.Ytjbffahmjhbpjaa
/- Words for walks by hand: one operation of a plain region whose run is told by an equation. -/
set_option linter.unusedVariables false
set_option linter.unusedSimpArgs false
namespace Go.Proofs.Ytjbffahmjhbpjaa
open Go.RowKit
section
variable {P : Program} {ops : Array Oper} {rest : List Oper} {o : Oper} {a : Act} {w w' : World} {Q : Exit → Act → World → Prop}
theorem exec_load (ty : TypeId) (x : Operand) (p v : Value) (ho : o.op = .load ty x) (h0 : a.eval x = p) (hrun : (Instr.loadAt ty p).run P w = .ok v w) : (execOp a.eval o).run P w = .ok (.value v) w := by
  unfold execOp
  simp only [ho, h0, Sem.run_bind, hrun, Result.andThen_ok, Sem.run_pure]
theorem exec_alloc (ty : TypeId) (v : Value) (ho : o.op = .alloc ty) (hrun : (Instr.alloc ty true (.tuple #[])).run P w = .ok v w') : (execOp a.eval o).run P w = .ok (.value v) w' := by
  unfold execOp
  simp only [ho, Sem.run_bind, hrun, Result.andThen_ok, Sem.run_pure]
theorem exec_store (ty : TypeId) (x y : Operand) (p v : Value) (ho : o.op = .store ty x y) (h0 : a.eval x = p) (h1 : a.eval y = v) (hrun : (Instr.storeAt ty p v).run P w = .ok () w') : (execOp a.eval o).run P w = .ok .skip w' := by
  unfold execOp
  simp only [ho, h0, h1, Sem.run_bind, hrun, Result.andThen_ok, Sem.run_pure]
/-- an operation that yields a value -/
theorem wpl_val (hg : o.guard = none) (v : Value) (w' : World) (hrun : (execOp a.eval o).run P w = .ok (.value v) w') (h : wpList P ops Q rest (a.put o.dst v) w') : wpList P ops Q (o :: rest) a w := by
  refine wpList_plain hg fun K hK => ?_
  unfold Oper.wp
  rw [hrun, Oper.upon_value]
  exact hK _ _ h
theorem wpl_load (hg : o.guard = none) (ty : TypeId) (x : Operand) (p v : Value) (ho : o.op = .load ty x) (h0 : a.eval x = p) (hrun : (Instr.loadAt ty p).run P w = .ok v w)
    (h : wpList P ops Q rest (a.put o.dst v) w) : wpList P ops Q (o :: rest) a w := wpl_val hg v w (exec_load ty x p v ho h0 hrun) h
theorem wpl_alloc (hg : o.guard = none) (ty : TypeId) (v : Value) (w' : World) (ho : o.op = .alloc ty) (hrun : (Instr.alloc ty true (.tuple #[])).run P w = .ok v w')
    (h : wpList P ops Q rest (a.put o.dst v) w') : wpList P ops Q (o :: rest) a w := wpl_val hg v w' (exec_alloc ty v ho hrun) h
theorem wpl_store (hg : o.guard = none) (ty : TypeId) (x y : Operand) (p v : Value) (w' : World) (ho : o.op = .store ty x y) (h0 : a.eval x = p) (h1 : a.eval y = v) (hrun : (Instr.storeAt ty p v).run P w = .ok () w')
    (h : wpList P ops Q rest (a.put o.dst undef) w') : wpList P ops Q (o :: rest) a w := by
  refine wpList_plain hg fun K hK => ?_
  unfold Oper.wp
  rw [exec_store ty x y p v ho h0 h1 hrun]
  exact hK _ _ h
end
end Go.Proofs.Ytjbffahmjhbpjaa
/- The device's Pending: the numbers of the writes of the cache. -/
set_option linter.unusedVariables false
set_option linter.unusedSimpArgs false
set_option maxRecDepth 100000
namespace Go.Proofs.Ytjbffahmjhbpjaa
open Go.RowKit
def zPd : Array Value := #[.int .i64 0] ++ Array.replicate 512 (.int .u8 0)
theorem zPd_size : zPd.size = 513 := by simp [zPd]
theorem al_pd (W : World) : (Instr.alloc 80 true (.tuple #[])).run Try.prog W = .ok (.pointer (some ⟨W.heap.size, 0, none⟩)) (W.alloc (.cells zPd 80)) := by
  have hz := zero_pd W
  rw [show (#[Value.int .i64 0] ++ Array.replicate 512 (Value.int .u8 0)) = zPd from rfl] at hz
  have hn : (newVar 80 (.agg zPd)).run Try.prog W = .ok ⟨W.heap.size, 0, none⟩ (W.alloc (.cells zPd 80)) := rfl
  simp only [Instr.alloc, Sem.run_bind, hz, hn, Result.andThen_ok, Sem.run_pure]
/-- the variable of a range over the cache: made, and the element laid there -/
theorem put_pd (W : World) (x : Pd) (hx : x.data.length = 512) : ∃ W2, (Instr.storeAt 80 (.pointer (some ⟨W.heap.size, 0, none⟩)) (.agg (pc x).toArray)).run Try.prog (W.alloc (.cells zPd 80)) = .ok () W2 ∧
    Below W.heap.size W W2 ∧ W2.cell? ⟨W.heap.size, 0, none⟩ = some (.int .i64 ((x.num : Nat) : Int)) ∧ W2.heap.size = W.heap.size + 1 := by
  have hl := pc_length hx
  have hth : (W.alloc (.cells zPd 80)).there W.heap.size 0 (pc x).toArray.size := by
    have h := there_of_row (b := W.heap.size) (w := W.alloc (.cells zPd 80)) (cs := zPd) (t := 80) (heap_alloc_new W _)
    rw [zPd_size] at h
    rw [show (pc x).toArray.size = 513 by rw [List.size_toArray, hl]]; exact h
  have hsz : (Try.prog.info? 80).map (·.size) = some (pc x).toArray.size := by
    rw [List.size_toArray, hl]
    obtain ⟨i0, hi, hzz⟩ := Option.map_eq_some_iff.1 info_pd
    simp only [Prod.mk.injEq] at hzz
    rw [hi]; simp [hzz.2.1]
  refine ⟨_, run_storeAt_mid _ W.heap.size 0 80 _ hth hsz (all_oneCell_toArray (fun u hu => pcs_one [x] u (by simpa [pcs] using hu))), ?_, ?_, ?_⟩
  · exact below_setCells (Nat.le_refl _) _ _ ((Below.refl _ W).alloc (Nat.le_refl _) _)
  · have := World.rangeAt_setCells_same (W.alloc (.cells zPd 80)) W.heap.size 0 (pc x) (by rw [← List.size_toArray]; exact hth) 0 (.int .i64 ((x.num : Nat) : Int)) rfl
    simpa using this
  · rw [size_setCells]; simp
def nums (C : List Pd) : List Int := C.map fun x => ((x.num : Nat) : Int)
theorem nums_len (C : List Pd) : (nums C).length = C.length := by simp [nums]
theorem OwnP.range {w : World} {base n q g c : Nat} {C : List Pd} (h : OwnP w base n (.slice (some ⟨g, 0, none⟩) q c) q C) (j : Nat) (hj : j < q) : w.rangeAt g (j * 513) (pc (C.getD j default)) := by
  have hl := h.len
  have hd := (h.1.get j (by omega)).2
  intro i u hu
  have hi : i < 513 := by
    rcases Nat.lt_or_ge i 513 with h | h
    · exact h
    · rw [List.getElem?_eq_none (by rw [pc_length hd]; exact h)] at hu; cases hu
  have := World.ownsRow.cells h.2 (g := g) rfl (j * 513 + i) u (by rw [pcs_get C j i h.1 (by omega) hi, hu])
  rwa [Addr.add_mid, Nat.zero_add] at this
theorem dv_Pending (w : World) (b g : Nat) (vc : Value) (D : DS) (h : IsV w b g vc D) (hq : D.C.length ≤ 100000000000) :
    Calls Try.prog 20 #[.pointer (some ⟨b, 0, none⟩)] w fun e w' => ∃ u, e = .returned u ∧ OwnI w' w.heap.size u D.C.length (nums D.C) ∧ Below w.heap.size w w' := by
  have HV := Lib.hid h
  have c1 : w.cell? ⟨b, 1, none⟩ = some vc := h.dev.cell 1
  obtain ⟨Ac, cc, rfl⟩ := h.ca.slice
  have hal := al_pd
  have hpp := put_pd
  obtain ⟨Z, hZ⟩ : ∃ Z, Z = zPd := ⟨_, rfl⟩
  rw [← hZ] at hal
  simp only [← hZ] at hpp
  have HPP := Lib.hid hpp
  clear h hZ hpp
  go_enter Try.func20, Try.ntmps20
  go_wp2_with fail
  clear c1
  go_loopw [3, 5, 11] (fun v _ x wx => ∃ k : Nat, k ≤ D.C.length ∧ x = .int .i64 k ∧ OwnI wx w.heap.size v k (nums (D.C.take k)) ∧ Below w.heap.size w wx) (fun _ _ x _ => D.C.length - (intOf x).toNat)
  case atStart => exact ⟨0, by omega, rfl, by simpa [nums] using OwnI.nil w w.heap.size, Below.refl _ _⟩
  case round =>
    obtain ⟨k, hk, rfl, hO, hB⟩ := hrel
    have HO := Lib.hid hO
    have HB := Lib.hid hB
    have hz := hB.size
    by_cases hkn : k < D.C.length
    · have hV := HV.out.ext hB
      obtain ⟨gc, cc2, hvc⟩ := hV.ca.form (by show 0 < D.C.length; omega)
      injection hvc with hv1 hv2 hv3
      subst hv1 hv3
      have hrg := hV.ca.range k hkn
      have hpd := hV.ca.1.get k hkn
      obtain ⟨x, hxx⟩ : ∃ x, x = D.C.getD k default := ⟨_, rfl⟩
      rw [← hxx] at hrg hpd
      have hld := run_loadAt_mid (P := Try.prog) wr gc (k * 513) 80 (pc x) _ hrg Try.underlying80 rfl (by
        rw [pc_length hpd.2]
        obtain ⟨i0, hi, hzz⟩ := Option.map_eq_some_iff.1 info_pd
        simp only [Prod.mk.injEq] at hzz
        rw [hi]; simp [hzz.2.1])
      obtain ⟨W2, hst, hB2, hc2, hs2⟩ := HPP.out wr x hpd.2
      obtain ⟨X, hX⟩ : ∃ X, X = Value.agg (pc x).toArray := ⟨_, rfl⟩
      rw [← hX] at hld hst
      have HST := Lib.hid (show nums (D.C.take (k + 1)) = nums (D.C.take k) ++ [((x.num : Nat) : Int)] by rw [takeP_snoc D.C k hkn, ← hxx]; simp [nums])
      have HO2 := Lib.hid (HO.out.ext hB2)
      have HB2 := Lib.hid (HB.out.trans (hB2.mono hz))
      have hkk : (0 : Int) ≤ (k : Int) ∧ (k : Int) < (D.C.length : Int) ∧ (D.C.length : Int) ≤ 100000000000 := by omega
      clear hO hB hV hrg hpd hxx hB2 hX
      go_upto_region 4 with fail
      refine wp_region_lit ?_
      refine wpl_val rfl (.pointer (some ⟨gc, k * 513, none⟩)) wr ?_ ?_
      · go_simp
      refine wpl_load rfl _ _ _ X rfl rfl hld ?_
      refine wpl_alloc rfl _ _ _ rfl (hal wr) ?_
      refine wpl_store rfl _ _ _ _ X W2 rfl rfl rfl hst ?_
      have hz2 : w.heap.size ≤ W2.heap.size := by omega
      clear hal hld hst hs2
      simp only [Act.put, List.getElem_toArray, List.getElem_cons_zero, List.getElem_cons_succ, List.setIfInBounds_toArray, List.set_cons_zero, List.set_cons_succ]
      go_wp2_with (at_builtin; refine wp_appI1 (w0 := w) w.heap.size _ HO2.out HB2.out hz2 (by omega) _ _ rfl rfl rfl rfl ?_; intro v1 w1 hO1 hB1; have HO1 := Lib.hid hO1; have HB1 := Lib.hid hB1; clear hO1 hB1)
      go_roundw
      case rel => exact ⟨k + 1, by omega, by go_num, by rw [HST.out]; exact HO1.out, HB1.out⟩
      case measure => simp [intOf]; omega
    · obtain rfl : D.C.length = k := by omega
      rw [List.take_length] at HO
      clear hO hB
      go_wp2
      go_ret
      exact ⟨_, rfl, HO.out, HB.out⟩
end Go.Proofs.Ytjbffahmjhbpjaa
/- Words on memory: a frame of rows, each in a block of its own, beside the device's. -/
set_option linter.unusedVariables false
set_option linter.unusedSimpArgs false
namespace Go.Proofs.Ytjbffahmjhbpjaa
open Go.RowKit
/-- The blocks of R lie there, apart from one another and from those of S. -/
structure Kp (w : World) (S : List Nat) (R : List (Nat × Obj)) : Prop where
  all : ∀ p ∈ R, w.heap[p.1]? = some p.2
  out : ∀ p ∈ R, p.1 ∉ S
  nd : (R.map Prod.fst).Nodup
theorem Kp.nil (w : World) (S : List Nat) : Kp w S [] := ⟨by simp, by simp, by simp⟩
section
variable {w w' : World} {S S' : List Nat} {R : List (Nat × Obj)}
theorem Kp.get (h : Kp w S R) (i : Nat) {p : Nat × Obj} (hi : R[i]? = some p) : w.heap[p.1]? = some p.2 := h.all p (List.mem_of_getElem? hi)
theorem Kp.apart (h : Kp w S R) (i : Nat) {p : Nat × Obj} (hi : R[i]? = some p) : p.1 ∉ S := h.out p (List.mem_of_getElem? hi)
theorem Kp.lt (h : Kp w S R) (i : Nat) {p : Nat × Obj} (hi : R[i]? = some p) : p.1 < w.heap.size := lt_of_block (h.get i hi)
theorem Kp.fr (h : Kp w S R) (f : Fr S S' w w') : Kp w' S' R :=
  ⟨fun p hp => (f.only.blk p.1 (lt_of_block (h.all p hp)) (h.out p hp)).trans (h.all p hp), fun p hp => (f.apart (lt_of_block (h.all p hp)) (h.out p hp)).2, h.nd⟩
theorem Kp.below (h : Kp w S R) (hb : Below w.heap.size w w') : Kp w' S R := h.fr (Fr.below S hb)
theorem Kp.drewN (h : Kp w S R) (n : Nat) : Kp (w.drewN n) S R := h.fr ((Fr.refl S w).drew n)
/-- a new block beside them -/
theorem Kp.add (h : Kp w S R) (f : Fr S S' w w') {k : Nat} {o : Obj} (hk : w.heap.size ≤ k) (hS : k ∉ S') (ho : w'.heap[k]? = some o) : Kp w' S' ((k, o) :: R) := by
  have h2 := h.fr f
  refine ⟨fun p hp => ?_, fun p hp => ?_, ?_⟩
  · rcases List.mem_cons.1 hp with rfl | hp
    · exact ho
    · exact h2.all p hp
  · rcases List.mem_cons.1 hp with rfl | hp
    · exact hS
    · exact h2.out p hp
  · rw [List.map_cons, List.nodup_cons]
    refine ⟨fun hm => ?_, h2.nd⟩
    obtain ⟨p, hp, he⟩ := List.mem_map.1 hm
    have := lt_of_block (h.all p hp)
    rw [he] at this
    have : k < w.heap.size := this
    omega
theorem Kp.new (h : Kp w S R) (hb : Below w.heap.size w w') {k : Nat} {o : Obj} (hk : w.heap.size ≤ k) (hS : ∀ s ∈ S, s < w.heap.size) (ho : w'.heap[k]? = some o) : Kp w' S ((k, o) :: R) :=
  h.add (Fr.below S hb) hk (fun hm => by have := hS k hm; omega) ho
/-- one of them is changed -/
theorem Kp.upd (h : Kp w S R) (i : Nat) {k : Nat} {o o' : Obj} (hi : R[i]? = some (k, o)) (hw : Only [k] w w') (ho : w'.heap[k]? = some o') : Kp w' S (R.set i (k, o')) := by
  have hil : i < R.length := (List.getElem?_eq_some_iff.1 hi).1
  have hmap : (R.set i (k, o')).map Prod.fst = R.map Prod.fst := by
    apply List.ext_getElem?
    intro j
    rw [List.getElem?_map, List.getElem?_map, List.getElem?_set]
    by_cases hij : i = j
    · subst hij; rw [if_pos rfl, if_pos hil, hi]; rfl
    · rw [if_neg hij]
  refine ⟨fun p hp => ?_, fun p hp => ?_, by rw [hmap]; exact h.nd⟩
  · obtain ⟨j, hj⟩ := List.mem_iff_getElem?.1 hp
    rw [List.getElem?_set] at hj
    by_cases hij : i = j
    · subst hij; rw [if_pos rfl, if_pos hil] at hj
      injection hj with hj; subst hj; exact ho
    · rw [if_neg hij] at hj
      have h1 := h.get j hj
      refine (hw.blk p.1 (lt_of_block h1) ?_).trans h1
      simp only [List.mem_singleton]
      intro e
      have h2 : (R.map Prod.fst)[i]? = some k := by rw [List.getElem?_map, hi]; rfl
      have h3 : (R.map Prod.fst)[j]? = some k := by rw [List.getElem?_map, hj, ← e]; rfl
      exact hij ((List.getElem?_inj (by simpa using hil) h.nd).1 (h2.trans h3.symm))
  · obtain ⟨j, hj⟩ := List.mem_iff_getElem?.1 hp
    rw [List.getElem?_set] at hj
    by_cases hij : i = j
    · subst hij; rw [if_pos rfl, if_pos hil] at hj
      injection hj with hj; subst hj; exact h.apart i (p := (k, o)) hi
    · rw [if_neg hij] at hj
      exact h.apart j hj
/-- what lies beside is as it was, where one of them is changed -/
theorem Kp.frK (h : Kp w S R) (i : Nat) {k : Nat} {o : Obj} (hi : R[i]? = some (k, o)) (hw : Only [k] w w') (hS : ∀ s ∈ S, s < w.heap.size) : ∀ s ∈ S, w'.heap[s]? = w.heap[s]? := fun s hs => hw.blk s (hS s hs) (by
  simp only [List.mem_singleton]
  intro e
  exact h.apart i hi (e ▸ hs))
end
/-! ### rows of bytes, rows of ints -/
def RowT (t : TypeId) (o : Obj) (n c : Nat) (vs : List Value) : Prop := ∃ cur : Array Value, o = .cells cur t (0, 0) ∧ vs.length = n ∧ n ≤ c ∧ c ≤ maxLen ∧ cur.size = c ∧ cur.toList.take n = vs
def RowB (o : Obj) (n c : Nat) (l : List UInt8) : Prop := RowT 5 o n c (bv l)
def RowN (o : Obj) (n c : Nat) (l : List Int) : Prop := RowT 3 o n c (iv_ l)
section
variable {w : World} {k n c base : Nat} {o : Obj}
theorem RowT.owns {t : TypeId} {vs : List Value} (h : RowT t o n c vs) (hk : w.heap[k]? = some o) (hb : base ≤ k) : w.ownsRow base t 1 (.slice (some ⟨k, 0, none⟩) n c) n vs := by
  obtain ⟨cur, rfl, h1, h2, h3, h4, h5⟩ := h
  exact ⟨by rw [h1, Nat.mul_one], .inr ⟨k, c, cur, rfl, hb, hk, h2, h3, by rw [h4, Nat.mul_one], by rw [Nat.mul_one]; exact h5⟩⟩
theorem RowT.of {t : TypeId} {vs : List Value} {v : Value} (h : w.ownsRow base t 1 v n vs) (hn : 0 < n) : ∃ k c o, v = .slice (some ⟨k, 0, none⟩) n c ∧ base ≤ k ∧ w.heap[k]? = some o ∧ RowT t o n c vs := by
  rcases h.2 with ⟨_, h0⟩ | ⟨g, cap, cur, rfl, hb, hh, h1, h2, h3, h4⟩
  · omega
  · exact ⟨g, cap, _, rfl, hb, hh, cur, rfl, by have := h.1; omega, h1, h2, by omega, by rwa [Nat.mul_one] at h4⟩
theorem RowB.own {l : List UInt8} (h : RowB o n c l) (hk : w.heap[k]? = some o) : Own w 0 (.slice (some ⟨k, 0, none⟩) n c) n l := RowT.owns h hk (Nat.zero_le _)
theorem RowN.own {l : List Int} (h : RowN o n c l) (hk : w.heap[k]? = some o) : OwnI w 0 (.slice (some ⟨k, 0, none⟩) n c) n l := RowT.owns h hk (Nat.zero_le _)
theorem Own.row_of {l : List UInt8} {v : Value} (h : Own w base v n l) (hn : 0 < n) : ∃ k c o, v = .slice (some ⟨k, 0, none⟩) n c ∧ base ≤ k ∧ w.heap[k]? = some o ∧ RowB o n c l := RowT.of h hn
theorem OwnI.row_of {l : List Int} {v : Value} (h : OwnI w base v n l) (hn : 0 < n) : ∃ k c o, v = .slice (some ⟨k, 0, none⟩) n c ∧ base ≤ k ∧ w.heap[k]? = some o ∧ RowN o n c l := RowT.of h hn
theorem RowT.cell {t : TypeId} {vs : List Value} (h : RowT t o n c vs) (hk : w.heap[k]? = some o) (j : Nat) (hj : j < n) : w.cell? ⟨k, j, none⟩ = vs[j]? := by
  have h2 := h
  obtain ⟨cur, _, h1, _⟩ := h2
  have := World.ownsRow.cellAt (h.owns hk (Nat.zero_le k)) j (by omega)
  exact this
theorem RowB.cell {l : List UInt8} (h : RowB o n c l) (hk : w.heap[k]? = some o) (j : Nat) (hj : j < n) : w.cell? ⟨k, j, none⟩ = some (.int .u8 ((l.getD j 0).toNat : Int)) := (h.own hk).cell j hj
theorem RowT.free {t : TypeId} {vs : List Value} (h : RowT t o n c vs) (hk : w.heap[k]? = some o) (j : Nat) : w.frozen? ⟨k, j, none⟩ = false := World.ownsRow.frozenAt (h.owns hk (Nat.zero_le k)) j
theorem RowT.store {t : TypeId} {vs : List Value} (h : RowT t o n c vs) (hk : w.heap[k]? = some o) (j : Nat) (u : Value) : ∃ o', (w.setCell ⟨k, j, none⟩ u).heap[k]? = some o' ∧ RowT t o' n c (vs.set j u) := by
  obtain ⟨cur, rfl, h1, h2, h3, h4, h5⟩ := h
  refine ⟨_, heap_setCell_same w k j cur t u hk, _, rfl, by simpa using h1, h2, h3, by simpa using h4, ?_⟩
  rw [Array.toList_setIfInBounds, ← h5, List.take_set]
theorem RowB.store {l : List UInt8} (h : RowB o n c l) (hk : w.heap[k]? = some o) (j : Nat) (x : UInt8) : ∃ o', (w.setCell ⟨k, j, none⟩ (.int .u8 (x.toNat : Int))).heap[k]? = some o' ∧ RowB o' n c (l.set j x) := by
  have := RowT.store h hk j (.int .u8 (x.toNat : Int))
  unfold RowB
  rwa [show bv (l.set j x) = (bv l).set j (.int .u8 (x.toNat : Int)) by simp [bv, List.map_set]]
theorem RowN.store {l : List Int} (h : RowN o n c l) (hk : w.heap[k]? = some o) (j : Nat) (x : Int) : ∃ o', (w.setCell ⟨k, j, none⟩ (.int .i64 x)).heap[k]? = some o' ∧ RowN o' n c (l.set j x) := by
  have := RowT.store h hk j (.int .i64 x)
  unfold RowN
  rwa [show iv_ (l.set j x) = (iv_ l).set j (.int .i64 x) by simp [iv_, List.map_set]]
theorem RowB.rd {l : List UInt8} (h : RowB o n c l) (hk : w.heap[k]? = some o) (hm : n ≤ 140737490452480) : Rd w (some ⟨k, 0, none⟩) n c l := by
  obtain ⟨A, c9, he, hr⟩ := (h.own hk).rd hm
  injection he with h1 h2 h3
  subst h1 h3
  exact hr
theorem RowB.len {l : List UInt8} (h : RowB o n c l) : l.length = n := by
  obtain ⟨_, _, h1, _⟩ := h
  rwa [bv_length] at h1
theorem RowB.cap {l : List UInt8} (h : RowB o n c l) : n ≤ c := by
  obtain ⟨_, _, _, h1, _⟩ := h
  exact h1
end
/-! ### a device, and rows beside it -/
structure St (w0 w : World) (b g : Nat) (vc : Value) (D : DS) (R : List (Nat × Obj)) : Prop where
  dv : IsV w b g vc D
  kp : Kp w (dvS b g vc) R
  bl : Below w0.heap.size w0 w
  sl : ∀ s ∈ dvS b g vc, w0.heap.size ≤ s
  rl : ∀ p ∈ R, w0.heap.size ≤ p.1
section
variable {w0 w w' : World} {b g : Nat} {vc vc' : Value} {D D' : DS} {R : List (Nat × Obj)}
theorem St.of (h : IsV w b g vc D) (hs : ∀ s ∈ dvS b g vc, w0.heap.size ≤ s) (hb : Below w0.heap.size w0 w) : St w0 w b g vc D [] := ⟨h, Kp.nil _ _, hb, hs, by simp⟩
theorem St.get (h : St w0 w b g vc D R) (i : Nat) {p : Nat × Obj} (hi : R[i]? = some p) : w.heap[p.1]? = some p.2 := h.kp.get i hi
theorem St.below (h : St w0 w b g vc D R) (hb : Below w.heap.size w w') : St w0 w' b g vc D R := ⟨h.dv.ext hb, h.kp.below hb, h.bl.trans (hb.mono h.bl.size), h.sl, h.rl⟩
theorem St.drewN (h : St w0 w b g vc D R) (n : Nat) : St w0 (w.drewN n) b g vc D R := ⟨h.dv.drewN n, h.kp.drewN n, below_drewN h.bl n, h.sl, h.rl⟩
theorem St.alloc (h : St w0 w b g vc D R) (o : Obj) : St w0 (w.alloc o) b g vc D R := h.below ((Below.refl _ w).alloc (Nat.le_refl _) o)
theorem St.fr (h : St w0 w b g vc D R) (hv : IsV w' b g vc' D') (f : Fr (dvS b g vc) (dvS b g vc') w w') : St w0 w' b g vc' D' R := by
  have h2 := f.toBelow h.bl.size h.sl
  exact ⟨hv, h.kp.fr f, h.bl.trans h2.1, h2.2, h.rl⟩
theorem St.addFr (h : St w0 w b g vc D R) (hv : IsV w' b g vc' D') (f : Fr (dvS b g vc) (dvS b g vc') w w') {k : Nat} {o : Obj} (hk : w.heap.size ≤ k) (hS : k ∉ dvS b g vc') (ho : w'.heap[k]? = some o) : St w0 w' b g vc' D' ((k, o) :: R) := by
  have h2 := f.toBelow h.bl.size h.sl
  refine ⟨hv, h.kp.add f hk hS ho, h.bl.trans h2.1, h2.2, fun p hp => ?_⟩
  rcases List.mem_cons.1 hp with rfl | hp
  · exact Nat.le_trans h.bl.size hk
  · exact h.rl p hp
theorem St.new (h : St w0 w b g vc D R) (hb : Below w.heap.size w w') {k : Nat} {o : Obj} (hk : w.heap.size ≤ k) (ho : w'.heap[k]? = some o) : St w0 w' b g vc D ((k, o) :: R) :=
  h.addFr (h.dv.ext hb) (Fr.below _ hb) hk (fun hm => by have := h.dv.lt k hm; omega) ho
theorem St.upd (h : St w0 w b g vc D R) (i : Nat) {k : Nat} {o o' : Obj} (hi : R[i]? = some (k, o)) (hw : Only [k] w w') (ho : w'.heap[k]? = some o') : St w0 w' b g vc D (R.set i (k, o')) := by
  have hap : k ∉ dvS b g vc := h.kp.apart i hi
  have hge : w0.heap.size ≤ k := h.rl (k, o) (List.mem_of_getElem? hi)
  refine ⟨h.dv.keep hw (fun s hs => by simp only [List.mem_singleton]; intro e; exact hap (e ▸ hs)), h.kp.upd i hi hw ho, h.bl.trans (hw.below h.bl.size (by simpa using hge)), h.sl, fun p hp => ?_⟩
  obtain ⟨j, hj⟩ := List.mem_iff_getElem?.1 hp
  rw [List.getElem?_set] at hj
  by_cases hij : i = j
  · subst hij
    rw [if_pos rfl, if_pos (List.getElem?_eq_some_iff.1 hi).1] at hj
    injection hj with hj; subst hj; exact hge
  · rw [if_neg hij] at hj
    exact h.rl p (List.mem_of_getElem? hj)
theorem St.grown (h : St w0 w b g vc D R) (i : Nat) {k : Nat} {o o' : Obj} (hi : R[i]? = some (k, o)) (hg : w.grownBy w' (some k)) (ho : w'.heap[k]? = some o') : St w0 w' b g vc D (R.set i (k, o')) :=
  h.upd i hi ⟨hg.os, hg.tape, hg.output, hg.size, fun j hj hn => hg.block j hj (fun e => hn (by injection e with e; simp [e]))⟩ ho
theorem St.store (h : St w0 w b g vc D R) (i j : Nat) {k : Nat} {o o' : Obj} (u : Value) (hi : R[i]? = some (k, o)) (ho : (w.setCell ⟨k, j, none⟩ u).heap[k]? = some o') : St w0 (w.setCell ⟨k, j, none⟩ u) b g vc D (R.set i (k, o')) :=
  h.upd i hi ((Only.refl [k] w).setCell (by simp) u) ho
theorem St.back {x : Nat × Obj} (h : St w0 w b g vc D (x :: R)) : St w0 w b g vc D (R ++ [x]) := by
  have hp : (R ++ [x]).Perm (x :: R) := List.perm_append_comm
  exact ⟨h.dv, ⟨fun p hp' => h.kp.all p (hp.mem_iff.1 hp'), fun p hp' => h.kp.out p (hp.mem_iff.1 hp'), (hp.map Prod.fst).nodup_iff.2 h.kp.nd⟩, h.bl, h.sl, fun p hp' => h.rl p (hp.mem_iff.1 hp')⟩
/-- some of the rows -/
theorem St.sub {R' : List (Nat × Obj)} (h : St w0 w b g vc D R) (hs : R'.Sublist R) : St w0 w b g vc D R' :=
  ⟨h.dv, ⟨fun p hp => h.kp.all p (hs.subset hp), fun p hp => h.kp.out p (hs.subset hp), (hs.map Prod.fst).nodup h.kp.nd⟩, h.bl, h.sl, fun p hp => h.rl p (hs.subset hp)⟩
theorem St.mem (h : St w0 w b g vc D R) {k : Nat} {o : Obj} (hm : (k, o) ∈ R) : w.heap[k]? = some o := h.kp.all _ hm
theorem St.hx (h : St w0 w b g vc D R) (i : Nat) {k : Nat} {o : Obj} (hi : R[i]? = some (k, o)) {j m : Nat} : 0 < m → ∀ p, (some ⟨k, j, none⟩ : Option Addr) = some p → p.block ∉ dvS b g vc := fun _ p hp hm => by
  injection hp with hp
  subst hp
  exact h.kp.apart i hi hm
end
/-! ### the device's calls over such a state: what a row of bytes reads -/
theorem St.rd {w0 w : World} {b g : Nat} {vc : Value} {D : DS} {R : List (Nat × Obj)} (h : St w0 w b g vc D R) (i : Nat) {k n c : Nat} {o : Obj} {l : List UInt8} (hi : R[i]? = some (k, o)) (hr : RowB o n c l) (hm : n ≤ 140737490452480) : Rd w (some ⟨k, 0, none⟩) n c l := hr.rd (h.get i hi) hm
theorem St.cell {w0 w : World} {b g : Nat} {vc : Value} {D : DS} {R : List (Nat × Obj)} (h : St w0 w b g vc D R) (i : Nat) {k n c : Nat} {o : Obj} {l : List UInt8} (hi : R[i]? = some (k, o)) (hr : RowB o n c l) (j : Nat) (hj : j < n) : w.cell? ⟨k, j, none⟩ = some (.int .u8 ((l.getD j 0).toNat : Int)) := hr.cell (h.get i hi) j hj
theorem St.newB {w0 w w' : World} {b g : Nat} {vc : Value} {D : DS} {R : List (Nat × Obj)} {n : Nat} {u : Value} {l : List UInt8} (h : St w0 w b g vc D R) (hO : Own w' w.heap.size u n l) (hb : Below w.heap.size w w') (hn : 0 < n) : ∃ k c o, u = .slice (some ⟨k, 0, none⟩) n c ∧ RowB o n c l ∧ St w0 w' b g vc D ((k, o) :: R) := by
  obtain ⟨k, c, o, e, hk, ho, hr⟩ := hO.row_of hn
  exact ⟨k, c, o, e, hr, h.new hb hk ho⟩
theorem St.newN {w0 w w' : World} {b g : Nat} {vc : Value} {D : DS} {R : List (Nat × Obj)} {n : Nat} {u : Value} {l : List Int} (h : St w0 w b g vc D R) (hO : OwnI w' w.heap.size u n l) (hb : Below w.heap.size w w') (hn : 0 < n) : ∃ k c o, u = .slice (some ⟨k, 0, none⟩) n c ∧ RowN o n c l ∧ St w0 w' b g vc D ((k, o) :: R) := by
  obtain ⟨k, c, o, e, hk, ho, hr⟩ := hO.row_of hn
  exact ⟨k, c, o, e, hr, h.new hb hk ho⟩
end Go.Proofs.Ytjbffahmjhbpjaa
/- The device's calls over a state: the device and rows beside it. -/
set_option linter.unusedVariables false
set_option linter.unusedSimpArgs false
namespace Go.Proofs.Ytjbffahmjhbpjaa
open Go.RowKit
section
variable {w0 w : World} {b g : Nat} {vc : Value} {D : DS} {R : List (Nat × Obj)}
theorem row512 {o : Obj} {l : List UInt8} {u : Value} {W : World} {base : Nat} (h : Own W base u 512 l) (hu : ∃ j, u = .slice (some ⟨j, 0, none⟩) 512 512) : ∃ j o, u = .slice (some ⟨j, 0, none⟩) 512 512 ∧ base ≤ j ∧ W.heap[j]? = some o ∧ RowB o 512 512 l := by
  obtain ⟨k, c, o, e, hk, ho, hr⟩ := h.row_of (by omega)
  obtain ⟨j, rfl⟩ := hu
  injection e with e1 e2 e3
  injection e1 with e1
  injection e1 with e1
  subst e1 e3
  exact ⟨j, o, rfl, hk, ho, hr⟩
theorem st_Read (k : Nat) (h : St w0 w b g vc D R) (hk : k < D.n) (hd : D.down = false) (hrd : D.rd < 9223372036854775807) (hq : D.C.length ≤ 100000000000) :
    Calls Try.prog 19 #[.pointer (some ⟨b, 0, none⟩), .int .i64 k] w fun e w' => ∃ j o, e = .returned (.tuple #[.slice (some ⟨j, 0, none⟩) 512 512, .int .i64 0]) ∧ RowB o 512 512 (rdB D k) ∧ St w0 w' b g vc { D with rd := D.rd + 1 } ((j, o) :: R) := by
  refine (dv_Read w b g vc D k h.dv hk hd hrd hq).mono ?_
  rintro e w' ⟨u, rfl, hu, hO, hV, hF⟩
  obtain ⟨j, o, rfl, hj, ho, hr⟩ := row512 (o := .cells #[] 0 (0, 0)) hO hu
  exact ⟨j, o, rfl, hr, h.addFr hV hF hj (fun hm => by have := h.dv.lt j hm; omega) ho⟩
theorem st_Raw (k : Nat) (h : St w0 w b g vc D R) (hk : k < D.n) :
    Calls Try.prog 22 #[.pointer (some ⟨b, 0, none⟩), .int .i64 k] w fun e w' => ∃ j o, e = .returned (.tuple #[.slice (some ⟨j, 0, none⟩) 512 512, .int .i64 0]) ∧ RowB o 512 512 (blkM D.M k) ∧ St w0 w' b g vc D ((j, o) :: R) := by
  refine (dv_Raw w b g vc D k h.dv hk).mono ?_
  rintro e w' ⟨u, rfl, q, hu, hO, hb⟩
  obtain ⟨j, o, rfl, hj, ho, hr⟩ := row512 (o := .cells #[] 0 (0, 0)) hO ⟨q, hu⟩
  exact ⟨j, o, rfl, hr, h.new hb hj ho⟩
theorem st_full (c : UInt8) (h : St w0 w b g vc D R) :
    Calls Try.prog 15 #[.int .u8 (c.toNat : Int)] w fun e w' => ∃ j o, e = .returned (.slice (some ⟨j, 0, none⟩) 512 512) ∧ RowB o 512 512 (List.replicate 512 c) ∧ St w0 w' b g vc D ((j, o) :: R) := by
  refine (l6_full c w).mono ?_
  rintro e w' ⟨u, rfl, q, hu, hO, hb⟩
  obtain ⟨j, o, rfl, hj, ho, hr⟩ := row512 (o := .cells #[] 0 (0, 0)) hO ⟨q, hu⟩
  exact ⟨j, o, rfl, hr, h.new hb hj ho⟩
theorem st_Medium (h : St w0 w b g vc D R) :
    Calls Try.prog 23 #[.pointer (some ⟨b, 0, none⟩)] w fun e w' => ∃ j c o, e = .returned (.slice (some ⟨j, 0, none⟩) (D.n * 512) c) ∧ RowB o (D.n * 512) c D.M ∧ St w0 w' b g vc D ((j, o) :: R) := by
  refine (dv_Medium w b g vc D h.dv).mono ?_
  rintro e w' ⟨u, rfl, hO, hb⟩
  have hs := h.dv.dev.small
  obtain ⟨j, c, o, rfl, hr, hS⟩ := h.newB hO hb (by omega)
  exact ⟨j, c, o, rfl, hr, hS⟩
theorem st_Pending (h : St w0 w b g vc D R) (hq : D.C.length ≤ 100000000000) (hp : 0 < D.C.length) :
    Calls Try.prog 20 #[.pointer (some ⟨b, 0, none⟩)] w fun e w' => ∃ j c o, e = .returned (.slice (some ⟨j, 0, none⟩) D.C.length c) ∧ RowN o D.C.length c (nums D.C) ∧ St w0 w' b g vc D ((j, o) :: R) := by
  refine (dv_Pending w b g vc D h.dv hq).mono ?_
  rintro e w' ⟨u, rfl, hO, hb⟩
  obtain ⟨j, c, o, rfl, hr, hS⟩ := h.newN hO hb hp
  exact ⟨j, c, o, rfl, hr, hS⟩
theorem st_Write (i : Nat) {k c n : Nat} {o : Obj} {l : List UInt8} (num : Int) (m : Nat) (h : St w0 w b g vc D R) (hi : R[i]? = some (k, o)) (hr : RowB o n c l) (hm : m ≤ n) (hn : n ≤ 140737490452480) (hl : D.left < 9223372036854775808) (hq : D.C.length ≤ 100000000000) (hwr : D.wr < 9223372036854775807) :
    Calls Try.prog 16 #[.pointer (some ⟨b, 0, none⟩), .int .i64 num, .slice (some ⟨k, 0, none⟩) m c] w fun e w' => e = .returned (.int .i64 (wrD D num (l.take m)).1) ∧ ∃ vc', St w0 w' b g vc' (wrD D num (l.take m)).2 R := by
  refine (dv_Write w b g vc D num (some ⟨k, 0, none⟩) m c (l.take m) h.dv ((h.rd i hi hr hn).take m hm) (h.hx i hi) hl hq hwr).mono ?_
  rintro e w' ⟨rfl, vc', hV, hF⟩
  exact ⟨rfl, vc', h.fr hV hF⟩
theorem st_Flush (h : St w0 w b g vc D R) (hl : D.left < 9223372036854775808) (hq : D.C.length ≤ 100000000000) (hfl : D.fl < 9223372036854775807) :
    Calls Try.prog 21 #[.pointer (some ⟨b, 0, none⟩)] w fun e w' => e = .returned (.int .i64 (flD D).1) ∧ ∃ vc', St w0 w' b g vc' (flD D).2 R := by
  refine (dv_Flush w b g vc D h.dv hl hq hfl).mono ?_
  rintro e w' ⟨rfl, vc', hV, hF⟩
  exact ⟨rfl, vc', h.fr hV hF⟩
theorem st_Edit (i : Nat) {k c n : Nat} {o : Obj} {l : List UInt8} (num at_ : Int) (m : Nat) (h : St w0 w b g vc D R) (hi : R[i]? = some (k, o)) (hr : RowB o n c l) (hm : m ≤ n) (hn : n ≤ 140737490452480) (hat : -9223372036854775808 ≤ at_ ∧ at_ < 9223372036854775808) :
    Calls Try.prog 18 #[.pointer (some ⟨b, 0, none⟩), .int .i64 num, .int .i64 at_, .slice (some ⟨k, 0, none⟩) m c] w fun e w' => e = .returned (.int .i64 (edD D num at_ (l.take m)).1) ∧ St w0 w' b g vc (edD D num at_ (l.take m)).2 R := by
  refine (dv_Edit w b g vc D num at_ (some ⟨k, 0, none⟩) m c (l.take m) h.dv ((h.rd i hi hr hn).take m hm) hat).mono ?_
  rintro e w' ⟨rfl, hV, hF⟩
  exact ⟨rfl, h.fr hV hF⟩
end
theorem st_lives (w : World) : Calls Try.prog 14 #[] w fun e w' => ∃ b g vc, e = .returned (.pointer (some ⟨b, 0, none⟩)) ∧ St w w' b g vc liveD [] := by
  refine (l6_lives w).mono ?_
  rintro e w' ⟨b, g, vc, rfl, hV, hs, hb⟩
  exact ⟨b, g, vc, rfl, St.of hV hs hb⟩
end Go.Proofs.Ytjbffahmjhbpjaa
/- Slices of the call's own beside a device and rows: nil, or in one block; append of one element. -/
set_option linter.unusedVariables false
set_option linter.unusedSimpArgs false
set_option maxRecDepth 100000
namespace Go.Proofs.Ytjbffahmjhbpjaa
open Go.RowKit
def RowZ (t : TypeId) (sz : Nat) (o : Obj) (n c : Nat) (vs : List Value) : Prop := ∃ cur : Array Value, o = .cells cur t (0, 0) ∧ vs.length = n * sz ∧ n ≤ c ∧ c ≤ maxLen ∧ cur.size = c * sz ∧ cur.toList.take (n * sz) = vs
/-- a slice of the call's own: nil, or in the one block of Q -/
def QV (t : TypeId) (sz : Nat) (v : Value) (n : Nat) (vs : List Value) (Q : List (Nat × Obj)) : Prop :=
  (v = .slice none 0 0 ∧ n = 0 ∧ vs = [] ∧ Q = []) ∨ ∃ k c o, v = .slice (some ⟨k, 0, none⟩) n c ∧ Q = [(k, o)] ∧ RowZ t sz o n c vs
theorem QV.nil (t : TypeId) (sz : Nat) : QV t sz (.slice none 0 0) 0 [] [] := .inl ⟨rfl, rfl, rfl, rfl⟩
theorem RowZ.owns {t : TypeId} {sz k n c base : Nat} {o : Obj} {vs : List Value} {w : World} (h : RowZ t sz o n c vs) (hk : w.heap[k]? = some o) (hb : base ≤ k) : w.ownsRow base t sz (.slice (some ⟨k, 0, none⟩) n c) n vs := by
  obtain ⟨cur, rfl, h1, h2, h3, h4, h5⟩ := h
  exact ⟨h1, .inr ⟨k, c, cur, rfl, hb, hk, h2, h3, h4, h5⟩⟩
theorem RowZ.of {t : TypeId} {sz n base : Nat} {vs : List Value} {v : Value} {w : World} (h : w.ownsRow base t sz v n vs) (hn : 0 < n) : ∃ k c o, v = .slice (some ⟨k, 0, none⟩) n c ∧ w.heap[k]? = some o ∧ RowZ t sz o n c vs := by
  rcases h.2 with ⟨_, h0⟩ | ⟨g, cap, cur, rfl, hb, hh, h1, h2, h3, h4⟩
  · omega
  · exact ⟨g, cap, _, rfl, hh, cur, rfl, h.1, h1, h2, h3, h4⟩
theorem QV.owns {t : TypeId} {sz n : Nat} {vs : List Value} {v : Value} {Q : List (Nat × Obj)} {w : World} (h : QV t sz v n vs Q) (hQ : ∀ p ∈ Q, w.heap[p.1]? = some p.2) : w.ownsRow 0 t sz v n vs := by
  rcases h with ⟨rfl, rfl, rfl, rfl⟩ | ⟨k, c, o, rfl, rfl, hr⟩
  · exact World.ownsRow_nil _ _ _ _
  · exact hr.owns (hQ (k, o) (by simp)) (Nat.zero_le _)
theorem QV.slice {t : TypeId} {sz n : Nat} {vs : List Value} {v : Value} {Q : List (Nat × Obj)} (h : QV t sz v n vs Q) : ∃ A c, v = .slice A n c := by
  rcases h with ⟨rfl, rfl, rfl, rfl⟩ | ⟨k, c, o, rfl, rfl, hr⟩
  · exact ⟨none, 0, rfl⟩
  · exact ⟨_, c, rfl⟩
section
variable {w0 w w' : World} {b g : Nat} {vc : Value} {D : DS} {R : List (Nat × Obj)}
theorem St.perm {R' : List (Nat × Obj)} (h : St w0 w b g vc D R) (hp : R.Perm R') : St w0 w b g vc D R' :=
  ⟨h.dv, ⟨fun p hp' => h.kp.all p (hp.mem_iff.2 hp'), fun p hp' => h.kp.out p (hp.mem_iff.2 hp'), (hp.map Prod.fst).nodup_iff.1 h.kp.nd⟩, h.bl, h.sl, fun p hp' => h.rl p (hp.mem_iff.2 hp')⟩
theorem St.cons' (h : St w0 w b g vc D R) {k : Nat} {o : Obj} (hne : ∀ p ∈ R, p.1 ≠ k) (hS : k ∉ dvS b g vc) (hge : w0.heap.size ≤ k) (ho : w.heap[k]? = some o) : St w0 w b g vc D ((k, o) :: R) := by
  refine ⟨h.dv, ⟨fun p hp => ?_, fun p hp => ?_, ?_⟩, h.bl, h.sl, fun p hp => ?_⟩
  · rcases List.mem_cons.1 hp with rfl | hp
    · exact ho
    · exact h.kp.all p hp
  · rcases List.mem_cons.1 hp with rfl | hp
    · exact hS
    · exact h.kp.out p hp
  · rw [List.map_cons, List.nodup_cons]
    refine ⟨fun hm => ?_, h.kp.nd⟩
    obtain ⟨p, hp, he⟩ := List.mem_map.1 hm
    exact hne p hp he
  · rcases List.mem_cons.1 hp with rfl | hp
    · exact hge
    · exact h.rl p hp
/-- what a growing append leaves of the state -/
theorem St.appQ {t : TypeId} {sz n : Nat} {vs vs1 : List Value} {v v1 : Value} {P Q T : List (Nat × Obj)} (h : St w0 w b g vc D (P ++ (Q ++ T))) (hQ : QV t sz v n vs Q)
    (ho : w'.ownsRow 0 t sz v1 (n + 1) vs1) (hg : w.grownBy w' v.ownBlock) (hat : v1.ownBlock = v.ownBlock ∨ v1.ownBlock = some w.heap.size) : ∃ Q1, QV t sz v1 (n + 1) vs1 Q1 ∧ St w0 w' b g vc D (P ++ (Q1 ++ T)) := by
  obtain ⟨k1, c1, o1, rfl, hk1, hr1⟩ := RowZ.of ho (by omega)
  refine ⟨[(k1, o1)], .inr ⟨k1, c1, o1, rfl, rfl, hr1⟩, ?_⟩
  have fresh : ∀ w2 : World, w2 = w' → ∀ R', St w0 w' b g vc D R' → (∀ p ∈ R', p.1 < w.heap.size) → k1 = w.heap.size → R' = P ++ T → St w0 w' b g vc D (P ++ ([(k1, o1)] ++ T)) := by
    rintro _ _ R' hS hlt hk rfl
    refine (hS.cons' (k := k1) (o := o1) (fun p hp e => by have := hlt p hp; omega) (fun hm => by have := h.dv.lt k1 hm; omega) (by have := h.bl.size; omega) hk1).perm ?_
    exact List.perm_middle.symm
  rcases hQ with ⟨rfl, rfl, rfl, rfl⟩ | ⟨k, c, o, rfl, rfl, hr⟩
  · have hk : k1 = w.heap.size := by
      rcases hat with h1 | h1
      · simp [Value.ownBlock] at h1
      · simpa [Value.ownBlock] using h1
    have hb : Below w.heap.size w w' := ⟨hg.os, hg.tape, hg.output, hg.size, fun i hi => hg.block i hi (by simp [Value.ownBlock])⟩
    refine fresh w' rfl _ (h.below hb) (fun p hp => lt_of_block (h.kp.all p hp)) hk (by simp)
  · have hkl : k < w.heap.size := lt_of_block (h.kp.all (k, o) (by simp))
    have hO : Only [k] w w' := ⟨hg.os, hg.tape, hg.output, hg.size, fun i hi hn => hg.block i hi (by simp [Value.ownBlock]; simpa using fun e => hn (by simp [e]))⟩
    have hidx : (P ++ ([(k, o)] ++ T))[P.length]? = some (k, o) := by rw [List.getElem?_append_right (Nat.le_refl _), Nat.sub_self]; rfl
    have hset : ∀ o' : Obj, (P ++ ([(k, o)] ++ T)).set P.length (k, o') = P ++ ([(k, o')] ++ T) := fun o' => by
      rw [List.set_append_right _ _ (Nat.le_refl _), Nat.sub_self]; rfl
    have hw' : k < w'.heap.size := Nat.lt_of_lt_of_le hkl hg.size
    rcases hat with h1 | h1
    · have hkk : k1 = k := by simpa [Value.ownBlock] using h1
      subst hkk
      have h2 := h.upd P.length hidx hO hk1
      rwa [hset] at h2
    · have hkk : k1 = w.heap.size := by simpa [Value.ownBlock] using h1
      have h2 := h.upd P.length hidx hO (o' := w'.heap[k]) (by rw [Array.getElem?_eq_getElem hw'])
      rw [hset] at h2
      have h3 := h2.sub (R' := P ++ T) (List.Sublist.append (List.Sublist.refl _) (List.sublist_cons_self _ _))
      refine fresh w' rfl _ h3 (fun p hp => ?_) hkk rfl
      rcases List.mem_append.1 hp with hp | hp
      · exact lt_of_block (h.kp.all p (by simp [hp]))
      · exact lt_of_block (h.kp.all p (by simp [hp]))
end
section
variable {ops : Array Oper} {rest : List Oper} {o : Oper} {a : Act} {Q' : Exit → Act → World → Prop}
/-- append(v, e): one element, behind its box -/
theorem wp_appQ {w0 W : World} {b g : Nat} {vc : Value} {D : DS} {tS t : TypeId} {i0 : TypeInfo} {z : Value} {sz bytes : Nat} (ht : Try.prog.underlying tS = some (.slice t)) (hi : Try.prog.info? t = some i0) (hz0 : i0.zero = some z) (hz1 : i0.size = sz) (hz2 : i0.bytes = bytes) (hzs : z.cells.size = sz) (hsz : 0 < sz)
    {v : Value} {n : Nat} {vs : List Value} {P Q T : List (Nat × Obj)} (hS : St w0 W b g vc D (P ++ (Q ++ T))) (hQ : QV t sz v n vs Q) (news : List Value) (hnl : news.length = sz) (h1 : ∀ u ∈ news, u.oneCell' = true) (hlim : (n + 1) * bytes ≤ 140737488355328) (hmax : n + 1 ≤ maxLen)
    (s x : Operand) (hgd : o.guard = none) (ho : o.op = .call { callee := .builtin .append, args := #[s, x], argTypes := #[tS, tS] }) (hs : a.eval s = v) (hx : a.eval x = .slice (some ⟨W.heap.size, 0, none⟩) 1 1)
    (h : ∀ v1 w1 Q1, QV t sz v1 (n + 1) (vs ++ news) Q1 → St w0 w1 b g vc D (P ++ (Q1 ++ T)) → wpList Try.prog ops Q' rest (a.put o.dst v1) w1) :
    wpList Try.prog ops Q' (o :: rest) a (W.alloc (.cells news.toArray t)) := by
  have hS2 := hS.alloc (.cells news.toArray t)
  obtain ⟨v1, w1, hr, h3, h4, _, h5⟩ := run_append_own_at (P := Try.prog) (W.alloc (.cells news.toArray t)) 0 tS o.type t i0 z sz bytes ht hi hz0 hz1 hz2 hzs hsz v n vs (hQ.owns (fun p hp => hS2.kp.all p (by simp [hp]))) ⟨W.heap.size, 0, none⟩ 1 1 news (by omega) (fun j u hu => by
    rw [Addr.add_mid, Nat.zero_add, cell_of_row _ _ _ _ _ _ (heap_alloc_new W _)]
    simpa using hu) h1 hmax hlim (Nat.zero_le _)
  obtain ⟨Q1, hq, hSt⟩ := hS2.appQ hQ h3 h4 h5
  refine wpList_plain hgd fun K hK => ?_
  unfold Oper.wp execOp
  simp only [ho, resolve, invoke, builtin, Sem.run_bind, Sem.run_pure, Result.andThen_ok, List.map_toArray, List.map_cons, List.map_nil, hs, hx, hr]
  exact hK _ _ (h v1 w1 Q1 hq hSt)
end
end Go.Proofs.Ytjbffahmjhbpjaa
/- The device's Crash: fates, and what each write leaves. -/
set_option linter.unusedVariables false
set_option linter.unusedSimpArgs false
set_option maxRecDepth 100000
namespace Go.Proofs.Ytjbffahmjhbpjaa
open Go.RowKit
structure Ft where
  kind : Int
  at_ : Int
instance : Inhabited Ft := ⟨⟨0, 0⟩⟩
/-- The cells of a slice of fates hold the list l. -/
structure RdF (w : World) (A : Option Addr) (n c : Nat) (l : List Ft) : Prop where
  len : l.length = n
  cap : n ≤ c
  max : n ≤ 140737488355328
  at_ : 0 < n → ∃ b o, A = some ⟨b, o, none⟩ ∧ ∀ j, j < n → w.cell? ⟨b, o + j * 2, none⟩ = some (.int .i64 (l.getD j default).kind) ∧ w.cell? ⟨b, o + j * 2 + 1, none⟩ = some (.int .i64 (l.getD j default).at_)
theorem RdF.nil (w : World) : RdF w none 0 0 [] := ⟨rfl, Nat.le_refl _, by omega, fun hp => absurd hp (by omega)⟩
theorem RdF.only {S : List Nat} {w w' : World} {A : Option Addr} {n c : Nat} {l : List Ft} (h : RdF w A n c l) (hw : Only S w w') (hx : 0 < n → ∀ p, A = some p → p.block ∉ S) : RdF w' A n c l :=
  ⟨h.len, h.cap, h.max, fun hn => by
    obtain ⟨b, o, e, hc⟩ := h.at_ hn
    have hb := hx hn _ e
    refine ⟨b, o, e, fun j hj => ?_⟩
    have h1 := hc j hj
    have hlt := World.block_lt_of_cell? w _ h1.1
    have h2 := hw.blk b hlt hb
    exact ⟨(World.cell?_of_block (w := w) (a := ⟨b, o + j * 2, none⟩) h2).trans h1.1, (World.cell?_of_block (w := w) (a := ⟨b, o + j * 2 + 1, none⟩) h2).trans h1.2⟩⟩
theorem RdF.ext {w w' : World} {A : Option Addr} {n c : Nat} {l : List Ft} (h : RdF w A n c l) (hb : Below w.heap.size w w') : RdF w' A n c l := h.only (Only.of_below [] hb) (by simp)
def ftN (f : Ft) : Nat := if f.kind = 1 then 512 else if f.kind = 2 then (min (max f.at_ 0) 512).toNat else 0
def ftS (f : Ft) : Bool := decide (f.kind = 1 ∨ f.kind = 2)
def crN (l : List Ft) (i : Nat) : Nat := if i < l.length then ftN (l.getD i default) else 0
def crS (l : List Ft) (i : Nat) : Bool := if i < l.length then ftS (l.getD i default) else false
def crT (l : List Ft) : Nat → Nat
  | 0 => 0
  | n + 1 => crT l n + (if crS l n then 1 else 0)
theorem crN_le (l : List Ft) (i : Nat) : crN l i ≤ 512 := by
  unfold crN ftN
  split
  · split
    · omega
    · split <;> omega
  · omega
theorem crT_le (l : List Ft) : ∀ n, crT l n ≤ n
  | 0 => Nat.le_refl _
  | n + 1 => by
    have := crT_le l n
    rw [crT]; split <;> omega
theorem dv_crash1 (w : World) (q : Nat) (A : Option Addr) (n c : Nat) (l : List Ft) (i : Nat) (hi : i ≤ 100000000000) (hq : w.cell? ⟨q, 0, none⟩ = some (.slice A n c)) (hr : RdF w A n c l) :
    Calls Try.prog 40 #[.int .i64 i, .pointer (some ⟨q, 0, none⟩)] w fun e w' => e = .returned (.tuple #[.int .i64 (crN l i : Nat), .bool (crS l i)]) ∧ Below w.heap.size w w' := by
  have hlen := hr.len
  have hmx := hr.max
  by_cases h : i < n
  · obtain ⟨bb, oo, rfl, hc⟩ := hr.at_ (by omega)
    obtain ⟨h1, h2⟩ := hc i h
    obtain ⟨f, hf⟩ : ∃ f, f = l.getD i default := ⟨_, rfl⟩
    have HCN := Lib.hid (show crN l i = ftN f by rw [crN, if_pos (by omega), hf])
    have HCS := Lib.hid (show crS l i = ftS f by rw [crS, if_pos (by omega), hf])
    rw [← hf] at h1 h2
    rw [HCN.out, HCS.out]
    have hii : (0 : Int) ≤ (i : Int) ∧ (i : Int) < (n : Int) := by omega
    obtain ⟨kd, at_⟩ := f
    have hb := World.block_lt_of_cell? w _ h1
    clear hc hr hlen hf
    by_cases hk1 : kd = 1
    · subst hk1
      go_enter Try.func40, Try.ntmps40
      go_wp2
      go_ret2
      exact ⟨rfl, by first | exact ((Below.refl _ w).alloc (Nat.le_refl _) _) | exact (((Below.refl _ w).alloc (Nat.le_refl _) _).setCell (by simp) _).setCell (by simp) _⟩
    · by_cases hk2 : kd = 2
      · subst hk2
        rw [show ftS ⟨2, at_⟩ = true by rw [ftS, decide_eq_true]; simp]
        have HN := Lib.hid (show ftN ⟨2, at_⟩ = (min (max at_ 0) 512).toNat by rw [ftN, if_neg (by show ¬ ((2 : Int) = 1); decide), if_pos rfl])
        rcases (by omega : at_ < 0 ∨ (0 ≤ at_ ∧ at_ ≤ 512) ∨ 512 < at_) with h3 | ⟨h3, h4⟩ | h3
        · rw [show ((ftN ⟨2, at_⟩ : Nat) : Int) = 0 by rw [HN.out]; omega]
          go_enter Try.func40, Try.ntmps40
          go_wp2
          go_ret2
          exact ⟨rfl, by first | exact ((Below.refl _ w).alloc (Nat.le_refl _) _) | exact (((Below.refl _ w).alloc (Nat.le_refl _) _).setCell (by simp) _).setCell (by simp) _⟩
        · rw [show ((ftN ⟨2, at_⟩ : Nat) : Int) = at_ by rw [HN.out]; omega]
          go_enter Try.func40, Try.ntmps40
          go_wp2
          go_ret2
          exact ⟨rfl, by first | exact ((Below.refl _ w).alloc (Nat.le_refl _) _) | exact (((Below.refl _ w).alloc (Nat.le_refl _) _).setCell (by simp) _).setCell (by simp) _⟩
        · rw [show ((ftN ⟨2, at_⟩ : Nat) : Int) = 512 by rw [HN.out]; omega]
          go_enter Try.func40, Try.ntmps40
          go_wp2
          go_ret2
          exact ⟨rfl, by first | exact ((Below.refl _ w).alloc (Nat.le_refl _) _) | exact (((Below.refl _ w).alloc (Nat.le_refl _) _).setCell (by simp) _).setCell (by simp) _⟩
      · have e1 : (kd == 1) = false := by simp [hk1]
        have e2 : (kd == 2) = false := by simp [hk2]
        have HF := Lib.hid (show ftN ⟨kd, at_⟩ = 0 by rw [ftN, if_neg hk1, if_neg hk2])
        have HG := Lib.hid (show ftS ⟨kd, at_⟩ = false by rw [ftS, decide_eq_false]; simp [hk1, hk2])
        rw [HF.out, HG.out]
        clear hk1 hk2
        go_enter Try.func40, Try.ntmps40
        go_wp2
        go_ret2
        exact ⟨rfl, by first | exact ((Below.refl _ w).alloc (Nat.le_refl _) _) | exact (((Below.refl _ w).alloc (Nat.le_refl _) _).setCell (by simp) _).setCell (by simp) _⟩
  · rw [crN, crS, if_neg (by omega), if_neg (by omega)]
    clear hr hlen
    go_enter Try.func40, Try.ntmps40
    go_wp2
    go_ret2
    exact ⟨rfl, Below.refl _ _⟩
theorem splice_lenS {α : Type} (M X : List α) (off : Nat) (h : off + X.length ≤ M.length) : (splice M off X).length = M.length := by
  simp [splice]; omega
theorem dv_settleC (w : World) (b g : Nat) (vc : Value) (D : DS) (q n c : Nat) (A : Option Addr) (l : List Ft) (h : IsV w b g vc D) (hq : D.C.length ≤ 100000000000) (hcq : w.cell? ⟨q, 0, none⟩ = some (.slice A n c)) (hqS : q ∉ dvS b g vc) (hr : RdF w A n c l) (hx : 0 < n → ∀ p, A = some p → p.block ∉ dvS b g vc) :
    Calls Try.prog 37 #[.pointer (some ⟨b, 0, none⟩), .func (.func 40) #[] #[.pointer (some ⟨q, 0, none⟩)]] w fun e w' => e = .returned (.int .i64 (crT l D.C.length : Nat)) ∧
      IsV w' b g (.slice none 0 0) { D with C := [], M := layA (crN l) 0 D.C D.M } ∧ Fr (dvS b g vc) (dvS b g (.slice none 0 0)) w w' := by
  have c1 : w.cell? ⟨b, 1, none⟩ = some vc := h.dev.cell 1
  have HV := Lib.hid h
  obtain ⟨Ac, cc, rfl⟩ := h.ca.slice
  have hbg := h.dev.ne
  have HQ := Lib.hid (And.intro hcq (And.intro (show q ∉ [g] from fun hm => hqS (by simp at hm; simp [dvS, hm])) (And.intro hr (show 0 < n → ∀ p, A = some p → p.block ∉ [g] from fun h0 p hp hm => hx h0 p hp (by simp at hm; simp [dvS, hm])))))
  clear h hcq hqS hr hx
  go_enter Try.func37, Try.ntmps37
  go_wp2_with fail
  clear c1
  go_loopw [5, 6, 7, 8, 9, 15] (fun vt _ _ _ _ x wx => ∃ j : Nat, j ≤ D.C.length ∧ x = .int .i64 j ∧ vt = .int .i64 (crT l j : Nat) ∧ IsV wx b g (.slice Ac D.C.length cc) { D with M := layA (crN l) 0 (D.C.take j) D.M } ∧ Only [g] w wx) (fun _ _ _ _ _ x _ => D.C.length - (intOf x).toNat)
  case atStart => exact ⟨0, Nat.zero_le _, rfl, rfl, HV.out, Only.refl _ _⟩
  case round =>
    obtain ⟨j, hj, rfl, rfl, hI, hO⟩ := hrel
    have HI := Lib.hid hI
    have HO := Lib.hid hO
    have c1 : wr.cell? ⟨b, 1, none⟩ = some (.slice Ac D.C.length cc) := hI.dev.cell 1
    have c0 := hI.dev.c0
    have hsm := hI.dev.small
    have hml := hI.dev.len
    by_cases hjn : j < D.C.length
    · obtain ⟨gc, cc2, hvc⟩ := hI.ca.form (by show 0 < D.C.length; omega)
      injection hvc with hv1 hv2 hv3
      subst hv1 hv3
      have hat := hI.ca.at_ j hjn
      have hpd := hI.ca.1.get j hjn
      obtain ⟨x, hxx⟩ : ∃ x, x = D.C.getD j default := ⟨_, rfl⟩
      have hn2 : wr.cell? ⟨gc, j * 513, none⟩ = some (.int .i64 ((x.num : Nat) : Int)) := by rw [hxx]; exact hat.1
      have hrg : wr.rangeAt gc (j * 513 + 1) (bv x.data) := by rw [hxx]; exact hat.2
      have hpd1 : x.num < D.n := by rw [hxx]; exact hpd.1
      have hpd2 : x.data.length = 512 := by rw [hxx]; exact hpd.2
      obtain ⟨M, hM⟩ : ∃ M, M = layA (crN l) 0 (D.C.take j) D.M := ⟨_, rfl⟩
      have HST := Lib.hid (show layA (crN l) 0 (D.C.take (j + 1)) D.M = splice M (x.num * 512) (x.data.take (crN l j)) by
        rw [takeP_snoc D.C j hjn, layA_snoc, ← hxx, ← hM]
        unfold layP
        rw [List.length_take, Nat.min_eq_left (by omega), Nat.zero_add])
      obtain ⟨N, hN⟩ : ∃ N, N = crN l j := ⟨_, rfl⟩
      have hN2 : N ≤ 512 := by rw [hN]; exact crN_le l j
      rw [← hN] at HST
      have hctj := crT_le l j
      have HCT := Lib.hid (show crT l (j + 1) = crT l j + (if crS l j then 1 else 0) from rfl)
      have HCR := Lib.hid (dv_crash1 wr q A n c l j (by omega) ((World.cell?_of_block (w := w) (a := ⟨q, 0, none⟩) (hO.blk q (World.block_lt_of_cell? w _ HQ.out.1) HQ.out.2.1)).trans HQ.out.1) (HQ.out.2.2.1.only hO HQ.out.2.2.2))
      rw [← hN] at HCR
      have hml2 : M.length = D.n * 512 := by rw [hM]; exact hml
      rw [← hM] at HI
      have HMD := Lib.hid HI.out.dev.med
      have hjj : (0 : Int) ≤ (j : Int) ∧ (j : Int) < ((D.C.length : Nat) : Int) ∧ ((D.C.length : Nat) : Int) ≤ 100000000000 := by omega
      have hxn : (0 : Int) ≤ (x.num : Int) ∧ (x.num : Int) < (D.n : Int) := by omega
      have hgne : gc ≠ g := (HI.out.nb gc rfl).2
      have hbne : b ≠ g := HI.out.dev.ne
      have HXX := Lib.hid hxx
      clear hI hO hat hpd hxx hM hml hN
      go_wp2_with fail
      refine HCR.out.mono ?_
      rintro e w2 ⟨rfl, hB2⟩
      have HIw := Lib.hid (HI.out.ext hB2)
      have HOw := Lib.hid (HO.out.trans (Only.of_below [g] hB2))
      have c0 := HIw.out.dev.c0
      have hn2 : w2.cell? ⟨gc, j * 513, none⟩ = some (.int .i64 ((x.num : Nat) : Int)) := cell_ext hB2 hn2
      have HMD := Lib.hid HIw.out.dev.med
      have hrg : w2.rangeAt gc (j * 513 + 1) (bv x.data) := fun i v hv => cell_ext hB2 (hrg i v hv)
      clear hB2
      go_wp2_with fail
      have HSRC := Lib.hid (show ∀ k v, (bv (x.data.take N))[k]? = some v → w2.drew.cell? ((⟨gc, j * 513 + 1, none⟩ : Addr).add k) = some v from fun k v hv => by
        rw [Addr.add_mid]
        refine hrg k v ?_
        have hk9 : k < N := by
          rcases Nat.lt_or_ge k N with h | h
          · exact h
          · rw [List.getElem?_eq_none (by rw [bv_length, List.length_take]; omega)] at hv; cases hv
        rw [← hv, bv, bv, List.getElem?_map, List.getElem?_map, List.getElem?_take, if_pos hk9])
      have hN3 : (0 : Int) ≤ (N : Int) ∧ (N : Int) ≤ 512 := by omega
      have HMD2 := Lib.hid (show w2.drew.heap[g]? = some (.cells (bv M).toArray 78 (0, 0)) from HMD.out)
      clear hrg
      go_region_held3 (fun w' => w'.cell? ⟨b, 0, none⟩ = some (.slice (some ⟨g, 0, none⟩) D.n D.n) ∧ w'.cell? ⟨gc, j * 513, none⟩ = some (.int .i64 ((x.num : Nat) : Int)) ∧ Only [g] w2 w')
        (first | exact ⟨f0, f1, fO⟩ | exact ⟨c0, hn2, (Only.refl _ _).drew⟩)
        (first | (refine step_copy_only rfl (.tmp 39) (.tmp 44) 29 29 rfl 5 Try.underlying29 sz_u8 g (x.num * 512) 512 512 ⟨gc, j * 513 + 1, none⟩ N 512 rfl rfl (bv M) 78 HMD2.out (bv (x.data.take N)) ?q3 HSRC.out ?q5 (bv_one _) ?_
                  (case q3 => (rw [bv_length, List.length_take, hpd2, Nat.min_eq_left hN2]; exact (Nat.min_eq_left hN2).symm))
                  (case q5 => (rw [bv_length, bv_length, hml2, List.length_take]; omega))
                  intro w3 hg3 ho3
                  rw [splice_bv] at hg3
                  have fO : Only [g] w2 w3 := ((Only.refl [g] w2).drew).trans ho3
                  have HP := Lib.hid (HIw.out.setMed fO hg3 (by rw [splice_lenS _ _ _ (by rw [hml2, List.length_take]; omega)]))
                  have f0 := HP.out.1.dev.c0
                  have f1 := (HP.out.1.ca.at_ j hjn).1
                  rw [← HXX.out] at f1
                  clear ho3 hg3))
      rename_i hHeld
      clear hHeld
      cases hcs : crS l j with
      | true =>
        have HC2 := Lib.hid (show ((crT l (j + 1) : Nat) : Int) = (crT l j : Int) + 1 by rw [HCT.out, hcs]; simp)
        clear hcs HCT
        go_wp2
        go_roundw
        case rel => exact ⟨j + 1, by omega, by go_num, by rw [HC2.out]; try go_num, by rw [HST.out]; exact HP.out.1, HOw.out.trans fO⟩
        case measure => simp [intOf]; omega
      | false =>
        have HC2 := Lib.hid (show ((crT l (j + 1) : Nat) : Int) = (crT l j : Int) by rw [HCT.out, hcs]; simp)
        clear hcs HCT
        go_wp2
        go_roundw
        case rel => exact ⟨j + 1, by omega, by go_num, by rw [HC2.out], by rw [HST.out]; exact HP.out.1, HOw.out.trans fO⟩
        case measure => simp [intOf]; omega
    · obtain rfl : D.C.length = j := by omega
      have HT := Lib.hid (show layA (crN l) 0 (D.C.take D.C.length) D.M = layA (crN l) 0 D.C D.M by rw [List.take_length])
      have f1 := frozen_of_row wr b 1 _ _ hI.dev.st
      rw [HT.out] at hI
      have HD := Lib.hid hI.noCache
      clear hI HI
      go_wp2
      go_ret
      exact ⟨by simp, HD.out.1, (Fr.of_med hbg HO.out).trans HD.out.2⟩
def crD (D : DS) (l : List Ft) : DS := { D with C := [], M := layA (crN l) 0 D.C D.M, down := false, armed := false, left := 0 }
theorem dv_Crash (w : World) (b g : Nat) (vc : Value) (D : DS) (n c : Nat) (A : Option Addr) (l : List Ft) (h : IsV w b g vc D) (hq : D.C.length ≤ 100000000000) (hr : RdF w A n c l) (hx : 0 < n → ∀ p, A = some p → p.block ∉ dvS b g vc) :
    Calls Try.prog 25 #[.pointer (some ⟨b, 0, none⟩), .slice A n c] w fun e w' => e = .returned (.int .i64 (crT l D.C.length : Nat)) ∧ IsV w' b g (.slice none 0 0) (crD D l) ∧ Fr (dvS b g vc) (dvS b g (.slice none 0 0)) w w' := by
  have hB : Below w.heap.size w (w.alloc (.cells #[.slice A n c] 45)) := (Below.refl _ w).alloc (Nat.le_refl _) _
  have HB := Lib.hid hB
  have HS := Lib.hid (dv_settleC (w.alloc (.cells #[.slice A n c] 45)) b g vc D w.heap.size n c A l (h.ext hB) hq (by rw [cell_of_row _ _ _ _ _ _ (heap_alloc_new w _)]; rfl) (fun hm => by have := h.lt _ hm; omega) (hr.ext hB) hx)
  clear h hq hr hx hB
  go_enter Try.func25, Try.ntmps25
  go_wp2_with fail
  refine HS.out.mono ?_
  rintro e w1 ⟨rfl, hV, hF⟩
  have c2 : w1.cell? ⟨b, 2, none⟩ = some (.int .i64 (D.left : Int)) := hV.dev.cell 2
  have c3 : w1.cell? ⟨b, 3, none⟩ = some (.bool D.armed) := hV.dev.cell 3
  have c4 : w1.cell? ⟨b, 4, none⟩ = some (.bool D.down) := hV.dev.cell 4
  have f2 := frozen_of_row w1 b 2 _ _ hV.dev.st
  have f3 := frozen_of_row w1 b 3 _ _ hV.dev.st
  have f4 := frozen_of_row w1 b 4 _ _ hV.dev.st
  have S1 := hV.store 4 (.bool false) { D with C := [], M := layA (crN l) 0 D.C D.M, down := false } rfl rfl rfl rfl
  have S2 := S1.1.store 3 (.bool false) { D with C := [], M := layA (crN l) 0 D.C D.M, down := false, armed := false } rfl rfl rfl rfl
  have S3 := S2.1.store 2 (.int .i64 0) (crD D l) rfl rfl rfl rfl
  have HE := Lib.hid (And.intro S3.1 (((Fr.below _ HB.out).trans hF).trans ((S1.2.trans S2.2).trans S3.2)))
  clear hV hF S1 S2 S3 HS
  go_wp2
  go_ret
  exact ⟨rfl, HE.out.1, HE.out.2⟩
end Go.Proofs.Ytjbffahmjhbpjaa
/- A script of steps on a device, as it lies in memory. -/
set_option linter.unusedVariables false
set_option linter.unusedSimpArgs false
namespace Go.Proofs.Ytjbffahmjhbpjaa
open Go.RowKit
structure OpD where
  two : Bool
  kind : Int
  blk : Int
  num : Int
  len : Int
  fill : UInt8
  B : List UInt8
  F : List Ft
instance : Inhabited OpD := ⟨⟨false, 0, 0, 0, 0, 0, [], []⟩⟩
def i64B (x : Int) : Prop := -9223372036854775808 ≤ x ∧ x < 9223372036854775808
def OpD.ok (x : OpD) : Prop := i64B x.kind ∧ i64B x.blk ∧ i64B x.num ∧ i64B x.len ∧ x.B.length ≤ 140737488351232 ∧ x.F.length ≤ 8796093022207
/-- a step lies at a place -/
structure OpAt (w : World) (b o : Nat) (x : OpD) : Prop where
  ok : x.ok
  c0 : w.cell? ⟨b, o, none⟩ = some (.bool x.two)
  c1 : w.cell? ⟨b, o + 1, none⟩ = some (.int .i64 x.kind)
  c2 : w.cell? ⟨b, o + 2, none⟩ = some (.int .i64 x.blk)
  c3 : w.cell? ⟨b, o + 3, none⟩ = some (.int .i64 x.num)
  c4 : w.cell? ⟨b, o + 4, none⟩ = some (.int .i64 x.len)
  c5 : w.cell? ⟨b, o + 5, none⟩ = some (.int .u8 (x.fill.toNat : Int))
  c6 : ∃ A n c, w.cell? ⟨b, o + 6, none⟩ = some (.slice A n c) ∧ Rd w A n c x.B
  c7 : ∃ A n c, w.cell? ⟨b, o + 7, none⟩ = some (.slice A n c) ∧ RdF w A n c x.F
structure RdO (w : World) (A : Option Addr) (n c : Nat) (l : List OpD) : Prop where
  len : l.length = n
  cap : n ≤ c
  max : n ≤ 140737488355328
  at_ : 0 < n → ∃ b o, A = some ⟨b, o, none⟩ ∧ ∀ j, j < n → OpAt w b (o + j * 8) (l.getD j default)
theorem OpAt.ext {w w' : World} {b o : Nat} {x : OpD} (h : OpAt w b o x) (hb : Below w.heap.size w w') : OpAt w' b o x := by
  obtain ⟨A6, n6, c6, h6, r6⟩ := h.c6
  obtain ⟨A7, n7, c7, h7, r7⟩ := h.c7
  exact ⟨h.ok, cell_ext hb h.c0, cell_ext hb h.c1, cell_ext hb h.c2, cell_ext hb h.c3, cell_ext hb h.c4, cell_ext hb h.c5, ⟨A6, n6, c6, cell_ext hb h6, r6.ext hb⟩, ⟨A7, n7, c7, cell_ext hb h7, r7.ext hb⟩⟩
theorem RdO.ext {w w' : World} {A : Option Addr} {n c : Nat} {l : List OpD} (h : RdO w A n c l) (hb : Below w.heap.size w w') : RdO w' A n c l :=
  ⟨h.len, h.cap, h.max, fun hn => by
    obtain ⟨b, o, e, hc⟩ := h.at_ hn
    exact ⟨b, o, e, fun j hj => (hc j hj).ext hb⟩⟩
end Go.Proofs.Ytjbffahmjhbpjaa
/- DevArmed, its parts: sameInts, Read refused, the cache's numbers beside a state, the states. -/
set_option linter.unusedVariables false
set_option linter.unusedSimpArgs false
set_option maxRecDepth 100000
namespace Go.Proofs.Ytjbffahmjhbpjaa
open Go.RowKit
theorem ret_bool {a b : Bool} (h : a = b) : Ending.returned (.bool a) = .returned (.bool b) := by rw [h]
theorem l6_sameInts {D D' : List Nat} {A A' : Option Addr} {n c n' c' : Nat} {l l' : List Int} (w : World) (hr : RdI D w A n c l) (hr' : RdI D' w A' n' c' l') :
    Calls Try.prog 29 #[.slice A n c, .slice A' n' c'] w fun e w' => e = .returned (.bool (decide (l = l'))) ∧ Only [] w w' := by
  have hm := hr.max
  have hl := hr.len
  have hm' := hr'.max
  have hl' := hr'.len
  have HR := Lib.hid hr
  have HR' := Lib.hid hr'
  clear hr hr'
  by_cases hnn : n = n'
  · subst hnn
    go_enter Try.func29, Try.ntmps29
    go_wp2_with fail
    go_loopw [4, 5] (fun _ x wr => ∃ k : Nat, k ≤ n ∧ x = .int .i64 k ∧ (∀ i, i < k → l.getD i 0 = l'.getD i 0) ∧ Only [] w wr) (fun _ x _ => n - (intOf x).toNat)
    case atStart => exact ⟨0, by omega, rfl, fun i hi => absurd hi (by omega), Only.refl _ _⟩
    case round =>
      obtain ⟨k, hk, rfl, hok, hO⟩ := hrel
      have HOK := Lib.hid hok
      clear hok
      by_cases hkn : k < n
      · obtain ⟨b0, o, rfl, _, hc⟩ := HR.out.at_ (by omega)
        obtain ⟨b1, o1, rfl, _, hc1⟩ := HR'.out.at_ (by omega)
        have hcell := cell_ext (hO.below (Nat.le_refl _) (by simp)) (hc k hkn)
        have hcell1 := cell_ext (hO.below (Nat.le_refl _) (by simp)) (hc1 k hkn)
        obtain ⟨t, ht⟩ : ∃ t, t = l.getD k 0 := ⟨_, rfl⟩
        rw [← ht] at hcell
        obtain ⟨t', ht'⟩ : ∃ t, t = l'.getD k 0 := ⟨_, rfl⟩
        rw [← ht'] at hcell1
        have HT := Lib.hid ht
        have HT' := Lib.hid ht'
        clear ht hc ht' hc1
        by_cases h1 : t = t'
        · have HN := Lib.hid h1
          have q1 : (t == t') = true := by simpa using h1
          clear h1
          go_wp2_with fail
          go_quiet (fail)
          all_goals go_wp2
          refine ⟨⟨k + 1, by omega, by go_num, fun i hi => ?_, hO.drewN _⟩, by simp [intOf]; omega⟩
          by_cases e : i < k
          · exact HOK.out i e
          · obtain rfl : i = k := by omega
            rw [← HT.out, ← HT'.out]; exact HN.out
        · have HB := Lib.hid (show decide (l = l') = false from decide_eq_false (fun e => h1 (by rw [HT.out, HT'.out, e])))
          have q1 : (t == t') = false := by simpa using h1
          clear h1
          go_wp2_with fail
          go_quiet (fail)
          all_goals go_wp2
          go_ret
          exact ⟨ret_bool HB.out.symm, by first | exact Only.refl _ _ | exact hO | exact hO.drewN _⟩
      · obtain rfl : k = n := by omega
        have HB := Lib.hid (show decide (l = l') = true from decide_eq_true (by
          apply List.ext_getElem (by omega)
          intro i h1 h2
          have := HOK.out i (by omega)
          simpa [List.getD_eq_getElem?_getD, List.getElem?_eq_getElem h1, List.getElem?_eq_getElem h2] using this))
        go_wp2
        go_ret
        exact ⟨ret_bool HB.out.symm, by first | exact Only.refl _ _ | exact hO | exact hO.drewN _⟩
  · have HB := Lib.hid (show decide (l = l') = false from decide_eq_false (fun e => hnn (by rw [← hl, ← hl', e])))
    go_enter Try.func29, Try.ntmps29
    go_wp2
    go_ret
    exact ⟨ret_bool HB.out.symm, by first | exact Only.refl _ _ | exact hO | exact hO.drewN _⟩
theorem dv_Read_bad (w : World) (b g : Nat) (vc : Value) (D : DS) (num : Int) (h : IsV w b g vc D) (hn : ¬ (0 ≤ num ∧ num < (D.n : Int))) :
    Calls Try.prog 19 #[.pointer (some ⟨b, 0, none⟩), .int .i64 num] w fun e w' => e = .returned (.tuple #[.slice none 0 0, .int .i64 60]) ∧ w' = w := by
  have HH := Lib.hid (dv_has w b g vc D num h)
  rw [decide_eq_false hn] at HH
  clear h hn
  go_enter Try.func19, Try.ntmps19
  go_wp2_with fail
  refine HH.out.mono ?_
  rintro e w1 ⟨rfl, rfl⟩
  go_wp2
  go_ret2
  exact ⟨rfl, rfl⟩
theorem dv_Read_down (w : World) (b g : Nat) (vc : Value) (D : DS) (num : Int) (h : IsV w b g vc D) (hn : 0 ≤ num ∧ num < (D.n : Int)) (hd : D.down = true) :
    Calls Try.prog 19 #[.pointer (some ⟨b, 0, none⟩), .int .i64 num] w fun e w' => e = .returned (.tuple #[.slice none 0 0, .int .i64 6]) ∧ w' = w := by
  have HH := Lib.hid (dv_has w b g vc D num h)
  rw [decide_eq_true hn] at HH
  have c4 : w.cell? ⟨b, 4, none⟩ = some (.bool D.down) := h.dev.cell 4
  rw [hd] at c4
  clear h hn hd
  go_enter Try.func19, Try.ntmps19
  go_wp2_with fail
  refine HH.out.mono ?_
  rintro e w1 ⟨rfl, rfl⟩
  go_wp2
  go_ret2
  exact ⟨rfl, rfl⟩
section
variable {w0 w : World} {b g : Nat} {vc : Value} {D : DS} {R : List (Nat × Obj)}
/-- the cache's numbers, none or some: R1 holds their row -/
theorem st_PendN (h : St w0 w b g vc D R) (hq : D.C.length ≤ 100000000000) :
    Calls Try.prog 20 #[.pointer (some ⟨b, 0, none⟩)] w fun e w' => ∃ A c R1, e = .returned (.slice A D.C.length c) ∧ (∀ W : World, (∀ p ∈ R1, W.heap[p.1]? = some p.2) → RdI [] W A D.C.length c (nums D.C)) ∧ St w0 w' b g vc D (R ++ R1) := by
  refine (dv_Pending w b g vc D h.dv hq).mono ?_
  rintro e w' ⟨u, rfl, hO, hb⟩
  rcases Nat.eq_zero_or_pos D.C.length with h0 | hp
  · rcases hO.2 with ⟨rfl, _⟩ | ⟨k, cap, cur, rfl, hbk, hh, h1, h2, h3, h4⟩
    · have hn : nums D.C = [] := List.eq_nil_of_length_eq_zero (by rw [nums_len, h0])
      exact ⟨none, 0, [], by rw [h0], fun W _ => by rw [h0, hn]; exact RdI.nil _ W, by rw [List.append_nil]; exact h.below hb⟩
    · have hn : nums D.C = [] := List.eq_nil_of_length_eq_zero (by rw [nums_len, h0])
      exact ⟨_, cap, [], rfl, fun W _ => ⟨hO.len, h1, by omega, fun hp => by omega⟩, by rw [List.append_nil]; exact h.below hb⟩
  · obtain ⟨k, c, o, rfl, hr, hS⟩ := h.newN hO hb hp
    refine ⟨_, c, [(k, o)], rfl, fun W hW => ?_, hS.back⟩
    have h2 : RowN o D.C.length c (nums D.C) := hr
    exact OwnI.rdA [] (h2.own (hW (k, o) (by simp))) (by omega) (by simp)
theorem st_Arm (k : Int) (h : St w0 w b g vc D R) :
    Calls Try.prog 30 #[.pointer (some ⟨b, 0, none⟩), .int .i64 k] w fun e w' => e = .returned (.int .i64 (armD D k).1) ∧ St w0 w' b g vc (armD D k).2 R := by
  refine (dv_Arm w b g vc D k h.dv).mono ?_
  rintro e w' ⟨rfl, hV, hF⟩
  exact ⟨rfl, h.fr hV hF⟩
theorem st_WriteNil (num : Int) (h : St w0 w b g vc D R) (hl : D.left < 9223372036854775808) (hq : D.C.length ≤ 100000000000) (hwr : D.wr < 9223372036854775807) :
    Calls Try.prog 16 #[.pointer (some ⟨b, 0, none⟩), .int .i64 num, .slice none 0 0] w fun e w' => e = .returned (.int .i64 (wrD D num []).1) ∧ ∃ vc', St w0 w' b g vc' (wrD D num []).2 R := by
  refine (dv_Write w b g vc D num none 0 0 [] h.dv (Rd.nil w) (by simp) hl hq hwr).mono ?_
  rintro e w' ⟨rfl, vc', hV, hF⟩
  exact ⟨rfl, vc', h.fr hV hF⟩
theorem st_Crash (n c : Nat) (A : Option Addr) (l : List Ft) (h : St w0 w b g vc D R) (hq : D.C.length ≤ 100000000000) (hr : RdF w A n c l) (hx : 0 < n → ∀ p, A = some p → p.block ∉ dvS b g vc) :
    Calls Try.prog 25 #[.pointer (some ⟨b, 0, none⟩), .slice A n c] w fun e w' => e = .returned (.int .i64 (crT l D.C.length : Nat)) ∧ ∃ vc', St w0 w' b g vc' (crD D l) R := by
  refine (dv_Crash w b g vc D n c A l h.dv hq hr hx).mono ?_
  rintro e w' ⟨rfl, hV, hF⟩
  exact ⟨rfl, _, h.fr hV hF⟩
end
theorem st_Med64 {w0 w : World} {b g : Nat} {vc : Value} {D : DS} {R : List (Nat × Obj)} (h : St w0 w b g vc D R) (hn : D.n = 64) :
    Calls Try.prog 23 #[.pointer (some ⟨b, 0, none⟩)] w fun e w' => ∃ j c o, e = .returned (.slice (some ⟨j, 0, none⟩) 32768 c) ∧ RowB o 32768 c D.M ∧ St w0 w' b g vc D ((j, o) :: R) := by
  have h1 := st_Medium h
  rw [hn] at h1
  exact h1
theorem Only.toB {w w' : World} (h : Only [] w w') : Below w.heap.size w w' := h.below (Nat.le_refl _) (by simp)
/-! ### the states of DevArmed -/
def amF (i : Nat) : List UInt8 := List.replicate 512 (UInt8.ofNat i)
def amC (i : Nat) : List Pd := (List.range i).map fun j => ⟨j, amF j⟩
theorem amC_len (i : Nat) : (amC i).length = i := by simp [amC]
theorem amC_snoc (i : Nat) : amC (i + 1) = amC i ++ [⟨i, amF i⟩] := by simp [amC, List.range_succ]
def amD (n i : Nat) : DS := ⟨64, liveM, amC i, n - i, true, false, 0, 1 + i, 1⟩
def amX (n : Nat) : DS := ⟨64, liveM, amC n, 0, true, true, 0, 1 + n, 1⟩
def amY (n : Nat) : DS := ⟨64, liveM, [], 0, false, false, 0, 1 + n, 1⟩
def amZ (n : Nat) : DS := ⟨64, liveM, [⟨1, amF 1⟩], 0, false, false, 0, 2 + n, 1⟩
theorem am_arm0 (n : Nat) : armD liveD n = (0, amD n 0) := by
  unfold armD
  rw [if_neg (by omega), if_neg (by show ¬ (false = true); decide), Int.toNat_natCast]
  rfl
theorem am_armN (D : DS) (k : Int) (h : k < 0) : armD D k = (1, D) := if_pos h
theorem am_w64 (D : DS) (hn : D.n = 64) (L : List UInt8) (k : Int) (hk : k < 0 ∨ 64 ≤ k) : wrD D k L = (60, D) := by
  unfold wrD
  rw [if_pos (by rw [hn]; omega)]
theorem am_wnil (D : DS) (hn : D.n = 64) : wrD D 1 [] = (61, D) := by
  unfold wrD
  rw [if_neg (by rw [hn]; omega), if_pos (by simp)]
theorem am_wr (n i : Nat) (hi : i < n) (hn : n ≤ 40) : wrD (amD n i) i (amF i) = (0, amD n (i + 1)) := by
  have ha : actD (amD n i) = (true, { amD n i with left := n - (i + 1) }) := by
    unfold actD
    rw [if_neg (by show ¬ (true = true ∧ n - i = 0); omega), if_neg (by show ¬ (false = true); decide), if_pos (show (amD n i).armed = true from rfl)]
    rfl
  unfold wrD
  rw [if_neg (by show ¬ ¬ ((0 : Int) ≤ (i : Int) ∧ (i : Int) < ((64 : Nat) : Int)); omega), if_neg (by simp [amF]), ha, if_pos rfl]
  show ((0 : Int), (⟨64, liveM, amC i ++ [⟨i, amF i⟩], n - (i + 1), true, false, 0, 1 + i + 1, 1⟩ : DS)) = _
  rw [← amC_snoc]; rfl
theorem am_arm (n i : Nat) (hi : i < n) : armD (amD n (i + 1)) ((n : Int) - i - 1) = (0, amD n (i + 1)) := by
  unfold armD
  rw [if_neg (by omega), if_neg (by show ¬ (false = true); decide), show ((n : Int) - i - 1).toNat = n - (i + 1) by omega]
  rfl
theorem am_act (n : Nat) : actD (amD n n) = (false, amX n) := by
  unfold actD
  rw [if_pos ⟨rfl, Nat.sub_self n⟩]
  show (false, (⟨64, liveM, amC n, n - n, true, true, 0, 1 + n, 1⟩ : DS)) = _
  rw [Nat.sub_self]; rfl
theorem am_actX (n : Nat) : actD (amX n) = (false, amX n) := by
  unfold actD
  rw [if_pos ⟨rfl, rfl⟩]
  rfl
theorem am_fl (n : Nat) : flD (amD n n) = (6, amX n) := by
  unfold flD
  rw [am_act, if_neg (by show ¬ (false = true); decide)]
theorem am_wX (n : Nat) : wrD (amX n) 1 (amF 1) = (6, amX n) := by
  unfold wrD
  rw [if_neg (by show ¬ ¬ ((0 : Int) ≤ 1 ∧ (1 : Int) < ((64 : Nat) : Int)); omega), if_neg (by simp [amF]), am_actX, if_neg (by show ¬ (false = true); decide)]
theorem am_armX (n : Nat) : armD (amX n) 5 = (6, amX n) := by
  unfold armD
  rw [if_neg (by omega), if_pos (show (amX n).down = true from rfl)]
theorem layP_none (M : List UInt8) (x : Pd) (h : x.num * 512 ≤ M.length) : layP M x 0 = M := by
  unfold layP splice
  simp
theorem layA_none : ∀ (i : Nat) (l : List Pd) (M : List UInt8), (∀ x ∈ l, x.num * 512 ≤ M.length) → layA (crN []) i l M = M
  | i, [], M, _ => rfl
  | i, x :: r, M, h => by
    have h0 : crN [] i = 0 := rfl
    rw [layA, h0, layP_none M x (h x (by simp))]
    exact layA_none (i + 1) r M (fun y hy => h y (by simp [hy]))
theorem am_cr (n : Nat) (hn : n ≤ 40) : crD (amX n) [] = amY n := by
  have h : layA (crN []) 0 (amC n) liveM = liveM := layA_none 0 _ _ (fun x hx => by
    simp only [amC, List.mem_map, List.mem_range] at hx
    obtain ⟨j, hj, rfl⟩ := hx
    have h9 : liveM.length = 64 * 512 := by
      unfold liveM
      rw [splice_lenS _ _ _ (by rw [fiveL_len, zM_len]; decide), zM_len]
    rw [h9]
    show j * 512 ≤ 64 * 512
    omega)
  unfold crD
  show (⟨64, layA (crN []) 0 (amC n) liveM, [], 0, false, false, 0, 1 + n, 1⟩ : DS) = _
  rw [h]; rfl
theorem crT_nil : ∀ n, crT [] n = 0
  | 0 => rfl
  | n + 1 => by rw [crT, crT_nil n]; rfl
theorem am_wY (n : Nat) : wrD (amY n) 1 (amF 1) = (0, amZ n) := by
  unfold wrD
  rw [if_neg (by show ¬ ¬ ((0 : Int) ≤ 1 ∧ (1 : Int) < ((64 : Nat) : Int)); omega), if_neg (by simp [amF]), show actD (amY n) = (true, amY n) from rfl, if_pos rfl]
  show ((0 : Int), (⟨64, liveM, [⟨1, amF 1⟩], 0, false, false, 0, 1 + n + 1, 1⟩ : DS)) = _
  rw [show 1 + n + 1 = 2 + n by omega]; rfl
theorem am_flZ (n : Nat) : (flD (amZ n)).1 = 0 := by
  unfold flD
  rw [show actD (amZ n) = (true, amZ n) from rfl, if_pos rfl]
end Go.Proofs.Ytjbffahmjhbpjaa
/- DevApart, its plain part: the states of the device; append that tells of the elder row. -/
set_option linter.unusedVariables false
set_option linter.unusedSimpArgs false
set_option maxRecDepth 100000
namespace Go.Proofs.Ytjbffahmjhbpjaa
open Go.RowKit
theorem i64_andm (j : Nat) (hj : j ≤ 20) (n : Int) : bits .and .i64 n ((2 ^ j - 1 : Nat) : Int) = n % ((2 ^ j : Nat) : Int) := by
  show IntKind.i64.wrap ((BitVec.ofInt 64 n &&& BitVec.ofInt 64 ((2 ^ j - 1 : Nat) : Int)).toNat : Nat) = _
  have hp : 2 ^ j ≤ 2 ^ 20 := Nat.pow_le_pow_right (by omega) hj
  have hp1 : 0 < 2 ^ j := Nat.pow_pos (by omega)
  have hd : (2 : Nat) ^ 64 = 2 ^ j * 2 ^ (64 - j) := by rw [← Nat.pow_add]; congr 1; omega
  have e : (BitVec.ofInt 64 ((2 ^ j - 1 : Nat) : Int)).toNat = 2 ^ j - 1 := by
    rw [BitVec.toNat_ofInt]; omega
  have h : (BitVec.ofInt 64 n &&& BitVec.ofInt 64 ((2 ^ j - 1 : Nat) : Int)).toNat = (n % ((2 ^ j : Nat) : Int)).toNat := by
    rw [BitVec.toNat_and, e, BitVec.toNat_ofInt, Nat.and_two_pow_sub_one_eq_mod]
    have h1 : ((n % ((2 ^ 64 : Nat) : Int)).toNat % 2 ^ j : Nat) = (n % ((2 ^ 64 : Nat) : Int) % ((2 ^ j : Nat) : Int)).toNat := by
      have h3 : 0 ≤ n % ((2 ^ 64 : Nat) : Int) := Int.emod_nonneg _ (by decide)
      obtain ⟨a, ha⟩ := Int.eq_ofNat_of_zero_le h3
      rw [ha]
      simp
      rfl
    rw [h1, Int.emod_emod_of_dvd]
    exact ⟨((2 ^ (64 - j) : Nat) : Int), by rw [hd]; simp⟩
  rw [h]
  have h4 : 0 ≤ n % ((2 ^ j : Nat) : Int) := Int.emod_nonneg _ (by omega)
  have h5 : n % ((2 ^ j : Nat) : Int) < ((2 ^ j : Nat) : Int) := Int.emod_lt_of_pos _ (by omega)
  rw [Int.toNat_of_nonneg h4]
  exact IntWalk.i64_in _ (by omega)
theorem i64_and63 (n : Int) : ∃ k : Nat, k < 64 ∧ bits .and .i64 n 63 = (k : Int) ∧ (k : Int) = n % 64 := by
  have h := i64_andm 6 (by omega) n
  refine ⟨(n % 64).toNat, by omega, ?_, by omega⟩
  have e : ((2 ^ 6 - 1 : Nat) : Int) = 63 := rfl
  rw [e] at h
  rw [h, show ((2 ^ 6 : Nat) : Int) = 64 from rfl]
  omega
theorem u8_plus (c : UInt8) (m : Nat) (hm : m < 256) : IntKind.u8.wrap ((c.toNat : Int) + (m : Int)) = ((c + UInt8.ofNat m).toNat : Int) := by
  have h1 : (c + UInt8.ofNat m).toNat = (c.toNat + m) % 256 := by
    rw [UInt8.toNat_add, UInt8.toNat_ofNat', Nat.mod_eq_of_lt (show m < 2 ^ 8 by omega)]
  rw [h1]
  show (IntKind.u8).wrap _ = _
  simp only [IntKind.wrap, IntKind.signed, IntKind.bits]
  simp
/-! ### the device's states -/
def apF (c : UInt8) : List UInt8 := List.replicate 512 c
theorem apF_len (c : UInt8) : (apF c).length = 512 := List.length_replicate
def apD1 (c : UInt8) (k : Nat) : DS := ⟨64, liveM, [⟨k, apF c⟩], 0, false, false, 0, 2, 1⟩
def apM2 (c : UInt8) (k2 : Nat) : List UInt8 := splice liveM (k2 * 512 + 510) [c, c]
def apD2 (c : UInt8) (k k2 rd : Nat) : DS := ⟨64, apM2 c k2, [⟨k, apF c⟩], 0, false, false, rd, 2, 1⟩
def apM5 (c : UInt8) (k k2 : Nat) : List UInt8 := splice (apM2 c k2) (k * 512) (apF c)
def apD5 (c : UInt8) (k k2 rd : Nat) : DS := ⟨64, apM5 c k k2, [], 0, false, false, rd, 2, 2⟩
theorem splice_len {α : Type} (M X : List α) (off : Nat) (h : off + X.length ≤ M.length) : (splice M off X).length = M.length := by
  simp [splice]; omega
theorem splice_get {α : Type} (M X : List α) (off i : Nat) (h : off + X.length ≤ M.length) : (splice M off X)[i]? = if off ≤ i ∧ i < off + X.length then X[i - off]? else M[i]? := by
  unfold splice
  by_cases h1 : i < off
  · rw [if_neg (by omega), List.getElem?_append_left (by simp; omega), List.getElem?_take, if_pos h1]
  · rw [List.getElem?_append_right (by simp; omega), List.length_take, Nat.min_eq_left (by omega)]
    by_cases h2 : i < off + X.length
    · rw [if_pos (by omega), List.getElem?_append_left (by omega)]
    · rw [if_neg (by omega), List.getElem?_append_right (by omega), List.getElem?_drop]
      congr 1; omega
theorem liveM_len : liveM.length = 64 * 512 := by
  unfold liveM
  rw [splice_len _ _ _ (by rw [fiveL_len, zM_len]; decide), zM_len]
theorem apM2_len (c : UInt8) (k2 : Nat) (h : k2 < 64) : (apM2 c k2).length = 64 * 512 := by
  unfold apM2
  rw [splice_len _ _ _ (by rw [liveM_len]; simp; omega), liveM_len]
theorem apM5_len (c : UInt8) (k k2 : Nat) (hk : k < 64) (h : k2 < 64) : (apM5 c k k2).length = 64 * 512 := by
  unfold apM5
  rw [splice_len _ _ _ (by rw [apM2_len c k2 h, apF_len]; omega), apM2_len c k2 h]
theorem ap_wr (c : UInt8) (k : Nat) (hk : k < 64) : wrD liveD k (apF c) = (0, apD1 c k) := by
  unfold wrD
  rw [if_neg (by show ¬ ¬ ((0 : Int) ≤ (k : Int) ∧ (k : Int) < ((64 : Nat) : Int)); omega), if_neg (fun h => h (apF_len c))]
  rfl
theorem ap_ed (c : UInt8) (k k2 : Nat) (h2 : k2 < 64) : edD (apD1 c k) k2 510 [c, c] = (0, apD2 c k k2 0) := by
  unfold edD
  rw [if_neg (by show ¬ ¬ ((0 : Int) ≤ (k2 : Int) ∧ (k2 : Int) < ((64 : Nat) : Int)); omega), if_neg (by show ¬ ((510 : Int) < 0 ∨ (512 : Int) < 510 ∨ (512 : Int) - 510 < ((2 : Nat) : Int)); omega)]
  rfl
theorem ap_rd (c : UInt8) (k k2 rd : Nat) : rdB (apD2 c k k2 rd) k = apF c := by
  show rdC [⟨k, apF c⟩] k _ = _
  rw [rdC, rdC, if_pos rfl]
theorem ap_fl (c : UInt8) (k k2 rd : Nat) : flD (apD2 c k k2 rd) = (0, apD5 c k k2 rd) := by
  have h : (apF c).take 512 = apF c := List.take_of_length_le (by rw [apF_len]; exact Nat.le_refl _)
  have h2 : layA (fun _ => 512) 0 [⟨k, apF c⟩] (apM2 c k2) = apM5 c k k2 := by
    show splice (apM2 c k2) (k * 512) ((apF c).take 512) = _
    rw [h]; rfl
  unfold flD
  rw [show actD (apD2 c k k2 rd) = (true, apD2 c k k2 rd) from rfl, if_pos rfl]
  show (0, (⟨64, layA (fun _ => 512) 0 [⟨k, apF c⟩] (apM2 c k2), [], 0, false, false, rd, 2, 2⟩ : DS)) = _
  rw [h2]; rfl
theorem blkM_get (M : List UInt8) (k i : Nat) (hi : i < 512) : (blkM M k)[i]? = M[k * 512 + i]? := by
  unfold blkM
  rw [List.getElem?_take, if_pos hi, List.getElem?_drop]
theorem blkM_len (M : List UInt8) (k : Nat) (h : k * 512 + 512 ≤ M.length) : (blkM M k).length = 512 := by
  unfold blkM; rw [List.length_take, List.length_drop]; omega
theorem ap_raw (c : UInt8) (k k2 : Nat) (hk : k < 64) (h2 : k2 < 64) : blkM (apM5 c k k2) k = apF c := by
  apply List.ext_getElem?
  intro i
  by_cases hi : i < 512
  · rw [blkM_get _ _ _ hi, apM5, splice_get _ _ _ _ (by rw [apM2_len c k2 h2, apF_len]; omega), if_pos (by rw [apF_len]; omega)]
    congr 1; omega
  · rw [List.getElem?_eq_none (by rw [blkM_len _ _ (by rw [apM5_len c k k2 hk h2]; omega)]; omega), List.getElem?_eq_none (by rw [apF_len]; omega)]
theorem ap_rd5 (c : UInt8) (k k2 rd : Nat) (hk : k < 64) (h2 : k2 < 64) : rdB (apD5 c k k2 rd) k = apF c := ap_raw c k k2 hk h2
theorem ap_z (c : UInt8) (k k2 i : Nat) (hk : k < 64) (h2 : k2 < 64) (hne : k ≠ k2) (hi : i = 510 ∨ i = 511) : (blkM (apM5 c k k2) k2).getD i 0 = c := by
  rw [List.getD_eq_getElem?_getD, blkM_get _ _ _ (by omega), apM5, splice_get _ _ _ _ (by rw [apM2_len c k2 h2, apF_len]; omega), if_neg (by rw [apF_len]; omega), apM2,
    splice_get _ _ _ _ (by rw [liveM_len]; simp; omega), if_pos (by simp; omega)]
  rcases hi with rfl | rfl
  · rw [show k2 * 512 + 510 - (k2 * 512 + 510) = 0 by omega]; rfl
  · rw [show k2 * 512 + 511 - (k2 * 512 + 510) = 1 by omega]; rfl
/-! ### append of ints that tells of the elder row -/
theorem Kp.back {w : World} {S : List Nat} {x : Nat × Obj} {R : List (Nat × Obj)} (h : Kp w S (x :: R)) : Kp w S (R ++ [x]) := by
  have hp : (R ++ [x]).Perm (x :: R) := List.perm_append_comm
  exact ⟨fun p hp' => h.all p (hp.mem_iff.1 hp'), fun p hp' => h.out p (hp.mem_iff.1 hp'), (hp.map Prod.fst).nodup_iff.2 h.nd⟩
theorem Kp.mem {w : World} {S : List Nat} {R : List (Nat × Obj)} (h : Kp w S R) {k : Nat} {o : Obj} (hm : (k, o) ∈ R) : w.heap[k]? = some o := h.all _ hm
theorem Kp.grown {w w' : World} {S : List Nat} {R : List (Nat × Obj)} (h : Kp w S R) (i : Nat) {k : Nat} {o o' : Obj} (hi : R[i]? = some (k, o)) (hg : w.grownBy w' (some k)) (ho : w'.heap[k]? = some o') : Kp w' S (R.set i (k, o')) :=
  h.upd i hi ⟨hg.os, hg.tape, hg.output, hg.size, fun j hj hn => hg.block j hj (fun e => hn (by injection e with e; simp [e]))⟩ ho
/-- append(p, y), p a row of one int: p keeps its int; the answer's row holds both. -/
theorem run_appI1_keep {W : World} (ty : TypeId) {k c : Nat} {o : Obj} (x y : Int) (hk : W.heap[k]? = some o) (hr : RowN o 1 c [x]) (B : Nat) (hB : W.heap[B]? = some (.cells #[.int .i64 y] 3 (0, 0))) :
    ∃ v1 w1 kh ch oh op, (Builtin.append_ #[38, 38] ty #[.slice (some ⟨k, 0, none⟩) 1 c, .slice (some ⟨B, 0, none⟩) 1 1]).run Try.prog W = .ok v1 w1 ∧ v1 = .slice (some ⟨kh, 0, none⟩) 2 ch ∧ w1.heap[kh]? = some oh ∧ RowN oh 2 ch [x, y] ∧
      w1.heap[k]? = some op ∧ RowN op 1 c [x] ∧ Only [k] W w1 ∧ ((kh = k ∧ oh = op) ∨ W.heap.size ≤ kh) := by
  obtain ⟨i0, hi, hzz⟩ := Option.map_eq_some_iff.1 info_int
  simp only [Prod.mk.injEq] at hzz
  obtain ⟨hz0, hz1, hz2⟩ := hzz
  have ht := Try.underlying38
  have HO : W.ownsRow 0 3 1 (.slice (some ⟨k, 0, none⟩) 1 c) 1 (iv_ [x]) := hr.own hk
  have hcells : ∀ j u, (iv_ [y])[j]? = some u → W.cell? ((⟨B, 0, none⟩ : Addr).add j) = some u := by
    intro j u hu
    rw [Addr.add_mid, Nat.zero_add, cell_of_row _ _ _ _ _ _ hB]
    simpa [iv_] using hu
  by_cases hroom : 1 + 1 ≤ c
  · obtain ⟨w1, hrun, h5, h6⟩ := run_append_fits (P := Try.prog) W 0 38 ty 3 i0 1 ht hi hz1 k 1 c (iv_ [x]) HO ⟨B, 0, none⟩ 1 1 (iv_ [y]) (by rw [iv_length]; simp) hcells (iv_one [y]) hroom
    obtain ⟨kh, ch, oh, he, _, hh, hrow⟩ := OwnI.row_of (w := w1) (base := 0) (n := 2) (l := [x, y]) (v := .slice (some ⟨k, 0, none⟩) 2 c) h5 (by omega)
    injection he with e1 e2 e3
    injection e1 with e1
    injection e1 with e1
    subst e1 e3
    refine ⟨_, w1, k, c, oh, oh, hrun, rfl, hh, hrow, hh, ?_, ⟨h6.os, h6.tape, h6.output, h6.size, fun j hj hn => h6.block j hj (fun e => hn (by injection e with e; simp [e]))⟩, .inl ⟨rfl, rfl⟩⟩
    obtain ⟨cur, rfl, g1, g2, g3, g4, g5⟩ := hrow
    refine ⟨cur, rfl, rfl, by omega, g3, g4, ?_⟩
    have := congrArg (List.take 1) g5
    rw [List.take_take] at this
    exact this
  · have hgr := run_append_grow (P := Try.prog) W 38 ty 3 i0 (.int .i64 0) ht hi hz0 ⟨k, 0, none⟩ 1 c (iv_ [x]) (by rw [hz1]; rfl) (World.ownsRow.cells HO (g := k) rfl) ⟨B, 0, none⟩ 1 1 (iv_ [y]) (by rw [iv_length, hz1]; rfl) hcells (by omega) (by have := hr; obtain ⟨_, _, _, _, h, _⟩ := this; omega) (by rw [hz2]; exact growslice_fits_wide (by omega) (by omega))
    obtain ⟨v1, w1, hrun, h2, h3, _, h5⟩ := run_append_own_at (P := Try.prog) W 0 38 ty 3 i0 (.int .i64 0) 1 8 ht hi hz0 hz1 hz2 rfl (by omega) _ 1 (iv_ [x]) HO ⟨B, 0, none⟩ 1 1 (iv_ [y]) (by rw [iv_length]; simp) hcells
      (iv_one [y]) (by simp only [maxLen]; omega) (by omega) (Nat.zero_le _)
    have hw : v1.ownBlock = some W.heap.size ∧ w1.heap[k]? = W.heap[k]? ∧ W.grownBy w1 none := by
      rw [hrun] at hgr
      injection hgr with e1 e2
      refine ⟨by rw [e1]; rfl, ?_, ?_⟩
      · rw [e2]; exact heap_alloc_old W.drew _ (lt_of_block hk)
      · rw [e2]; exact ⟨rfl, rfl, rfl, by simp, fun k hk _ => heap_alloc_old W.drew _ hk⟩
    obtain ⟨kh, ch, oh, he, _, hh, hrow⟩ := OwnI.row_of (w := w1) (base := 0) (n := 2) (l := [x, y]) (v := v1) h2 (by omega)
    refine ⟨v1, w1, kh, ch, oh, o, hrun, he, hh, hrow, hw.2.1.trans hk, hr, ⟨hw.2.2.os, hw.2.2.tape, hw.2.2.output, hw.2.2.size, fun j hj _ => hw.2.2.block j hj (by simp)⟩, .inr ?_⟩
    have := hw.1
    rw [he] at this
    injection this with this
    exact Nat.le_of_eq this.symm
section
variable {ops : Array Oper} {rest : List Oper} {o : Oper} {a : Act} {Q : Exit → Act → World → Prop}
theorem wp_appI1_keep {W : World} {k c : Nat} {ob : Obj} (x y : Int) (hk : W.heap[k]? = some ob) (hr : RowN ob 1 c [x]) (s z : Operand) (hgd : o.guard = none)
    (ho : o.op = .call { callee := .builtin .append, args := #[s, z], argTypes := #[38, 38] }) (hs : a.eval s = .slice (some ⟨k, 0, none⟩) 1 c) (hx : a.eval z = .slice (some ⟨W.heap.size, 0, none⟩) 1 1)
    (h : ∀ w1 kh ch oh op, w1.heap[kh]? = some oh → RowN oh 2 ch [x, y] → w1.heap[k]? = some op → RowN op 1 c [x] → Only [k] (W.alloc (.cells #[.int .i64 y] 3)) w1 → ((kh = k ∧ oh = op) ∨ (W.alloc (.cells #[.int .i64 y] 3)).heap.size ≤ kh) → wpList Try.prog ops Q rest (a.put o.dst (.slice (some ⟨kh, 0, none⟩) 2 ch)) w1) :
    wpList Try.prog ops Q (o :: rest) a (W.alloc (.cells #[.int .i64 y] 3)) := by
  obtain ⟨v1, w1, kh, ch, oh, op, hrun, rfl, h1, h2, h3, h4, h5, h6⟩ := run_appI1_keep o.type (W := W.alloc (.cells #[.int .i64 y] 3)) x y ((Below.heap_alloc W _ k (lt_of_block hk)).trans hk) hr W.heap.size (heap_alloc_new W _)
  refine wpList_plain hgd fun K hK => ?_
  unfold Oper.wp execOp
  simp only [ho, resolve, invoke, builtin, Sem.run_bind, Sem.run_pure, Result.andThen_ok, List.map_toArray, List.map_cons, List.map_nil, hs, hx, hrun]
  exact hK _ _ (h w1 kh ch oh op h1 h2 h3 h4 h5 h6)
end
section
variable {w0 w w' : World} {b g : Nat} {vc : Value} {D : DS} {R : List (Nat × Obj)}
theorem St.cons (h : St w0 w b g vc D R) {k : Nat} {o : Obj} (hne : ∀ p ∈ R, p.1 ≠ k) (hS : k ∉ dvS b g vc) (hge : w0.heap.size ≤ k) (ho : w.heap[k]? = some o) : St w0 w b g vc D ((k, o) :: R) := by
  refine ⟨h.dv, ⟨fun p hp => ?_, fun p hp => ?_, ?_⟩, h.bl, h.sl, fun p hp => ?_⟩
  · rcases List.mem_cons.1 hp with rfl | hp
    · exact ho
    · exact h.kp.all p hp
  · rcases List.mem_cons.1 hp with rfl | hp
    · exact hS
    · exact h.kp.out p hp
  · rw [List.map_cons, List.nodup_cons]
    refine ⟨fun hm => ?_, h.kp.nd⟩
    obtain ⟨p, hp, he⟩ := List.mem_map.1 hm
    exact hne p hp he
  · rcases List.mem_cons.1 hp with rfl | hp
    · exact hge
    · exact h.rl p hp
theorem St.growH {R0 : List (Nat × Obj)} {k kh : Nat} {o oh op : Obj} (h : St w0 w b g vc D (R0 ++ [(k, o)])) (hO : Only [k] w w') (hop : w'.heap[k]? = some op) (hoh : w'.heap[kh]? = some oh) (hc : (kh = k ∧ oh = op) ∨ w.heap.size ≤ kh) :
    ∃ Rh, St w0 w' b g vc D (R0 ++ Rh) ∧ (kh, oh) ∈ Rh ∧ (k, op) ∈ Rh := by
  have h1 := h.upd R0.length (by rw [List.getElem?_append_right (Nat.le_refl _), Nat.sub_self]; rfl) hO hop
  rw [List.set_append_right _ _ (Nat.le_refl _), Nat.sub_self, List.set_cons_zero] at h1
  rcases hc with ⟨rfl, rfl⟩ | hc
  · exact ⟨_, h1, by simp, by simp⟩
  · have h2 := (h1.cons (k := kh) (fun p hp e => by
      rcases List.mem_append.1 hp with hp | hp
      · have h3 := lt_of_block (h.kp.all p (List.mem_append_left _ hp)); omega
      · rw [List.mem_singleton.1 hp] at e
        have h3 := lt_of_block (h.kp.all (k, o) (by simp))
        have h4 : k = kh := e
        have h5 : k < w.heap.size := h3
        omega) (fun hm => by have := h.dv.lt kh hm; omega) (Nat.le_trans h.bl.size hc) hoh).back
    rw [List.append_assoc] at h2
    exact ⟨_, h2, by simp, by simp⟩
variable {c : UInt8} {k k2 rd : Nat}
theorem ap_Read2 (hrd : rd < 100) (hk : k < 64) (h : St w0 w b g vc (apD2 c k k2 rd) R) :
    Calls Try.prog 19 #[.pointer (some ⟨b, 0, none⟩), .int .i64 k] w fun e w' => ∃ j o, e = .returned (.tuple #[.slice (some ⟨j, 0, none⟩) 512 512, .int .i64 0]) ∧ RowB o 512 512 (apF c) ∧ St w0 w' b g vc (apD2 c k k2 (rd + 1)) ((j, o) :: R) := by
  have h1 := st_Read k h hk rfl (by show rd < 9223372036854775807; omega) (by show 1 ≤ 100000000000; omega)
  rw [ap_rd] at h1
  exact h1
theorem ap_Pend2 (h : St w0 w b g vc (apD2 c k k2 rd) R) :
    Calls Try.prog 20 #[.pointer (some ⟨b, 0, none⟩)] w fun e w' => ∃ j q o, e = .returned (.slice (some ⟨j, 0, none⟩) 1 q) ∧ RowN o 1 q [(k : Int)] ∧ St w0 w' b g vc (apD2 c k k2 rd) ((j, o) :: R) :=
  st_Pending h (by show 1 ≤ 100000000000; omega) (by show 0 < 1; omega)
theorem ap_Flush2 (h : St w0 w b g vc (apD2 c k k2 rd) R) :
    Calls Try.prog 21 #[.pointer (some ⟨b, 0, none⟩)] w fun e w' => e = .returned (.int .i64 0) ∧ ∃ vc', St w0 w' b g vc' (apD5 c k k2 rd) R := by
  have h1 := st_Flush h (by show 0 < 9223372036854775808; omega) (by show 1 ≤ 100000000000; omega) (by show 1 < 9223372036854775807; omega)
  rw [ap_fl] at h1
  exact h1
theorem ap_Raw5 (hk : k < 64) (h2 : k2 < 64) (h : St w0 w b g vc (apD5 c k k2 rd) R) :
    Calls Try.prog 22 #[.pointer (some ⟨b, 0, none⟩), .int .i64 k] w fun e w' => ∃ j o, e = .returned (.tuple #[.slice (some ⟨j, 0, none⟩) 512 512, .int .i64 0]) ∧ RowB o 512 512 (apF c) ∧ St w0 w' b g vc (apD5 c k k2 rd) ((j, o) :: R) := by
  have h1 := st_Raw k h hk
  rw [show (apD5 c k k2 rd).M = apM5 c k k2 from rfl, ap_raw c k k2 hk h2] at h1
  exact h1
theorem ap_Raw5z (h2 : k2 < 64) (h : St w0 w b g vc (apD5 c k k2 rd) R) :
    Calls Try.prog 22 #[.pointer (some ⟨b, 0, none⟩), .int .i64 k2] w fun e w' => ∃ j o, e = .returned (.tuple #[.slice (some ⟨j, 0, none⟩) 512 512, .int .i64 0]) ∧ RowB o 512 512 (blkM (apM5 c k k2) k2) ∧ St w0 w' b g vc (apD5 c k k2 rd) ((j, o) :: R) := st_Raw k2 h h2
theorem ap_Medium5 (h : St w0 w b g vc (apD5 c k k2 rd) R) :
    Calls Try.prog 23 #[.pointer (some ⟨b, 0, none⟩)] w fun e w' => ∃ j q o, e = .returned (.slice (some ⟨j, 0, none⟩) 32768 q) ∧ RowB o 32768 q (apM5 c k k2) ∧ St w0 w' b g vc (apD5 c k k2 rd) ((j, o) :: R) := st_Medium h
theorem ap_Read5 (hrd : rd < 100) (hk : k < 64) (h2 : k2 < 64) (h : St w0 w b g vc (apD5 c k k2 rd) R) :
    Calls Try.prog 19 #[.pointer (some ⟨b, 0, none⟩), .int .i64 k] w fun e w' => ∃ j o, e = .returned (.tuple #[.slice (some ⟨j, 0, none⟩) 512 512, .int .i64 0]) ∧ RowB o 512 512 (apF c) ∧ St w0 w' b g vc (apD5 c k k2 (rd + 1)) ((j, o) :: R) := by
  have h1 := st_Read k h hk rfl (by show rd < 9223372036854775807; omega) (by show 0 ≤ 100000000000; omega)
  rw [ap_rd5 c k k2 rd hk h2] at h1
  exact h1
/-- append(a, y): a's row keeps its bytes -/
theorem St.appK {W W' : World} {i q n : Nat} {o : Obj} {l l2 : List UInt8} {m : Nat} {v1 : Value} (h : St w0 W b g vc D R) (hi : R[i]? = some (q, o)) (hO1 : Own W' 0 v1 m l2) (hm : 0 < m) (hO : Own W' 0 (.slice (some ⟨q, 0, none⟩) n k) n l) (hn : 0 < n) (hG : W.grownBy W' (some q)) :
    ∃ A c1 o', v1 = .slice A m c1 ∧ RowB o' n k l ∧ St w0 W' b g vc D (R.set i (q, o')) := by
  obtain ⟨q', c', o', e, _, ho, hr⟩ := hO.row_of hn
  injection e with e1 e2 e3
  injection e1 with e1
  injection e1 with e1
  subst e1 e3
  obtain ⟨g1, c1, rfl, _⟩ := hO1.form hm
  exact ⟨_, c1, o', rfl, hr, h.grown i hi hG ho⟩
end
theorem fillO_step (M : List UInt8) (j : Nat) (x : UInt8) (h : j < M.length) : (List.replicate j x ++ M.drop j).set j x = List.replicate (j + 1) x ++ M.drop (j + 1) := by
  rw [List.set_append_right _ _ (by simp), List.length_replicate, Nat.sub_self, List.drop_eq_getElem_cons h, List.set_cons_zero, List.replicate_succ', List.append_assoc]
  rfl
theorem fillO_end (M : List UInt8) (x : UInt8) (n : Nat) (h : M.length = n) : List.replicate n x ++ M.drop n = List.replicate n x := by
  rw [List.drop_eq_nil_of_le (by omega), List.append_nil]
theorem rep_getD (n i : Nat) (x : UInt8) (h : i < n) : (List.replicate n x).getD i 0 = x := by
  rw [List.getD_eq_getElem?_getD, List.getElem?_replicate, if_pos h]; rfl
end Go.Proofs.Ytjbffahmjhbpjaa
/- The laws' own helpers over the device: block; append of fates. -/
set_option linter.unusedVariables false
set_option linter.unusedSimpArgs false
set_option maxRecDepth 100000
namespace Go.Proofs.Ytjbffahmjhbpjaa
open Go.RowKit
def opC (x : OpD) (vB vF : Value) : Array Value := #[.bool x.two, .int .i64 x.kind, .int .i64 x.blk, .int .i64 x.num, .int .i64 x.len, .int .u8 (x.fill.toNat : Int), vB, vF]
def opN (x : OpD) : Nat := (x.len % 1024).toNat
def blkL (N : Nat) (f : UInt8) : List UInt8 := if 100 < N then (((List.replicate N f).set 0 (f + 1)).set 100 (f + 2)).set (N - 1) (f + 3) else List.replicate N f
theorem blkL_len (N : Nat) (f : UInt8) : (blkL N f).length = N := by
  unfold blkL
  split <;> simp
theorem Own.cellAt {W : World} {base n g cap : Nat} {l : List UInt8} (h : Own W base (.slice (some ⟨g, 0, none⟩) n cap) n l) (j : Nat) (hj : j < n) : ∃ y, W.cell? ⟨g, j, none⟩ = some (.int .u8 y) := ⟨_, h.cell j hj⟩
theorem u8_mod (c : UInt8) (m : Nat) (hm : m < 256) : ((c.toNat : Int) + (m : Int)) % 256 = ((c + UInt8.ofNat m).toNat : Int) := by
  rw [UInt8.toNat_add, UInt8.toNat_ofNat', Nat.mod_eq_of_lt (show m < 2 ^ 8 by omega)]
  omega
set_option maxHeartbeats 2000000 in
theorem l6_block (w : World) (x : OpD) (vB vF : Value) :
    Calls Try.prog 39 #[.agg (opC x vB vF)] w fun e w' => ∃ u, e = .returned u ∧ Own w' w.heap.size u (opN x) (blkL (opN x) x.fill) ∧ Below w.heap.size w w' := by
  obtain ⟨N, hN⟩ : ∃ N, N = opN x := ⟨_, rfl⟩
  have hNb : N < 1024 := by rw [hN]; unfold opN; omega
  have hand : bits .and .i64 x.len 1023 = (N : Int) := by
    have h := i64_andm 10 (by omega) x.len
    rw [show ((2 ^ 10 - 1 : Nat) : Int) = 1023 from rfl] at h
    rw [h, hN, show ((2 ^ 10 : Nat) : Int) = 1024 from rfl]
    unfold opN; omega
  rw [← hN]
  obtain ⟨c, hc⟩ : ∃ c, c = x.fill := ⟨_, rfl⟩
  rw [← hc]
  obtain ⟨c1, hc1⟩ : ∃ y, y = c + 1 := ⟨_, rfl⟩
  have hm1 : ((c.toNat : Int) + 1) % 256 = (c1.toNat : Int) := by rw [hc1]; exact u8_mod c 1 (by omega)
  have hp1 : IntKind.u8.wrap ((c.toNat : Int) + 1) = (c1.toNat : Int) := by rw [hc1]; exact u8_plus c 1 (by omega)
  obtain ⟨c2, hc2⟩ : ∃ y, y = c + 2 := ⟨_, rfl⟩
  have hm2 : ((c.toNat : Int) + 2) % 256 = (c2.toNat : Int) := by rw [hc2]; exact u8_mod c 2 (by omega)
  have hp2 : IntKind.u8.wrap ((c.toNat : Int) + 2) = (c2.toNat : Int) := by rw [hc2]; exact u8_plus c 2 (by omega)
  obtain ⟨c3, hc3⟩ : ∃ y, y = c + 3 := ⟨_, rfl⟩
  have hm3 : ((c.toNat : Int) + 3) % 256 = (c3.toNat : Int) := by rw [hc3]; exact u8_mod c 3 (by omega)
  have hp3 : IntKind.u8.wrap ((c.toNat : Int) + 3) = (c3.toNat : Int) := by rw [hc3]; exact u8_plus c 3 (by omega)
  have HC := Lib.hid (And.intro hc1 (And.intro hc2 hc3))
  clear hc1 hc2 hc3
  have hop : opC x vB vF = #[.bool x.two, .int .i64 x.kind, .int .i64 x.blk, .int .i64 x.num, .int .i64 x.len, .int .u8 (c.toNat : Int), vB, vF] := by rw [hc]; rfl
  rw [hop]
  have hmk := mk_u8 N N (Nat.le_refl _) (by omega)
  have hNi : (0 : Int) ≤ (N : Int) ∧ (N : Int) < 1024 := by omega
  have HN := Lib.hid hN
  clear hop hc hN
  obtain ⟨q, hq⟩ : ∃ q, q = w.heap.size := ⟨_, rfl⟩
  obtain ⟨W0, hW0⟩ : ∃ W0, W0 = w.alloc (.cells #[.bool x.two, .int .i64 x.kind, .int .i64 x.blk, .int .i64 x.num, .int .i64 x.len, .int .u8 (c.toNat : Int), vB, vF] 48) := ⟨_, rfl⟩
  go_enter Try.func39, Try.ntmps39
  go_wp2_with fail
  have H0 := Lib.hid (show Own (W0.alloc (.cells (zc N) 5)) (q + 1) (.slice (some ⟨q + 1, 0, none⟩) N N) N (List.replicate N 0) from by
    have hs : W0.heap.size = q + 1 := by rw [hW0, hq]; simp
    have h9 := Own.row (W := W0.alloc (.cells (zc N) 5)) (base := q + 1) (g := W0.heap.size) (n := N) (l := List.replicate N 0) (by omega) (by simp) (by omega) (by rw [← zc_bv]; exact heap_alloc_new W0 _)
    rw [hs] at h9
    exact h9)
  have HB0 := Lib.hid (show Below q w (W0.alloc (.cells (zc N) 5)) from by rw [hW0, hq]; exact ((Below.refl _ w).alloc (Nat.le_refl _) _).alloc (by simp) _)
  have HX0 := Lib.hid (show (W0.alloc (.cells (zc N) 5)).heap[q]? = some (.cells #[.bool x.two, .int .i64 x.kind, .int .i64 x.blk, .int .i64 x.num, .int .i64 x.len, .int .u8 (c.toNat : Int), vB, vF] 48 (0, 0)) from by rw [hW0, hq]; exact heap_alloc2_old _ _ _)
  rw [hW0] at H0 HB0 HX0
  rw [← hq]
  have HQ := Lib.hid hq
  clear hmk hand hW0 hq
  go_loopw [5] (fun i wx => ∃ k : Nat, k ≤ N ∧ i = .int .i64 k ∧ Own wx (q + 1) (.slice (some ⟨q + 1, 0, none⟩) N N) N (List.replicate k c ++ List.replicate (N - k) 0) ∧ Below q w wx ∧ wx.heap[q]? = some (.cells #[.bool x.two, .int .i64 x.kind, .int .i64 x.blk, .int .i64 x.num, .int .i64 x.len, .int .u8 (c.toNat : Int), vB, vF] 48 (0, 0))) (fun i _ => N - (intOf i).toNat)
  case atStart => exact ⟨0, by omega, rfl, by simpa using H0.out, HB0.out, HX0.out⟩
  case round =>
    obtain ⟨k, hk, rfl, hO, hB, hX⟩ := hrel
    have HO := Lib.hid hO
    have HB := Lib.hid hB
    have HX := Lib.hid hX
    have hb5 : wr.cell? ⟨q, 5, none⟩ = some (.int .u8 (c.toNat : Int)) := by rw [cell_of_row _ _ _ _ _ _ hX]; rfl
    by_cases hkn : k < N
    · have hcell := hO.cell k hkn
      have hfree := hO.free k
      have HST := Lib.hid (show List.replicate (k + 1) c ++ List.replicate (N - (k + 1)) 0 = (List.replicate k c ++ List.replicate (N - k) 0).set k c by
        rw [List.set_append_right _ _ (by simp), List.length_replicate, Nat.sub_self, show N - k = (N - (k + 1)) + 1 by omega, List.replicate_succ (n := N - (k + 1)), List.set_cons_zero, List.replicate_succ', List.append_assoc]
        rfl)
      have HX2 := Lib.hid (show (wr.setCell ⟨q + 1, k, none⟩ (.int .u8 (c.toNat : Int))).heap[q]? = _ from (heap_setCell_other wr ⟨q + 1, k, none⟩ q _ (by show q ≠ q + 1; omega)).trans hX)
      generalize (List.replicate k c ++ List.replicate (N - k) 0).getD k 0 = y at hcell
      have hki : (0 : Int) ≤ (k : Int) ∧ (k : Int) < (N : Int) := by omega
      clear hO hB hX hkn
      go_wp2
      go_roundw
      case rel => exact ⟨k + 1, by omega, by go_num, by rw [HST.out]; exact HO.out.store k c, HB.out.setCell (by show q ≤ q + 1; omega) _, HX2.out⟩
      case measure => simp [intOf]; omega
    · obtain rfl : k = N := by omega
      rw [Nat.sub_self, List.replicate_zero, List.append_nil] at HO
      by_cases h100 : 100 < k
      · have HL := Lib.hid (show blkL k c = (((List.replicate k c).set 0 c1).set 100 c2).set (k - 1) c3 by unfold blkL; rw [if_pos h100, HC.out.1, HC.out.2.1, HC.out.2.2])
        obtain ⟨y0, g0⟩ := HO.out.cellAt 0 (by omega)
        have f0 := HO.out.free 0
        have HO1 := Lib.hid (HO.out.store 0 c1)
        obtain ⟨y1, g1⟩ := HO1.out.cellAt 100 (by omega)
        have f1 := HO1.out.free 100
        have hx1 : (wr.setCell ⟨q + 1, 0, none⟩ (.int .u8 (c1.toNat : Int))).cell? ⟨q, 5, none⟩ = some (.int .u8 (c.toNat : Int)) := (World.cell?_of_block (w := wr) (a := ⟨q, 5, none⟩) (heap_setCell_other wr ⟨q + 1, 0, none⟩ q _ (by show q ≠ q + 1; omega))).trans hb5
        have HO2 := Lib.hid (HO1.out.store 100 c2)
        obtain ⟨y2, g2⟩ := HO2.out.cellAt (k - 1) (by omega)
        have f2 := HO2.out.free (k - 1)
        have hx2 : ((wr.setCell ⟨q + 1, 0, none⟩ (.int .u8 (c1.toNat : Int))).setCell ⟨q + 1, 100, none⟩ (.int .u8 (c2.toNat : Int))).cell? ⟨q, 5, none⟩ = some (.int .u8 (c.toNat : Int)) := (World.cell?_of_block (w := wr.setCell ⟨q + 1, 0, none⟩ (.int .u8 (c1.toNat : Int))) (a := ⟨q, 5, none⟩) (heap_setCell_other _ ⟨q + 1, 100, none⟩ q _ (by show q ≠ q + 1; omega))).trans hx1
        have HO3 := Lib.hid (HO2.out.store (k - 1) c3)
        have hk1 : IntKind.i64.wrap ((k : Int) - 1) = ((k - 1 : Nat) : Int) := by rw [IntWalk.i64_in _ (by omega)]; omega
        have hk2 : (100 : Int) < (k : Int) ∧ (0 : Int) ≤ ((k - 1 : Nat) : Int) ∧ ((k - 1 : Nat) : Int) < (k : Int) ∧ k - 1 < k := by omega
        clear hO hB hX h100 hkn hk
        go_wp2
        go_ret
        refine ⟨_, rfl, ?_, ?_⟩
        · rw [HL.out]; exact HO3.out.mono (by have := HQ.out; omega)
        · rw [← HQ.out]; exact ((HB.out.setCell (by show q ≤ q + 1; omega) _).setCell (by show q ≤ q + 1; omega) _).setCell (by show q ≤ q + 1; omega) _
      · have HL := Lib.hid (show blkL k c = List.replicate k c by unfold blkL; rw [if_neg h100])
        have h100i : ¬ (100 : Int) < (k : Int) := by omega
        clear hO hB hX h100 hkn hk
        go_wp2
        go_ret
        exact ⟨_, rfl, by rw [HL.out]; exact HO.out.mono (by have := HQ.out; omega), by rw [← HQ.out]; exact HB.out⟩
end Go.Proofs.Ytjbffahmjhbpjaa
/- The laws' own helpers over the device: append of fates, play. -/
set_option linter.unusedVariables false
set_option linter.unusedSimpArgs false
set_option maxRecDepth 100000
namespace Go.Proofs.Ytjbffahmjhbpjaa
open Go.RowKit
theorem info_ft : (Try.prog.info? 52).map (fun i => (i.zero, i.size, i.bytes)) = some (some (.agg #[.int .i64 0, .int .i64 0]), 2, 16) := by kernel_rfl
def fv (l : List Ft) : List Value := l.flatMap fun f => [.int .i64 f.kind, .int .i64 f.at_]
theorem fv_len : ∀ l : List Ft, (fv l).length = l.length * 2
  | [] => rfl
  | f :: r => by
    have h := fv_len r
    unfold fv at h ⊢
    rw [List.flatMap_cons, List.length_append, h, List.length_cons]
    simp only [List.length_cons, List.length_nil]; omega
theorem fv_get : ∀ (l : List Ft) (i : Nat), i < l.length → (fv l)[i * 2]? = some (.int .i64 (l.getD i default).kind) ∧ (fv l)[i * 2 + 1]? = some (.int .i64 (l.getD i default).at_)
  | [], i, h => by simp at h
  | f :: r, 0, _ => ⟨rfl, rfl⟩
  | f :: r, i + 1, h => by
    have ih := fv_get r i (by simpa using h)
    unfold fv at ih ⊢
    rw [List.flatMap_cons, show (i + 1) * 2 = i * 2 + 1 + 1 by omega]
    simpa using ih
theorem run_appF {W : World} (ty : TypeId) {A : Option Addr} {n c : Nat} {l : List Ft} (HR : RdF W A n c l) (hn : n ≤ 8796093022207) :
    ∃ A' c' w1, (Builtin.append_ #[45, 45] ty #[.slice none 0 0, .slice A n c]).run Try.prog W = .ok (.slice A' n c') w1 ∧ RdF w1 A' n c' l ∧ Below W.heap.size W w1 ∧ (∀ p, A' = some p → W.heap.size ≤ p.block) := by
  obtain ⟨i0, hi, hzz⟩ := Option.map_eq_some_iff.1 info_ft
  simp only [Prod.mk.injEq] at hzz
  obtain ⟨hz0, hz1, hz2⟩ := hzz
  have ht := Try.underlying45
  rcases Nat.eq_zero_or_pos n with rfl | hp
  · obtain rfl : l = [] := List.eq_nil_of_length_eq_zero HR.len
    refine ⟨none, 0, W, ?_, RdF.nil W, Below.refl _ W, by simp⟩
    cases A <;> simp [Builtin.append_, run_underlying ht, sizeOf, typeInfo, hi, Builtin.lenOf, Builtin.firstCells, loadCells, loadCellsFrom]
  · obtain ⟨b, o, rfl, hc⟩ := HR.at_ hp
    have hl := HR.len
    have hr := run_append_nil (P := Try.prog) W 45 ty 52 i0 _ ht hi hz0 ⟨b, o, none⟩ n c (fv l) (by rw [fv_len, hl, hz1]) (fun j v hj => by
      have hj2 : j < l.length * 2 := by
        rcases Nat.lt_or_ge j (l.length * 2) with h | h
        · exact h
        · rw [List.getElem?_eq_none (by rw [fv_len]; exact h)] at hj; cases hj
      have hg := fv_get l (j / 2) (by omega)
      have hcc := hc (j / 2) (by omega)
      rw [Addr.add_mid]
      rcases (by omega : j = j / 2 * 2 ∨ j = j / 2 * 2 + 1) with e | e
      · rw [e] at hj ⊢
        rw [hg.1] at hj; rw [← hj]; exact hcc.1
      · rw [e] at hj ⊢
        rw [hg.2] at hj; rw [← hj, ← Nat.add_assoc]; exact hcc.2) hp (by omega) (by rw [hz2]; omega)
    refine ⟨_, _, _, hr, ⟨hl, grownCap_ge _ _ _ _, by omega, fun _ => ⟨_, _, rfl, fun j hj => ?_⟩⟩, ((Below.refl _ W).drew).alloc (Nat.le_refl _) _, fun p hp => by injection hp with hp; rw [← hp]; exact Nat.le_refl _⟩
    have hg := fv_get l j (by omega)
    have hfl := fv_len l
    have hnew := heap_alloc_new W.drew (.cells ((fv l).toArray ++ Builtin.zeroCells (Value.agg #[Value.int IntKind.i64 0, Value.int IntKind.i64 0]).cells (grownCap W n 0 52 - n)) 52)
    have key : ∀ i v, (fv l)[i]? = some v → (W.drew.alloc (.cells ((fv l).toArray ++ Builtin.zeroCells (Value.agg #[Value.int IntKind.i64 0, Value.int IntKind.i64 0]).cells (grownCap W n 0 52 - n)) 52)).cell? ⟨W.heap.size, i, none⟩ = some v := fun i v hv => by
      rw [cell_of_row _ _ _ _ _ _ (show (W.drew.alloc _).heap[W.heap.size]? = _ from hnew)]
      have hi : i < (fv l).length := (List.getElem?_eq_some_iff.1 hv).1
      rw [Array.getElem?_append_left (by simpa using hi)]
      simpa using hv
    rw [Nat.zero_add]
    exact ⟨key _ _ hg.1, key _ _ hg.2⟩
section
variable {ops : Array Oper} {rest : List Oper} {o : Oper} {a : Act} {Q : Exit → Act → World → Prop}
theorem wp_appF {W : World} {A : Option Addr} {n c : Nat} {l : List Ft} (HR : RdF W A n c l) (hn : n ≤ 8796093022207) (s x : Operand) (hgd : o.guard = none)
    (ho : o.op = .call { callee := .builtin .append, args := #[s, x], argTypes := #[45, 45] }) (hs : a.eval s = .slice none 0 0) (hx : a.eval x = .slice A n c)
    (h : ∀ A' c' w1, RdF w1 A' n c' l → Below W.heap.size W w1 → (∀ p, A' = some p → W.heap.size ≤ p.block) → wpList Try.prog ops Q rest (a.put o.dst (.slice A' n c')) w1) :
    wpList Try.prog ops Q (o :: rest) a W := by
  obtain ⟨A', c', w1, hr, h1, h2, h3⟩ := run_appF o.type HR hn
  refine wpList_plain hgd fun K hK => ?_
  unfold Oper.wp execOp
  simp only [ho, resolve, invoke, builtin, Sem.run_bind, Sem.run_pure, Result.andThen_ok, List.map_toArray, List.map_cons, List.map_nil, hs, hx, hr]
  exact hK _ _ (h A' c' w1 h1 h2 h3)
end
def plD (D : DS) (x : OpD) : Int × DS :=
  if x.kind = 3 then wrD D x.blk (blkL (opN x) x.fill) else if x.kind = 4 then flD D else if x.kind = 9 then edD D x.blk x.num x.B else if x.kind = 6 then armD D x.num else if x.kind = 8 then (0, crD D x.F) else (0, D)
/-- numbers that stay small -/
structure DS.le (D : DS) (m : Nat) : Prop where
  left : D.left < 9223372036854775808
  ca : D.C.length ≤ m
  wr : D.wr ≤ m
  fl : D.fl ≤ m
  rd : D.rd ≤ m
theorem plD_le {D : DS} {m : Nat} (x : OpD) (hx : x.ok) (h : D.le m) : (plD D x).2.le (m + 1) := by
  have ha : (actD D).2.left ≤ D.left ∧ (actD D).2.C = D.C ∧ (actD D).2.rd = D.rd ∧ (actD D).2.wr = D.wr ∧ (actD D).2.fl = D.fl := by
    have hk := actD_keeps D
    refine ⟨?_, hk.1, hk.2.2.2.1, hk.2.2.2.2.1, hk.2.2.2.2.2⟩
    unfold actD; split
    · exact Nat.le_refl _
    · split
      · exact Nat.le_refl _
      · split
        · exact Nat.sub_le _ _
        · exact Nat.le_refl _
  have h1 := h.left
  have h2 := h.ca
  have h3 := h.wr
  have h4 := h.fl
  have h5 := h.rd
  have hD : D.le (m + 1) := ⟨h1, by omega, by omega, by omega, by omega⟩
  have hA : (actD D).2.le (m + 1) := ⟨by omega, by rw [ha.2.1]; omega, by omega, by omega, by omega⟩
  unfold plD
  split
  · unfold wrD; split
    · exact hD
    · split
      · exact hD
      · split
        · exact ⟨by show (actD D).2.left < _; omega, by show ((actD D).2.C ++ _).length ≤ _; rw [ha.2.1, List.length_append]; simp; omega, by show (actD D).2.wr + 1 ≤ _; omega, hA.fl, hA.rd⟩
        · exact hA
  · split
    · unfold flD; split
      · exact ⟨by show (actD D).2.left < _; omega, Nat.zero_le _, hA.wr, by show (actD D).2.fl + 1 ≤ _; omega, hA.rd⟩
      · exact hA
    · split
      · unfold edD; split
        · exact hD
        · split
          · exact hD
          · exact ⟨hD.left, hD.ca, hD.wr, hD.fl, hD.rd⟩
      · split
        · unfold armD; split
          · exact hD
          · split
            · exact hD
            · have := hx.2.2.1.2
              exact ⟨by show x.num.toNat < _; omega, hD.ca, hD.wr, hD.fl, hD.rd⟩
        · split
          · exact ⟨by show 0 < _; omega, Nat.zero_le _, hD.wr, hD.fl, hD.rd⟩
          · exact hD
end Go.Proofs.Ytjbffahmjhbpjaa
/- The laws' own helpers over the device: play. -/
set_option linter.unusedVariables false
set_option linter.unusedSimpArgs false
set_option maxRecDepth 100000
namespace Go.Proofs.Ytjbffahmjhbpjaa
open Go.RowKit
def opO (x : OpD) (vB vF : Value) : Obj := .cells (opC x vB vF) 48
theorem opCells {W : World} {q : Nat} {two : Bool} {kd blk num len : Int} {fill : UInt8} {B : List UInt8} {F : List Ft} {vB vF : Value} (h : W.heap[q]? = some (opO ⟨two, kd, blk, num, len, fill, B, F⟩ vB vF)) :
    W.cell? ⟨q, 0, none⟩ = some (.bool two) ∧ W.cell? ⟨q, 1, none⟩ = some (.int .i64 kd) ∧ W.cell? ⟨q, 2, none⟩ = some (.int .i64 blk) ∧ W.cell? ⟨q, 3, none⟩ = some (.int .i64 num) ∧ W.cell? ⟨q, 4, none⟩ = some (.int .i64 len) ∧ W.cell? ⟨q, 5, none⟩ = some (.int .u8 (fill.toNat : Int)) ∧ W.cell? ⟨q, 6, none⟩ = some vB ∧ W.cell? ⟨q, 7, none⟩ = some vF := by
  have hc : ∀ j, W.cell? ⟨q, j, none⟩ = (opC ⟨two, kd, blk, num, len, fill, B, F⟩ vB vF)[j]? := fun j => cell_of_row W q j _ _ _ h
  exact ⟨hc 0, hc 1, hc 2, hc 3, hc 4, hc 5, hc 6, hc 7⟩
set_option maxHeartbeats 1000000 in
theorem st_play {w0 w : World} {b g : Nat} {vc : Value} {D : DS} {R : List (Nat × Obj)} (x : OpD) (AB AF : Option Addr) (nB cB nF cF : Nat) (h : St w0 w b g vc D R) (hx : x.ok) (hD : D.le 100000000) (hB : Rd w AB nB cB x.B) (hF : RdF w AF nF cF x.F) :
    Calls Try.prog 24 #[.pointer (some ⟨b, 0, none⟩), .agg (opC x (.slice AB nB cB) (.slice AF nF cF))] w fun e w' => e = .returned (.int .i64 (plD D x).1) ∧ ∃ vc', St w0 w' b g vc' (plD D x).2 R := by
  obtain ⟨two, kd, blk, num, len, fill, B, F⟩ := x
  have hBl := hB.len
  have hBm : nB ≤ 140737488351232 := by have h9 : B.length ≤ 140737488351232 := hx.2.2.2.2.1; have h8 : B.length = nB := hBl; omega
  have hFl := hF.len
  have hFm : nF ≤ 8796093022207 := by have h9 : F.length ≤ 8796093022207 := hx.2.2.2.2.2; have h8 : F.length = nF := hFl; omega
  have HNB := Lib.hid hx.2.2.1
  obtain ⟨o, ho⟩ : ∃ o, o = opO ⟨two, kd, blk, num, len, fill, B, F⟩ (.slice AB nB cB) (.slice AF nF cF) := ⟨_, rfl⟩
  have hB0 := (Below.refl _ w).alloc (Nat.le_refl _) o
  have hHT : St w0 (w.alloc o) b g vc D ((w.heap.size, o) :: R) := h.new hB0 (Nat.le_refl _) (heap_alloc_new w _)
  have hRB := hB.ext hB0
  have hRF := hF.ext hB0
  have hCB : ∀ (W : World) (v D'), St w0 W b g v D' ((w.heap.size, o) :: R) → W.cell? ⟨w.heap.size, 0, none⟩ = some (.bool two) ∧ W.cell? ⟨w.heap.size, 1, none⟩ = some (.int .i64 kd) ∧ W.cell? ⟨w.heap.size, 2, none⟩ = some (.int .i64 blk) ∧ W.cell? ⟨w.heap.size, 3, none⟩ = some (.int .i64 num) ∧ W.cell? ⟨w.heap.size, 4, none⟩ = some (.int .i64 len) ∧ W.cell? ⟨w.heap.size, 5, none⟩ = some (.int .u8 (fill.toNat : Int)) ∧ W.cell? ⟨w.heap.size, 6, none⟩ = some (.slice AB nB cB) ∧ W.cell? ⟨w.heap.size, 7, none⟩ = some (.slice AF nF cF) := fun W v D' h => by
    have h9 := h.get 0 rfl
    rw [show ((w.heap.size, o) : Nat × Obj).2 = o from rfl, ho] at h9
    exact opCells h9
  have hd := hCB _ _ _ hHT
  have HT := Lib.hid hHT
  have HRB := Lib.hid hRB
  have HRF := Lib.hid hRF
  have HCB := Lib.hid hCB
  have HDL := Lib.hid hD
  have HL := Lib.hid hD.left
  have HC := Lib.hid hD.ca
  have HW := Lib.hid hD.wr
  have HFL := Lib.hid hD.fl
  have hoo : o = .cells #[.bool two, .int .i64 kd, .int .i64 blk, .int .i64 num, .int .i64 len, .int .u8 (fill.toNat : Int), .slice AB nB cB, .slice AF nF cF] 48 := ho
  have HO := Lib.hid hoo
  rw [show Value.agg (opC ⟨two, kd, blk, num, len, fill, B, F⟩ (.slice AB nB cB) (.slice AF nF cF)) = .agg #[.bool two, .int .i64 kd, .int .i64 blk, .int .i64 num, .int .i64 len, .int .u8 (fill.toNat : Int), .slice AB nB cB, .slice AF nF cF] from rfl]
  clear h hB hF hD hx hCB hBl hFl hB0 hHT hRB hRF ho hoo
  by_cases k3 : kd = 3
  · subst k3
    have HP := Lib.hid (show plD D ⟨two, 3, blk, num, len, fill, B, F⟩ = wrD D blk (blkL (opN ⟨two, 3, blk, num, len, fill, B, F⟩) fill) from if_pos rfl)
    rw [HP.out]
    go_enter Try.func24, Try.ntmps24
    go_wp2_with fail
    rw [← HO.out]
    have HBK := Lib.hid (l6_block (w.alloc o).drew ⟨two, 3, blk, num, len, fill, B, F⟩ (.slice AB nB cB) (.slice AF nF cF))
    go_region_held3 (fun w' => w'.cell? ⟨w.heap.size, 0, none⟩ = some (.bool two) ∧ w'.cell? ⟨w.heap.size, 1, none⟩ = some (.int .i64 3) ∧ w'.cell? ⟨w.heap.size, 2, none⟩ = some (.int .i64 blk) ∧ w'.cell? ⟨w.heap.size, 3, none⟩ = some (.int .i64 num) ∧ w'.cell? ⟨w.heap.size, 4, none⟩ = some (.int .i64 len) ∧ w'.cell? ⟨w.heap.size, 5, none⟩ = some (.int .u8 (fill.toNat : Int)) ∧ w'.cell? ⟨w.heap.size, 6, none⟩ = some (.slice AB nB cB) ∧ w'.cell? ⟨w.heap.size, 7, none⟩ = some (.slice AF nF cF))
      (first | exact hd3 | exact hd2 | exact hd)
      (first | (go_at_call 16; refine HW2.out.mono ?_; rintro e w3 ⟨rfl, v3, hV3, hF3⟩; have HT3 := Lib.hid (HT2.out.fr hV3 hF3); have hd3 := HCB.out _ _ _ HT3.out; clear hV3 hF3)
             | (go_at_call 39; refine HBK.out.mono ?_; rintro e w2 ⟨u, rfl, hO2, hB2⟩; obtain ⟨A2, c2, rfl, hR2⟩ := hO2.rd (by unfold opN; omega); have HT2 := Lib.hid ((HT.out.drewN 1).below hB2); have hd2 := HCB.out _ _ _ HT2.out;
                have HW2 := Lib.hid (dv_Write w2 b g vc D blk A2 _ c2 _ HT2.out.dv hR2 (fun hp p e9 hm => by
                  obtain ⟨k9, c9, e8, h8, _⟩ := hO2.form hp
                  injection e8 with e7
                  rw [e7] at e9
                  injection e9 with e9
                  rw [← e9] at hm
                  have h7 : k9 < (w.alloc o).drew.heap.size := (HT.out.drewN 1).dv.lt k9 hm
                  have h6 : (w.alloc o).drew.heap.size ≤ k9 := h8
                  omega) HL.out (Nat.le_trans HC.out (by omega)) (Nat.lt_of_le_of_lt HW.out (by omega))); clear hO2 hB2 hR2))
    rename_i hHeld
    clear hHeld hd hd2 hd3
    go_wp2
    go_ret
    exact ⟨rfl, v3, HT3.out.sub (List.sublist_cons_self _ _)⟩
  by_cases k4 : kd = 4
  · subst k4
    have HP := Lib.hid (show plD D ⟨two, 4, blk, num, len, fill, B, F⟩ = flD D from rfl)
    rw [HP.out]
    have HF4 := Lib.hid (st_Flush HT.out HL.out (Nat.le_trans HC.out (by omega)) (Nat.lt_of_le_of_lt HFL.out (by omega)))
    rw [HO.out] at HF4
    clear hd k3
    go_enter Try.func24, Try.ntmps24
    go_wp2_with fail
    refine HF4.out.mono ?_
    rintro e w3 ⟨rfl, v3, hT3⟩
    have HT3 := Lib.hid hT3
    clear hT3
    go_wp2
    go_ret
    exact ⟨rfl, v3, HT3.out.sub (List.sublist_cons_self _ _)⟩
  by_cases k9 : kd = 9
  · subst k9
    have HP := Lib.hid (show plD D ⟨two, 9, blk, num, len, fill, B, F⟩ = edD D blk num B from rfl)
    rw [HP.out]
    clear k3 k4
    go_enter Try.func24, Try.ntmps24
    go_wp2_with fail
    rw [← HO.out]
    go_region_held3 (fun w' => w'.cell? ⟨w.heap.size, 2, none⟩ = some (.int .i64 blk) ∧ w'.cell? ⟨w.heap.size, 3, none⟩ = some (.int .i64 num) ∧ w'.cell? ⟨w.heap.size, 6, none⟩ = some (.slice AB nB cB))
      (first | exact ⟨hd3.2.2.1, hd3.2.2.2.1, hd3.2.2.2.2.2.2.1⟩ | exact ⟨hd2.2.2.1, hd2.2.2.2.1, hd2.2.2.2.2.2.2.1⟩ | exact ⟨hd.2.2.1, hd.2.2.2.1, hd.2.2.2.2.2.2.1⟩)
      (first | (go_at_call 18; refine HE2.out.mono ?_; rintro e w3 ⟨rfl, hV3, hF3⟩; have HT3 := Lib.hid (HT2.out.fr hV3 hF3); have hd3 := HCB.out _ _ _ HT3.out; clear hV3 hF3)
             | (refine step_app (w0 := (w.alloc o).drew) (w.alloc o).drew.heap.size (Own.nil _ _) (HRB.out.drew 1) (Below.refl _ _) (Nat.le_refl _) (by omega) _ _ rfl rfl rfl rfl ?_; intro v2 w2 hO2 hB2 hG2 hA2; obtain ⟨A2, c2, rfl, hR2⟩ := hO2.rd (by omega); have HT2 := Lib.hid ((HT.out.drewN 1).below hB2); have hd2 := HCB.out _ _ _ HT2.out;
                rw [Nat.zero_add, List.nil_append] at hR2
                have HE2 := Lib.hid (dv_Edit w2 b g vc D blk num A2 _ c2 _ HT2.out.dv hR2 HNB.out); clear hO2 hB2 hR2 hG2 hA2))
    rename_i hHeld
    clear hHeld hd hd2 hd3
    go_wp2
    go_ret
    exact ⟨rfl, vc, HT3.out.sub (List.sublist_cons_self _ _)⟩
  by_cases k6 : kd = 6
  · subst k6
    have HP := Lib.hid (show plD D ⟨two, 6, blk, num, len, fill, B, F⟩ = armD D num from rfl)
    rw [HP.out]
    have HA4 := Lib.hid (st_Arm num HT.out)
    rw [HO.out] at HA4
    clear hd k3 k4 k9
    go_enter Try.func24, Try.ntmps24
    go_wp2_with fail
    refine HA4.out.mono ?_
    rintro e w3 ⟨rfl, hT3⟩
    have HT3 := Lib.hid hT3
    clear hT3
    go_wp2
    go_ret
    exact ⟨rfl, vc, HT3.out.sub (List.sublist_cons_self _ _)⟩
  by_cases k8 : kd = 8
  · subst k8
    have HP := Lib.hid (show plD D ⟨two, 8, blk, num, len, fill, B, F⟩ = (0, crD D F) from rfl)
    rw [HP.out]
    rw [HO.out] at HRF HT
    clear hd k3 k4 k9 k6
    go_enter Try.func24, Try.ntmps24
    go_wp2_with (at_builtin; refine wp_appF HRF.out hFm _ _ rfl rfl rfl rfl ?_; intro A2 c2 w2 hR2 hB2 hx2; have HT2 := Lib.hid (HT.out.below hB2); have HC2 := Lib.hid (st_Crash nF c2 A2 F HT2.out (Nat.le_trans HC.out (by omega)) hR2 (fun _ p hp hm => by (have h7 := HT.out.dv.lt _ hm); (have h8 := hx2 p hp); omega)); clear hR2 hB2 hx2)
    refine HC2.out.mono ?_
    rintro e w3 ⟨rfl, v3, hT3⟩
    have HT3 := Lib.hid hT3
    clear hT3
    go_wp2
    go_ret
    exact ⟨rfl, v3, HT3.out.sub (List.sublist_cons_self _ _)⟩
  · have HP := Lib.hid (show plD D ⟨two, kd, blk, num, len, fill, B, F⟩ = (0, D) from by unfold plD; rw [if_neg k3, if_neg k4, if_neg k9, if_neg k6, if_neg k8])
    rw [HP.out]
    have e3 : (kd == 3) = false := by simp [k3]
    have e4 : (kd == 4) = false := by simp [k4]
    have e9 : (kd == 9) = false := by simp [k9]
    have e6 : (kd == 6) = false := by simp [k6]
    have e8 : (kd == 8) = false := by simp [k8]
    rw [HO.out] at HT
    clear hd k3 k4 k9 k6 k8
    go_enter Try.func24, Try.ntmps24
    go_wp2
    go_ret
    exact ⟨rfl, vc, HT.out.sub (List.sublist_cons_self _ _)⟩
end Go.Proofs.Ytjbffahmjhbpjaa
/- The device's Counts. -/
set_option linter.unusedVariables false
set_option linter.unusedSimpArgs false
set_option maxRecDepth 100000
namespace Go.Proofs.Ytjbffahmjhbpjaa
open Go.RowKit
theorem sz_cnt : (Try.prog.info? 57).map (·.size) = some 3 := by kernel_rfl
def cntV (D : DS) : Value := .agg #[.int .i64 D.rd, .int .i64 D.wr, .int .i64 D.fl]
theorem dv_Counts (w : World) (b g : Nat) (vc : Value) (D : DS) (h : IsV w b g vc D) :
    Calls Try.prog 28 #[.pointer (some ⟨b, 0, none⟩)] w fun e w' => e = .returned (cntV D) ∧ Below w.heap.size w w' := by
  have hb : b < w.heap.size := lt_of_block h.dev.st
  have c5 : w.cell? ⟨b, 5, none⟩ = some (.int .i64 (D.rd : Int)) := h.dev.cell 5
  have c6 : w.cell? ⟨b, 6, none⟩ = some (.int .i64 (D.wr : Int)) := h.dev.cell 6
  have c7 : w.cell? ⟨b, 7, none⟩ = some (.int .i64 (D.fl : Int)) := h.dev.cell 7
  clear h
  go_enter Try.func28, Try.ntmps28
  go_wp2
  (try simp only [Exit.inBlock, Exit.then])
  exact bodyPost_ret (results_cell_row rfl _ _ w.heap.size 57 _ (0, 0) _ rfl (heap_alloc_new w _) Try.underlying57 rfl sz_cnt) rfl ⟨rfl, (Below.refl _ w).alloc (Nat.le_refl _) _⟩
/-- a refused step changes neither medium nor cache nor counts -/
theorem plD_refused (D : DS) (x : OpD) (h : (plD D x).1 ≠ 0) : (plD D x).2.M = D.M ∧ (plD D x).2.C = D.C ∧ (plD D x).2.rd = D.rd ∧ (plD D x).2.wr = D.wr ∧ (plD D x).2.fl = D.fl := by
  have hk := actD_keeps D
  have hA : (actD D).2.M = D.M ∧ (actD D).2.C = D.C ∧ (actD D).2.rd = D.rd ∧ (actD D).2.wr = D.wr ∧ (actD D).2.fl = D.fl := ⟨hk.2.1, hk.1, hk.2.2.2.1, hk.2.2.2.2.1, hk.2.2.2.2.2⟩
  revert h
  unfold plD
  split
  · unfold wrD; split
    · exact fun _ => ⟨rfl, rfl, rfl, rfl, rfl⟩
    · split
      · exact fun _ => ⟨rfl, rfl, rfl, rfl, rfl⟩
      · split
        · exact fun h => absurd rfl h
        · exact fun _ => hA
  · split
    · unfold flD; split
      · exact fun h => absurd rfl h
      · exact fun _ => hA
    · split
      · unfold edD; split
        · exact fun _ => ⟨rfl, rfl, rfl, rfl, rfl⟩
        · split
          · exact fun _ => ⟨rfl, rfl, rfl, rfl, rfl⟩
          · exact fun h => absurd rfl h
      · split
        · unfold armD; split
          · exact fun _ => ⟨rfl, rfl, rfl, rfl, rfl⟩
          · split
            · exact fun _ => ⟨rfl, rfl, rfl, rfl, rfl⟩
            · exact fun h => absurd rfl h
        · split
          · exact fun h => absurd rfl h
          · exact fun _ => ⟨rfl, rfl, rfl, rfl, rfl⟩
theorem actD_n (D : DS) : (actD D).2.n = D.n := (actD_keeps D).2.2.1
theorem plD_n (D : DS) (x : OpD) : (plD D x).2.n = D.n := by
  unfold plD
  split
  · unfold wrD; split
    · rfl
    · split
      · rfl
      · split
        · exact actD_n D
        · exact actD_n D
  · split
    · unfold flD; split
      · exact actD_n D
      · exact actD_n D
    · split
      · unfold edD; split
        · rfl
        · split <;> rfl
      · split
        · unfold armD; split
          · rfl
          · split <;> rfl
        · split <;> rfl
theorem liveD_le : liveD.le 1 := ⟨by decide, by decide, by decide, by decide, by decide⟩
theorem DS.le.mono {D : DS} {m m' : Nat} (h : D.le m) (hm : m ≤ m') : D.le m' := ⟨h.left, Nat.le_trans h.ca hm, Nat.le_trans h.wr hm, Nat.le_trans h.fl hm, Nat.le_trans h.rd hm⟩
end Go.Proofs.Ytjbffahmjhbpjaa
/- What layings do to a block: the plain part of DevStays, DevLeaves. -/
set_option linter.unusedVariables false
set_option linter.unusedSimpArgs false
set_option maxRecDepth 100000
namespace Go.Proofs.Ytjbffahmjhbpjaa
open Go.RowKit
theorem blkM_splice_out (M X : List UInt8) (off k : Nat) (h : off + X.length ≤ M.length) (ho : off + X.length ≤ k * 512 ∨ k * 512 + 512 ≤ off) : blkM (splice M off X) k = blkM M k := by
  apply List.ext_getElem?
  intro i
  by_cases hi : i < 512
  · rw [blkM_get _ _ _ hi, blkM_get _ _ _ hi, splice_get _ _ _ _ h, if_neg (by omega)]
  · have h1 : ∀ M : List UInt8, (blkM M k)[i]? = none := fun M => List.getElem?_eq_none (by unfold blkM; rw [List.length_take]; omega)
    rw [h1, h1]
theorem layP_other {M : List UInt8} {x : Pd} {m N k : Nat} (hM : M.length = N * 512) (h1 : x.num < N) (h2 : x.data.length = 512) (hne : x.num ≠ k) : blkM (layP M x m) k = blkM M k := by
  have h3 : (x.data.take m).length ≤ 512 := by rw [List.length_take]; omega
  refine blkM_splice_out M (x.data.take m) (x.num * 512) k (by omega) ?_
  rcases (by omega : x.num < k ∨ k < x.num) with h | h
  · left; omega
  · right; omega
theorem layP_same {M : List UInt8} {x : Pd} {m N : Nat} (hM : M.length = N * 512) (h1 : x.num < N) (h2 : x.data.length = 512) : blkM (layP M x m) x.num = x.data.take m ++ (blkM M x.num).drop m := by
  have h3 : (x.data.take m).length = min m 512 := by rw [List.length_take, h2]
  have hb : ∀ M : List UInt8, M.length = N * 512 → (blkM M x.num).length = 512 := fun M h => blkM_len M x.num (by rw [h]; have : (x.num + 1) * 512 ≤ N * 512 := Nat.mul_le_mul_right _ h1; omega)
  apply List.ext_getElem?
  intro i
  by_cases hi : i < 512
  · rw [blkM_get _ _ _ hi, layP, splice_get _ _ _ _ (by omega)]
    by_cases him : i < m
    · rw [if_pos (by omega), List.getElem?_append_left (by omega)]
      congr 1; omega
    · rw [if_neg (by omega), List.getElem?_append_right (by omega), List.getElem?_drop, h3, blkM_get _ _ _ (by omega)]
      congr 1; omega
  · rw [List.getElem?_eq_none (by rw [hb _ (layP_len hM h1 h2)]; omega), List.getElem?_eq_none (by rw [List.length_append, List.length_drop, hb M hM]; omega)]
theorem layA_len {f : Nat → Nat} {N : Nat} : ∀ (i : Nat) (C : List Pd) (M : List UInt8), PdOk N C → M.length = N * 512 → (layA f i C M).length = N * 512
  | i, [], M, _, h => h
  | i, x :: r, M, hc, h => by
    rw [layA]
    exact layA_len (i + 1) r _ (fun y hy => hc y (by simp [hy])) (layP_len h (hc x (by simp)).1 (hc x (by simp)).2)
theorem layA_other {f : Nat → Nat} {N k : Nat} : ∀ (i : Nat) (C : List Pd) (M : List UInt8), PdOk N C → M.length = N * 512 → (∀ x ∈ C, x.num ≠ k) → blkM (layA f i C M) k = blkM M k
  | i, [], M, _, _, _ => rfl
  | i, x :: r, M, hc, h, hne => by
    have hx := hc x (by simp)
    rw [layA, layA_other (i + 1) r _ (fun y hy => hc y (by simp [hy])) (layP_len h hx.1 hx.2) (fun y hy => hne y (by simp [hy])), layP_other h hx.1 hx.2 (hne x (by simp))]
theorem layA_full {N k : Nat} : ∀ (i : Nat) (C : List Pd) (M : List UInt8), PdOk N C → M.length = N * 512 → blkM (layA (fun _ => 512) i C M) k = rdC C k (blkM M k)
  | i, [], M, _, _ => rfl
  | i, x :: r, M, hc, h => by
    have hx := hc x (by simp)
    rw [layA, layA_full (i + 1) r _ (fun y hy => hc y (by simp [hy])) (layP_len h hx.1 hx.2), rdC]
    by_cases he : x.num = k
    · subst he
      rw [if_pos rfl, layP_same h hx.1 hx.2, List.take_of_length_le (by omega), List.drop_eq_nil_of_le (by unfold blkM; rw [List.length_take]; omega), List.append_nil]
    · rw [if_neg he, layP_other h hx.1 hx.2 he]
/-- a step that neither writes nor edits block k -/
def offK (x : OpD) (k : Nat) : Prop := ¬ ((x.kind = 3 ∨ x.kind = 9) ∧ x.blk = (k : Int))
theorem plD_keep {D : DS} {k : Nat} (x : OpD) (hM : D.M.length = D.n * 512) (hC : PdOk D.n D.C) (hk : k < D.n) (hne : ∀ y ∈ D.C, y.num ≠ k) (hs : offK x k) : (∀ y ∈ (plD D x).2.C, y.num ≠ k) ∧ blkM (plD D x).2.M k = blkM D.M k := by
  have ha := actD_keeps D
  have hA : (∀ y ∈ (actD D).2.C, y.num ≠ k) ∧ blkM (actD D).2.M k = blkM D.M k := by rw [ha.1, ha.2.1]; exact ⟨hne, rfl⟩
  unfold plD
  split
  · rename_i h3
    unfold wrD; split
    · exact ⟨hne, rfl⟩
    · split
      · exact ⟨hne, rfl⟩
      · split
        · refine ⟨fun y hy => ?_, hA.2⟩
          rcases List.mem_append.1 hy with hy | hy
          · exact hA.1 y hy
          · rw [List.mem_singleton.1 hy]
            intro e
            have e2 : x.blk.toNat = k := e
            exact hs ⟨.inl h3, by omega⟩
        · exact hA
  · split
    · unfold flD; split
      · refine ⟨by simp, ?_⟩
        show blkM (layA (fun _ => 512) 0 (actD D).2.C (actD D).2.M) k = _
        rw [ha.1, ha.2.1]
        exact layA_other 0 D.C D.M hC hM hne
      · exact hA
    · split
      · rename_i h9
        unfold edD; split
        · exact ⟨hne, rfl⟩
        · split
          · exact ⟨hne, rfl⟩
          · rename_i h1 h2
            refine ⟨hne, ?_⟩
            have h10 : x.blk ≠ (k : Int) := fun e => hs ⟨.inr h9, e⟩
            have h11 : 0 ≤ x.blk ∧ x.blk < (D.n : Int) := by omega
            have h12 : (x.blk.toNat + 1) * 512 ≤ D.n * 512 := Nat.mul_le_mul_right _ (by omega)
            have h13 : x.num.toNat + x.B.length ≤ 512 := by omega
            refine blkM_splice_out D.M x.B _ k (by omega) ?_
            rcases (by omega : x.blk.toNat < k ∨ k < x.blk.toNat) with h | h
            · left; omega
            · right; omega
      · split
        · unfold armD; split
          · exact ⟨hne, rfl⟩
          · split <;> exact ⟨hne, rfl⟩
        · split
          · refine ⟨by simp [crD], ?_⟩
            exact layA_other 0 D.C D.M hC hM hne
          · exact ⟨hne, rfl⟩
theorem fl_stays {D : DS} {k : Nat} (hM : D.M.length = D.n * 512) (hC : PdOk D.n D.C) (hf : (flD D).1 = 0) : (∀ y ∈ (flD D).2.C, y.num ≠ k) ∧ blkM (flD D).2.M k = rdB D k := by
  have ha := actD_keeps D
  revert hf
  unfold flD; split
  · intro _
    refine ⟨by simp, ?_⟩
    show blkM (layA (fun _ => 512) 0 (actD D).2.C (actD D).2.M) k = _
    rw [ha.1, ha.2.1]
    exact layA_full 0 D.C D.M hC hM
  · intro h; exact absurd h (by show ¬ ((6 : Int) = 0); decide)
theorem fl_down (D : DS) (hf : (flD D).1 ≠ 0) : (flD D).2.down = true := by
  revert hf
  unfold flD; split
  · intro h; exact absurd rfl h
  · rename_i h
    intro _
    revert h
    unfold actD; split
    · intro _; rfl
    · split
      · intro _; assumption
      · split <;> (intro h; exact absurd rfl h)
theorem flD_le {D : DS} {m : Nat} (h : D.le m) : (flD D).2.le (m + 1) := plD_le (D := D) ⟨false, 4, 0, 0, 0, 0, [], []⟩ ⟨by unfold i64B; simp, by unfold i64B; simp, by unfold i64B; simp, by unfold i64B; simp, by simp, by simp⟩ h
theorem flD_n (D : DS) : (flD D).2.n = D.n := plD_n D ⟨false, 4, 0, 0, 0, 0, [], []⟩
theorem crD_le {D : DS} {m : Nat} (l : List Ft) (h : D.le m) : (crD D l).le m := ⟨by show 0 < _; omega, Nat.zero_le _, h.wr, h.fl, h.rd⟩
end Go.Proofs.Ytjbffahmjhbpjaa
