/- The law AnchorCodes holds for every input: the row, out of its walk. No condition. -/
import Derived.Test.YtggoaelbglhehaaMgA11
import Derived.SizedLaws
import Derived.ChangeSlices
import Derived.ProofKit
import Derived.OpenShut
import Derived.Lib.SmallJoins
import Derived.Test.YtggoaelbglhehaaRows
import Derived.WalkKit
import Derived.ShutString
import Derived.ChangeOld
import Derived.Below
/- AnchorCodes: every answer of Valid, Encode and Decode is the reference's: the walk. -/
set_option linter.unusedVariables false
set_option linter.unusedSimpArgs false
set_option maxRecDepth 100000
namespace Go.Proofs.Ytggoaelbglhehaa
open Go.RowKit SumMath
def markA : List UInt8 := [165, 166, 167]
/-- Encode, of the program and of the reference alike -/
theorem an_EncodeG (s : Sp) (hs : s.ok) (w : World) : Calls Try.prog 9 #[.agg (spC s)] w fun e w' => ∃ A n c, e = .returned (.tuple #[.slice A n c, .int .i64 (if Vld s s.blocks then 0 else 1)]) ∧ Rd w' A n c (if Vld s s.blocks then encL s else []) ∧ Below w.heap.size w w' := by
  by_cases hv : Vld s s.blocks
  · rw [if_pos hv, if_pos hv]
    refine (an_Encode s hs hv w).mono ?_
    rintro e w' ⟨g, rfl, hO, hb⟩
    exact ⟨_, 512, 512, rfl, hO.rdC (by omega), hb⟩
  · rw [if_neg hv, if_neg hv]
    refine (an_Encode_bad s hs hv w).mono ?_
    rintro e w' ⟨rfl, hb⟩
    exact ⟨none, 0, 0, rfl, Rd.nil _, hb⟩
theorem rn_EncodeG (s : Sp) (hs : s.ok) (w : World) : Calls Try.prog 10 #[.agg (spC s)] w fun e w' => ∃ A n c, e = .returned (.tuple #[.slice A n c, .int .i64 (if Vld s s.blocks then 0 else 1)]) ∧ Rd w' A n c (if Vld s s.blocks then encL s else []) ∧ Below w.heap.size w w' := by
  by_cases hv : Vld s s.blocks
  · rw [if_pos hv, if_pos hv]
    refine (rn_Encode s hs hv w).mono ?_
    rintro e w' ⟨g, rfl, hO, hb⟩
    exact ⟨_, 512, 512, rfl, hO.rdC (by omega), hb⟩
  · rw [if_neg hv, if_neg hv]
    refine (rn_Encode_bad s hs hv w).mono ?_
    rintro e w' ⟨rfl, hb⟩
    exact ⟨none, 0, 0, rfl, Rd.nil _, hb⟩
section
variable {P : Program} {ops : Array Oper} {Q : Exit → Act → World → Prop} {a : Act} {w : World} {rest : List Oper} {o : Oper}
theorem wpList_yes (hw : Region.wanted o (yielded ops a.tmps) = true) (h : ∀ K : Act → World → Prop, (∀ a' w', wpList P ops Q rest a' w' → K a' w') → o.wp P a w K Q) : wpList P ops Q (o :: rest) a w := by
  show if Region.wanted o (yielded ops a.tmps) = true then _ else _
  rw [if_pos hw]
  exact .inl (h _ fun _ _ h => h)
/-- append(v, ys...), behind a guard that holds -/
theorem wp_appG {w0 W : World} (base : Nat) {v : Value} {n : Nat} {xs ys : List UInt8} {A : Option Addr} {m c : Nat}
    (HO : Own W base v n xs) (HR : Rd W A m c ys) (HB : Below base w0 W) (hbase : base ≤ W.heap.size) (hl : n + m ≤ 140737490452480) (s x : Operand) (hw : Region.wanted o (yielded ops a.tmps) = true)
    (ho : o.op = .call { callee := .builtin .append, args := #[s, x], argTypes := #[26, 26] }) (hs : a.eval s = v) (hx : a.eval x = .slice A m c)
    (h : ∀ v1 w1, Own w1 base v1 (n + m) (xs ++ ys) → Below base w0 w1 → W.grownBy w1 v.ownBlock → (v1.ownBlock = v.ownBlock ∨ v1.ownBlock = some W.heap.size) → wpList Try.prog ops Q rest (a.put o.dst v1) w1) :
    wpList Try.prog ops Q (o :: rest) a W := by
  obtain ⟨v1, w1, hr, hown, hg, hat⟩ := run_app base o.type HO HR hbase hl
  refine wpList_yes hw fun K hK => ?_
  unfold Oper.wp execOp
  simp only [ho, resolve, invoke, builtin, Sem.run_bind, Sem.run_pure, Result.andThen_ok, List.map_toArray, List.map_cons, List.map_nil, hs, hx, hr]
  refine hK _ _ (h v1 w1 hown (HB.grown hg hbase ?_) hg hat)
  intro k hk
  exact ((World.ownsRow.lt HO) k hk).1
end
theorem take_app {l m : List UInt8} {n : Nat} (h : l.length = n) : (l ++ m).take n = l := by rw [← h]; simp
set_option maxHeartbeats 1600000 in
theorem walk_AnchorCodes (s : Sp) (blocks : Int) (A : Option Addr) (n c : Nat) (L : List UInt8) (w : World) (hs : s.ok) (_ : -9223372036854775808 ≤ blocks ∧ blocks < 9223372036854775808) (hr : Rd w A n c L) (hz : n ≤ 140737488351232) :
    Calls Try.prog 3 #[.agg (spC s), .int .i64 blocks, .slice A n c] w fun e w' => e = .returned (.bool true) ∧ Below w.heap.size w w' := by
  obtain ⟨q, hq0⟩ : ∃ q, q = w.heap.size := ⟨_, rfl⟩
  have HEN := Lib.hid (an_EncodeG s hs)
  have HEM := Lib.hid (rn_EncodeG s hs)
  have HV1 := Lib.hid (an_Valid s blocks hs)
  have HV2 := Lib.hid (rn_Valid s blocks hs)
  have HV3 := Lib.hid (an_Valid s s.blocks hs)
  have HV4 := Lib.hid (rn_Valid s s.blocks hs)
  obtain ⟨B1, hB1⟩ : ∃ B1, B1 = decide (Vld s blocks) := ⟨_, rfl⟩
  obtain ⟨B2, hB2⟩ : ∃ B2, B2 = decide (Vld s s.blocks) := ⟨_, rfl⟩
  rw [← hB1] at HV1 HV2
  rw [← hB2] at HV3 HV4
  obtain ⟨EL, hEL⟩ : ∃ EL, EL = if Vld s s.blocks then encL s else [] := ⟨_, rfl⟩
  obtain ⟨EC, hEC⟩ : ∃ EC : Int, EC = if Vld s s.blocks then 0 else 1 := ⟨_, rfl⟩
  rw [← hEL, ← hEC] at HEN HEM
  have HX := Lib.hid (heap_alloc_new w (spO s))
  have HB0 := Lib.hid ((Below.refl _ w).alloc (Nat.le_refl _) (spO s))
  have HCB := Lib.hid (show ∀ W : World, W.heap[q]? = some (spO s) → _ from fun W h => cell9 h)
  rw [← hq0] at HX
  obtain ⟨ENC, hENC⟩ : ∃ o, o = spO s := ⟨_, rfl⟩
  have HR := Lib.hid hr
  have HLN := Lib.hid hr.len
  have HENC := Lib.hid hENC
  clear hB1 hB2 hEL hEC hs hr hENC
  obtain ⟨sg, se, sb, sl, ss, sa, sr, sc, sv⟩ := s
  unfold spC at HEN HEM HV1 HV2 HV3 HV4 ⊢
  dsimp only at HEN HEM HV1 HV2 HV3 HV4 HCB ⊢
  have HQ := Lib.hid hq0
  clear hq0
  go_enter Try.func3, Try.ntmps3
  go_wp2_with fail
  obtain ⟨W1, hW1⟩ : ∃ W1, W1 = w.alloc (.cells #[.int .i64 sg, .int .i64 se, .int .i64 sb, .int .i64 sl, .int .i64 ss, .int .i64 sa, .int .i64 sr, .int .i64 sc, .int .i64 sv] 25) := ⟨_, rfl⟩
  rw [← hW1, ← HQ.out]
  have HX1 := Lib.hid (show W1.heap[q]? = some (spO ⟨sg, se, sb, sl, ss, sa, sr, sc, sv⟩) by rw [hW1]; exact HX.out)
  have HB1 := Lib.hid (show Below w.heap.size w W1 by rw [hW1]; exact HB0.out)
  clear hW1 HX HB0
  refine (l11_fixed W1).mono ?_
  rintro e w2 ⟨rfl, hB⟩
  have HX2 := Lib.hid ((hB.block q (lt_of_block HX1.out)).trans HX1.out)
  have HB2 := Lib.hid (HB1.out.trans (hB.mono HB1.out.size))
  have hd := HCB.out _ HX2.out
  clear hB
  go_wp2_with fail
  refine (HEN.out _).mono ?_
  rintro e w3 ⟨A3, n3, c3, rfl, hr3, hB⟩
  have HR3 := Lib.hid hr3
  have HX3 := Lib.hid ((hB.block q (lt_of_block HX2.out)).trans HX2.out)
  have HB3 := Lib.hid (HB2.out.trans (hB.mono HB2.out.size))
  clear hd
  have hd := HCB.out _ HX3.out
  clear hB hr3
  go_wp2_with fail
  refine (HEM.out _).mono ?_
  rintro e w4 ⟨A4, n4, c4, rfl, hr4, hB⟩
  have HR4 := Lib.hid hr4
  have HR34 := Lib.hid (HR3.out.ext hB)
  have HX4 := Lib.hid ((hB.block q (lt_of_block HX3.out)).trans HX3.out)
  have HB4 := Lib.hid (HB3.out.trans (hB.mono HB3.out.size))
  clear hd hB hr4
  go_wp2_with fail
  have hR0 := HCB.out w4.drew HX4.out
  have HK0 := Lib.hid (show Below w4.heap.size w4 w4.drew from (Below.refl _ w4).drew)
  refine wp_region_z (fun w' => w'.cell? ⟨q, 0, none⟩ = some (.int .i64 sg) ∧ w'.cell? ⟨q, 1, none⟩ = some (.int .i64 se) ∧ w'.cell? ⟨q, 2, none⟩ = some (.int .i64 sb) ∧ w'.cell? ⟨q, 3, none⟩ = some (.int .i64 sl) ∧ w'.cell? ⟨q, 4, none⟩ = some (.int .i64 ss) ∧ w'.cell? ⟨q, 5, none⟩ = some (.int .i64 sa) ∧ w'.cell? ⟨q, 6, none⟩ = some (.int .i64 sr) ∧ w'.cell? ⟨q, 7, none⟩ = some (.int .i64 sc) ∧ w'.cell? ⟨q, 8, none⟩ = some (.int .i64 sv)) (fun _ => True) 29 (by kernel_rfl) ?_
  refine wpAnyZ.take (i := 0) (v := .agg #[.int .i64 sg, .int .i64 se, .int .i64 sb, .int .i64 sl, .int .i64 ss, .int .i64 sa, .int .i64 sr, .int .i64 sc, .int .i64 sv]) (U := (fun w' => w'.cell? ⟨q, 0, none⟩ = some (.int .i64 sg) ∧ w'.cell? ⟨q, 1, none⟩ = some (.int .i64 se) ∧ w'.cell? ⟨q, 2, none⟩ = some (.int .i64 sb) ∧ w'.cell? ⟨q, 3, none⟩ = some (.int .i64 sl) ∧ w'.cell? ⟨q, 4, none⟩ = some (.int .i64 ss) ∧ w'.cell? ⟨q, 5, none⟩ = some (.int .i64 sa) ∧ w'.cell? ⟨q, 6, none⟩ = some (.int .i64 sr) ∧ w'.cell? ⟨q, 7, none⟩ = some (.int .i64 sc) ∧ w'.cell? ⟨q, 8, none⟩ = some (.int .i64 sv))) rfl (by kernel_rfl) (by kernel_rfl) (by kernel_rfl) (by decide) (fun _ _ _ h => h) (.inl fun _ h => h) (.inr fun _ h => h) (.inl ⟨by rfl, fun w hw => ?zy⟩) hR0 hR0 (fun _ => trivial) ?_
  case zy => (dsimp only at hw; obtain ⟨z0, z1, z2, z3, z4, z5, z6, z7, z8⟩ := hw; go_simp)
  (try simp only [Act.put, List.getElem_toArray, List.getElem_cons_zero, List.getElem_cons_succ, List.setIfInBounds_toArray, List.set_cons_zero, List.set_cons_succ])
  refine wpAnyZ.takeN (i := 1) (v := .int .i64 blocks) rfl (by kernel_rfl) (by kernel_rfl) (by kernel_rfl) (by decide) (fun _ _ _ h => h) (by rfl) (fun w => ?zy) hR0 (fun _ => trivial) ?_
  case zy => go_simp
  (try simp only [Act.put, List.getElem_toArray, List.getElem_cons_zero, List.getElem_cons_succ, List.setIfInBounds_toArray, List.set_cons_zero, List.set_cons_succ])
  refine wpAnyZ.take (i := 3) (v := .agg #[.int .i64 sg, .int .i64 se, .int .i64 sb, .int .i64 sl, .int .i64 ss, .int .i64 sa, .int .i64 sr, .int .i64 sc, .int .i64 sv]) (U := (fun w' => w'.cell? ⟨q, 0, none⟩ = some (.int .i64 sg) ∧ w'.cell? ⟨q, 1, none⟩ = some (.int .i64 se) ∧ w'.cell? ⟨q, 2, none⟩ = some (.int .i64 sb) ∧ w'.cell? ⟨q, 3, none⟩ = some (.int .i64 sl) ∧ w'.cell? ⟨q, 4, none⟩ = some (.int .i64 ss) ∧ w'.cell? ⟨q, 5, none⟩ = some (.int .i64 sa) ∧ w'.cell? ⟨q, 6, none⟩ = some (.int .i64 sr) ∧ w'.cell? ⟨q, 7, none⟩ = some (.int .i64 sc) ∧ w'.cell? ⟨q, 8, none⟩ = some (.int .i64 sv))) rfl (by kernel_rfl) (by kernel_rfl) (by kernel_rfl) (by decide) (fun _ _ _ h => h) (.inl fun _ h => h) (.inr fun _ h => h) (.inl ⟨by rfl, fun w hw => ?zy⟩) hR0 hR0 (fun _ => trivial) ?_
  case zy => (dsimp only at hw; obtain ⟨z0, z1, z2, z3, z4, z5, z6, z7, z8⟩ := hw; go_simp)
  (try simp only [Act.put, List.getElem_toArray, List.getElem_cons_zero, List.getElem_cons_succ, List.setIfInBounds_toArray, List.set_cons_zero, List.set_cons_succ])
  refine wpAnyZ.takeN (i := 4) (v := .int .i64 blocks) rfl (by kernel_rfl) (by kernel_rfl) (by kernel_rfl) (by decide) (fun _ _ _ h => h) (by rfl) (fun w => ?zy) hR0 (fun _ => trivial) ?_
  case zy => go_simp
  (try simp only [Act.put, List.getElem_toArray, List.getElem_cons_zero, List.getElem_cons_succ, List.setIfInBounds_toArray, List.set_cons_zero, List.set_cons_succ])
  refine wpAnyZ.oneK (i := 2) (E := False) (by kernel_rfl) rfl (by rfl) (fun K hK => ?_)
  go_simp
  refine (HV1.out _).mono ?_
  rintro e w5 ⟨rfl, hB⟩
  have HK5 := Lib.hid (HK0.out.trans (hB.mono HK0.out.size))
  have hR5 := HCB.out _ ((HK5.out.block q (lt_of_block HX4.out)).trans HX4.out)
  clear hB
  go_wp2_with fail
  refine hK.out _ _ ⟨⟨hR5, fun _ => trivial⟩, ?_⟩
  clear hK hR0
  (try simp only [Act.put, List.getElem_toArray, List.getElem_cons_zero, List.getElem_cons_succ, List.setIfInBounds_toArray, List.set_cons_zero, List.set_cons_succ])
  refine wpAnyZ.oneK (i := 5) (E := False) (by kernel_rfl) rfl (by rfl) (fun K hK => ?_)
  go_simp
  refine (HV2.out _).mono ?_
  rintro e w6 ⟨rfl, hB⟩
  have HK6 := Lib.hid (HK5.out.trans (hB.mono HK5.out.size))
  have hR6 := HCB.out _ ((HK6.out.block q (lt_of_block HX4.out)).trans HX4.out)
  clear hB
  go_wp2_with fail
  refine hK.out _ _ ⟨⟨hR6, fun _ => trivial⟩, ?_⟩
  clear hK hR5
  (try simp only [Act.put, List.getElem_toArray, List.getElem_cons_zero, List.getElem_cons_succ, List.setIfInBounds_toArray, List.set_cons_zero, List.set_cons_succ])
  refine wpAnyZ.takeN (i := 6) (v := .bool false) rfl (by kernel_rfl) (by kernel_rfl) (by kernel_rfl) (by decide) (fun _ _ _ h => h) (by rfl) (fun w => ?zy) hR6 (fun _ => trivial) ?_
  case zy => go_simp
  (try simp only [Act.put, List.getElem_toArray, List.getElem_cons_zero, List.getElem_cons_succ, List.setIfInBounds_toArray, List.set_cons_zero, List.set_cons_succ])
  refine wpAnyZ.takeN (i := 7) (v := .bool false) rfl (by kernel_rfl) (by kernel_rfl) (by kernel_rfl) (by decide) (fun _ _ _ h => h) (by rfl) (fun w => ?zy) hR6 (fun _ => trivial) ?_
  case zy => go_simp
  (try simp only [Act.put, List.getElem_toArray, List.getElem_cons_zero, List.getElem_cons_succ, List.setIfInBounds_toArray, List.set_cons_zero, List.set_cons_succ])
  refine wpAnyZ.take (i := 8) (v := .agg #[.int .i64 sg, .int .i64 se, .int .i64 sb, .int .i64 sl, .int .i64 ss, .int .i64 sa, .int .i64 sr, .int .i64 sc, .int .i64 sv]) (U := (fun w' => w'.cell? ⟨q, 0, none⟩ = some (.int .i64 sg) ∧ w'.cell? ⟨q, 1, none⟩ = some (.int .i64 se) ∧ w'.cell? ⟨q, 2, none⟩ = some (.int .i64 sb) ∧ w'.cell? ⟨q, 3, none⟩ = some (.int .i64 sl) ∧ w'.cell? ⟨q, 4, none⟩ = some (.int .i64 ss) ∧ w'.cell? ⟨q, 5, none⟩ = some (.int .i64 sa) ∧ w'.cell? ⟨q, 6, none⟩ = some (.int .i64 sr) ∧ w'.cell? ⟨q, 7, none⟩ = some (.int .i64 sc) ∧ w'.cell? ⟨q, 8, none⟩ = some (.int .i64 sv))) rfl (by kernel_rfl) (by kernel_rfl) (by kernel_rfl) (by decide) (fun _ _ _ h => h) (.inl fun _ h => h) (.inr fun _ h => h) (.inl ⟨by rfl, fun w hw => ?zy⟩) hR6 hR6 (fun _ => trivial) ?_
  case zy => (dsimp only at hw; obtain ⟨z0, z1, z2, z3, z4, z5, z6, z7, z8⟩ := hw; go_simp)
  (try simp only [Act.put, List.getElem_toArray, List.getElem_cons_zero, List.getElem_cons_succ, List.setIfInBounds_toArray, List.set_cons_zero, List.set_cons_succ])
  refine wpAnyZ.takeN (i := 9) (v := .pointer (some ⟨q, 2, none⟩)) rfl (by kernel_rfl) (by kernel_rfl) (by kernel_rfl) (by decide) (fun _ _ _ h => h) (by rfl) (fun w => ?zy) hR6 (fun _ => trivial) ?_
  case zy => go_simp
  (try simp only [Act.put, List.getElem_toArray, List.getElem_cons_zero, List.getElem_cons_succ, List.setIfInBounds_toArray, List.set_cons_zero, List.set_cons_succ])
  refine wpAnyZ.take (i := 10) (v := .int .i64 sb) (U := (fun w' => w'.cell? ⟨q, 0, none⟩ = some (.int .i64 sg) ∧ w'.cell? ⟨q, 1, none⟩ = some (.int .i64 se) ∧ w'.cell? ⟨q, 2, none⟩ = some (.int .i64 sb) ∧ w'.cell? ⟨q, 3, none⟩ = some (.int .i64 sl) ∧ w'.cell? ⟨q, 4, none⟩ = some (.int .i64 ss) ∧ w'.cell? ⟨q, 5, none⟩ = some (.int .i64 sa) ∧ w'.cell? ⟨q, 6, none⟩ = some (.int .i64 sr) ∧ w'.cell? ⟨q, 7, none⟩ = some (.int .i64 sc) ∧ w'.cell? ⟨q, 8, none⟩ = some (.int .i64 sv))) rfl (by kernel_rfl) (by kernel_rfl) (by kernel_rfl) (by decide) (fun _ _ _ h => h) (.inl fun _ h => h) (.inr fun _ h => h) (.inl ⟨by rfl, fun w hw => ?zy⟩) hR6 hR6 (fun _ => trivial) ?_
  case zy => (dsimp only at hw; obtain ⟨z0, z1, z2, z3, z4, z5, z6, z7, z8⟩ := hw; go_simp)
  (try simp only [Act.put, List.getElem_toArray, List.getElem_cons_zero, List.getElem_cons_succ, List.setIfInBounds_toArray, List.set_cons_zero, List.set_cons_succ])
  refine wpAnyZ.take (i := 12) (v := .agg #[.int .i64 sg, .int .i64 se, .int .i64 sb, .int .i64 sl, .int .i64 ss, .int .i64 sa, .int .i64 sr, .int .i64 sc, .int .i64 sv]) (U := (fun w' => w'.cell? ⟨q, 0, none⟩ = some (.int .i64 sg) ∧ w'.cell? ⟨q, 1, none⟩ = some (.int .i64 se) ∧ w'.cell? ⟨q, 2, none⟩ = some (.int .i64 sb) ∧ w'.cell? ⟨q, 3, none⟩ = some (.int .i64 sl) ∧ w'.cell? ⟨q, 4, none⟩ = some (.int .i64 ss) ∧ w'.cell? ⟨q, 5, none⟩ = some (.int .i64 sa) ∧ w'.cell? ⟨q, 6, none⟩ = some (.int .i64 sr) ∧ w'.cell? ⟨q, 7, none⟩ = some (.int .i64 sc) ∧ w'.cell? ⟨q, 8, none⟩ = some (.int .i64 sv))) rfl (by kernel_rfl) (by kernel_rfl) (by kernel_rfl) (by decide) (fun _ _ _ h => h) (.inl fun _ h => h) (.inr fun _ h => h) (.inl ⟨by rfl, fun w hw => ?zy⟩) hR6 hR6 (fun _ => trivial) ?_
  case zy => (dsimp only at hw; obtain ⟨z0, z1, z2, z3, z4, z5, z6, z7, z8⟩ := hw; go_simp)
  (try simp only [Act.put, List.getElem_toArray, List.getElem_cons_zero, List.getElem_cons_succ, List.setIfInBounds_toArray, List.set_cons_zero, List.set_cons_succ])
  refine wpAnyZ.takeN (i := 13) (v := .pointer (some ⟨q, 2, none⟩)) rfl (by kernel_rfl) (by kernel_rfl) (by kernel_rfl) (by decide) (fun _ _ _ h => h) (by rfl) (fun w => ?zy) hR6 (fun _ => trivial) ?_
  case zy => go_simp
  (try simp only [Act.put, List.getElem_toArray, List.getElem_cons_zero, List.getElem_cons_succ, List.setIfInBounds_toArray, List.set_cons_zero, List.set_cons_succ])
  refine wpAnyZ.take (i := 14) (v := .int .i64 sb) (U := (fun w' => w'.cell? ⟨q, 0, none⟩ = some (.int .i64 sg) ∧ w'.cell? ⟨q, 1, none⟩ = some (.int .i64 se) ∧ w'.cell? ⟨q, 2, none⟩ = some (.int .i64 sb) ∧ w'.cell? ⟨q, 3, none⟩ = some (.int .i64 sl) ∧ w'.cell? ⟨q, 4, none⟩ = some (.int .i64 ss) ∧ w'.cell? ⟨q, 5, none⟩ = some (.int .i64 sa) ∧ w'.cell? ⟨q, 6, none⟩ = some (.int .i64 sr) ∧ w'.cell? ⟨q, 7, none⟩ = some (.int .i64 sc) ∧ w'.cell? ⟨q, 8, none⟩ = some (.int .i64 sv))) rfl (by kernel_rfl) (by kernel_rfl) (by kernel_rfl) (by decide) (fun _ _ _ h => h) (.inl fun _ h => h) (.inr fun _ h => h) (.inl ⟨by rfl, fun w hw => ?zy⟩) hR6 hR6 (fun _ => trivial) ?_
  case zy => (dsimp only at hw; obtain ⟨z0, z1, z2, z3, z4, z5, z6, z7, z8⟩ := hw; go_simp)
  (try simp only [Act.put, List.getElem_toArray, List.getElem_cons_zero, List.getElem_cons_succ, List.setIfInBounds_toArray, List.set_cons_zero, List.set_cons_succ])
  refine wpAnyZ.oneK (i := 11) (E := False) (by kernel_rfl) rfl (by rfl) (fun K hK => ?_)
  go_simp
  refine (HV3.out _).mono ?_
  rintro e w7 ⟨rfl, hB⟩
  have HK7 := Lib.hid (HK6.out.trans (hB.mono HK6.out.size))
  have hR7 := HCB.out _ ((HK7.out.block q (lt_of_block HX4.out)).trans HX4.out)
  clear hB
  go_wp2_with fail
  refine hK.out _ _ ⟨⟨hR7, fun _ => trivial⟩, ?_⟩
  clear hK hR6
  (try simp only [Act.put, List.getElem_toArray, List.getElem_cons_zero, List.getElem_cons_succ, List.setIfInBounds_toArray, List.set_cons_zero, List.set_cons_succ])
  refine wpAnyZ.oneK (i := 15) (E := False) (by kernel_rfl) rfl (by rfl) (fun K hK => ?_)
  go_simp
  refine (HV4.out _).mono ?_
  rintro e w8 ⟨rfl, hB⟩
  have HK8 := Lib.hid (HK7.out.trans (hB.mono HK7.out.size))
  have hR8 := HCB.out _ ((HK8.out.block q (lt_of_block HX4.out)).trans HX4.out)
  clear hB
  go_wp2_with fail
  refine hK.out _ _ ⟨⟨hR8, fun _ => trivial⟩, ?_⟩
  clear hK hR7
  (try simp only [Act.put, List.getElem_toArray, List.getElem_cons_zero, List.getElem_cons_succ, List.setIfInBounds_toArray, List.set_cons_zero, List.set_cons_succ])
  refine wpAnyZ.takeN (i := 16) (v := .bool false) rfl (by kernel_rfl) (by kernel_rfl) (by kernel_rfl) (by decide) (fun _ _ _ h => h) (by rfl) (fun w => ?zy) hR8 (fun _ => trivial) ?_
  case zy => go_simp
  (try simp only [Act.put, List.getElem_toArray, List.getElem_cons_zero, List.getElem_cons_succ, List.setIfInBounds_toArray, List.set_cons_zero, List.set_cons_succ])
  refine wpAnyZ.takeN (i := 17) (v := .bool false) rfl (by kernel_rfl) (by kernel_rfl) (by kernel_rfl) (by decide) (fun _ _ _ h => h) (by rfl) (fun w => ?zy) hR8 (fun _ => trivial) ?_
  case zy => go_simp
  (try simp only [Act.put, List.getElem_toArray, List.getElem_cons_zero, List.getElem_cons_succ, List.setIfInBounds_toArray, List.set_cons_zero, List.set_cons_succ])
  refine wpAnyZ.takeN (i := 18) (v := .bool false) rfl (by kernel_rfl) (by kernel_rfl) (by kernel_rfl) (by decide) (fun _ _ _ h => h) (by rfl) (fun w => ?zy) hR8 (fun _ => trivial) ?_
  case zy => go_simp
  (try simp only [Act.put, List.getElem_toArray, List.getElem_cons_zero, List.getElem_cons_succ, List.setIfInBounds_toArray, List.set_cons_zero, List.set_cons_succ])
  refine wpAnyZ.takeN (i := 19) (v := .slice A3 n3 c3) rfl (by kernel_rfl) (by kernel_rfl) (by kernel_rfl) (by decide) (fun _ _ _ h => h) (by rfl) (fun w => ?zy) hR8 (fun _ => trivial) ?_
  case zy => go_simp
  (try simp only [Act.put, List.getElem_toArray, List.getElem_cons_zero, List.getElem_cons_succ, List.setIfInBounds_toArray, List.set_cons_zero, List.set_cons_succ])
  refine wpAnyZ.takeN (i := 20) (v := .slice A4 n4 c4) rfl (by kernel_rfl) (by kernel_rfl) (by kernel_rfl) (by decide) (fun _ _ _ h => h) (by rfl) (fun w => ?zy) hR8 (fun _ => trivial) ?_
  case zy => go_simp
  (try simp only [Act.put, List.getElem_toArray, List.getElem_cons_zero, List.getElem_cons_succ, List.setIfInBounds_toArray, List.set_cons_zero, List.set_cons_succ])
  refine wpAnyZ.oneK (i := 21) (E := False) (by kernel_rfl) rfl (by rfl) (fun K hK => ?_)
  go_simp
  refine (l11_same A3 A4 n3 c3 n4 c4 EL EL _ (HR34.out.ext HK8.out) (HR4.out.ext HK8.out)).mono ?_
  rintro e w9 ⟨rfl, rfl⟩
  rw [decide_eq_true rfl]
  go_wp2_with fail
  refine hK.out _ _ ⟨⟨hR8, fun _ => trivial⟩, ?_⟩
  clear hK
  (try simp only [Act.put, List.getElem_toArray, List.getElem_cons_zero, List.getElem_cons_succ, List.setIfInBounds_toArray, List.set_cons_zero, List.set_cons_succ])
  refine wpAnyZ.takeN (i := 22) (v := .bool false) rfl (by kernel_rfl) (by kernel_rfl) (by kernel_rfl) (by decide) (fun _ _ _ h => h) (by rfl) (fun w => ?zy) hR8 (fun _ => trivial) ?_
  case zy => go_simp
  (try simp only [Act.put, List.getElem_toArray, List.getElem_cons_zero, List.getElem_cons_succ, List.setIfInBounds_toArray, List.set_cons_zero, List.set_cons_succ])
  refine wpAnyZ.takeN (i := 23) (v := .bool false) rfl (by kernel_rfl) (by kernel_rfl) (by kernel_rfl) (by decide) (fun _ _ _ h => h) (by rfl) (fun w => ?zy) hR8 (fun _ => trivial) ?_
  case zy => go_simp
  (try simp only [Act.put, List.getElem_toArray, List.getElem_cons_zero, List.getElem_cons_succ, List.setIfInBounds_toArray, List.set_cons_zero, List.set_cons_succ])
  refine wpAnyZ.takeN (i := 24) (v := .bool false) rfl (by kernel_rfl) (by kernel_rfl) (by kernel_rfl) (by decide) (fun _ _ _ h => h) (by rfl) (fun w => ?zy) hR8 (fun _ => trivial) ?_
  case zy => go_simp
  (try simp only [Act.put, List.getElem_toArray, List.getElem_cons_zero, List.getElem_cons_succ, List.setIfInBounds_toArray, List.set_cons_zero, List.set_cons_succ])
  refine wpAnyZ.takeN (i := 25) (v := .int .i64 EC) rfl (by kernel_rfl) (by kernel_rfl) (by kernel_rfl) (by decide) (fun _ _ _ h => h) (by rfl) (fun w => ?zy) hR8 (fun _ => trivial) ?_
  case zy => go_simp
  (try simp only [Act.put, List.getElem_toArray, List.getElem_cons_zero, List.getElem_cons_succ, List.setIfInBounds_toArray, List.set_cons_zero, List.set_cons_succ])
  refine wpAnyZ.takeN (i := 26) (v := .int .i64 EC) rfl (by kernel_rfl) (by kernel_rfl) (by kernel_rfl) (by decide) (fun _ _ _ h => h) (by rfl) (fun w => ?zy) hR8 (fun _ => trivial) ?_
  case zy => go_simp
  (try simp only [Act.put, List.getElem_toArray, List.getElem_cons_zero, List.getElem_cons_succ, List.setIfInBounds_toArray, List.set_cons_zero, List.set_cons_succ])
  refine wpAnyZ.takeN (i := 27) (v := .bool false) rfl (by kernel_rfl) (by kernel_rfl) (by kernel_rfl) (by decide) (fun _ _ _ h => h) (by rfl) (fun w => ?zy) hR8 (fun _ => trivial) ?_
  case zy => go_simp
  (try simp only [Act.put, List.getElem_toArray, List.getElem_cons_zero, List.getElem_cons_succ, List.setIfInBounds_toArray, List.set_cons_zero, List.set_cons_succ])
  refine wpAnyZ.takeN (i := 28) (v := .bool false) rfl (by kernel_rfl) (by kernel_rfl) (by kernel_rfl) (by decide) (fun _ _ _ h => h) (by rfl) (fun w => ?zy) hR8 (fun _ => trivial) ?_
  case zy => go_simp
  (try simp only [Act.put, List.getElem_toArray, List.getElem_cons_zero, List.getElem_cons_succ, List.setIfInBounds_toArray, List.set_cons_zero, List.set_cons_succ])
  refine wpAnyZ.done (by kernel_rfl) ?_ _
  have HB8 := Lib.hid (HB4.out.trans (HK8.out.mono HB4.out.size))
  have HRB := Lib.hid (HR.out.ext HB8.out)
  clear hR8
  go_wp2_with fail
  refine (l11_own _ A n c L HRB.out (by omega)).mono ?_
  rintro e w10 ⟨u10, rfl, hO, hB⟩
  have HO10 := Lib.hid hO
  have HB10 := Lib.hid hB
  have hz10 := hB.size
  have HRB10 := Lib.hid (HRB.out.ext hB)
  clear hO hB
  go_wp2_with (at_builtin; refine wp_app (w0 := w9) (ys := markA) w9.heap.size (HO10.out.alloc _) (by exact Rd.lit w10 [165, 166, 167] 3 rfl (by decide)) (HB10.out.alloc hz10 _) (by simp; omega) (by omega) _ _ rfl rfl rfl rfl ?_; intro v11 w11 hO1 hB1 hG1 hat1; clear hG1 hat1; obtain ⟨g, cap, rfl, hg1, hg2⟩ := hO1.form (by omega); have HO11 := Lib.hid hO1; have HB11 := Lib.hid hB1; have HRB11 := Lib.hid (HRB.out.ext hB1); have HCP := Lib.hid (hO1.rdC (by omega)); have hcp := HCP.out.cap; clear hO1 hB1 hg1 hg2)
  have hncap : (n : Int) ≤ (cap : Int) ∧ (0 : Int) ≤ (n : Int) := by omega
  have HFU := Lib.hid (show Rd w11 (some ⟨g, 0, none⟩) n cap L by have h9 := HCP.out.take n (by omega); rwa [take_app HLN.out] at h9)
  have HDE := Lib.hid (an_Decode (some ⟨g, 0, none⟩) n cap L w11 HFU.out)
  obtain ⟨C, hC⟩ : ∃ C, C = (decG L).1 := ⟨_, rfl⟩
  obtain ⟨k, hk⟩ : ∃ k, k = (decG L).2 := ⟨_, rfl⟩
  rw [← hC, ← hk] at HDE
  have HRD := Lib.hid (fun (A : Option Addr) (c : Nat) (W : World) (h : Rd W A n c L) => rn_Decode A n c L W h)
  rw [← hC, ← hk] at HRD
  clear hC hk
  go_wp2_with fail
  refine HDE.out.mono ?_
  rintro e w12 ⟨rfl, hB⟩
  obtain ⟨pg, pe, pb, pl, ps, pa, pr, pc, pv⟩ := C
  obtain ⟨q13, hq13⟩ : ∃ q13, q13 = w12.heap.size := ⟨_, rfl⟩
  obtain ⟨W13, hW13⟩ : ∃ W13, W13 = w12.alloc (.cells #[.int .i64 pg, .int .i64 pe, .int .i64 pb, .int .i64 pl, .int .i64 ps, .int .i64 pa, .int .i64 pr, .int .i64 pc, .int .i64 pv] 25) := ⟨_, rfl⟩
  have HX13 := Lib.hid (show W13.heap[q13]? = some (spO ⟨pg, pe, pb, pl, ps, pa, pr, pc, pv⟩) by rw [hW13, hq13]; exact heap_alloc_new w12 _)
  have HB13 := Lib.hid (show Below w11.heap.size w11 W13 by rw [hW13]; exact hB.alloc hB.size _)
  have HQ13 := Lib.hid hq13
  have HW13 := Lib.hid hW13
  have HRB13 := Lib.hid (HRB11.out.ext HB13.out)
  clear hB hW13 hq13 HDE
  unfold spC
  dsimp only
  go_wp2_with fail
  rw [← HW13.out, ← HQ13.out]
  refine (l11_own _ A n c L HRB13.out (by omega)).mono ?_
  rintro e w14 ⟨u14, rfl, hO, hB⟩
  obtain ⟨A14, c14, rfl, hR14⟩ := hO.rd (by omega)
  have HD14 := Lib.hid (HRD.out A14 c14 w14 hR14)
  have HX14 := Lib.hid ((hB.block q13 (lt_of_block HX13.out)).trans HX13.out)
  have HB14 := Lib.hid (HB13.out.trans (hB.mono HB13.out.size))
  clear hO hB hR14
  go_wp2_with fail
  refine HD14.out.mono ?_
  rintro e w15 ⟨rfl, hB⟩
  obtain ⟨q16, hq16⟩ : ∃ q16, q16 = w15.heap.size := ⟨_, rfl⟩
  obtain ⟨W16, hW16⟩ : ∃ W16, W16 = w15.alloc (.cells #[.int .i64 pg, .int .i64 pe, .int .i64 pb, .int .i64 pl, .int .i64 ps, .int .i64 pa, .int .i64 pr, .int .i64 pc, .int .i64 pv] 25) := ⟨_, rfl⟩
  have hX16 : W16.heap[q16]? = some (spO ⟨pg, pe, pb, pl, ps, pa, pr, pc, pv⟩) := by rw [hW16, hq16]; exact heap_alloc_new w15 _
  have hB16 : Below w14.heap.size w14 W16 := by rw [hW16]; exact hB.alloc hB.size _
  have hX13 : W16.heap[q13]? = some (spO ⟨pg, pe, pb, pl, ps, pa, pr, pc, pv⟩) := (hB16.block q13 (lt_of_block HX14.out)).trans HX14.out
  have HB16 := Lib.hid (HB14.out.trans (hB16.mono HB14.out.size))
  have HRB16 := Lib.hid (HRB11.out.ext HB16.out)
  have hc13 := cell9 hX13
  have hc16 := cell9 hX16
  dsimp only at hc13 hc16
  have HCP16 := Lib.hid (HCP.out.ext HB16.out)
  rw [hW16, hq16] at hc16
  rw [hW16] at hc13
  have HW16 := Lib.hid hW16
  have HQ16 := Lib.hid hq16
  have HBF := Lib.hid (HB8.out.trans (HB11.out.mono HB8.out.size))
  have HBG := Lib.hid (HBF.out.trans (HB16.out.mono HBF.out.size))
  clear hB hq16 hW16 hX16 hB16 hX13 HD14
  unfold spC
  dsimp only
  go_wp2_with fail
  rw [← HW16.out]
  refine (l11_own _ A n c L HRB16.out (by omega)).mono ?_
  rintro e w17 ⟨u17, rfl, hO, hB⟩
  have HO17 := Lib.hid hO
  have HB17 := Lib.hid hB
  have hz17 := hB.size
  have HCP17 := Lib.hid (HCP16.out.ext hB)
  clear hO hB hc13 hc16
  go_wp2_with (at_builtin; refine wp_appG (w0 := W16) (ys := markA) W16.heap.size (HO17.out.alloc _) (by exact Rd.lit w17 [165, 166, 167] 3 rfl (by decide)) (HB17.out.alloc hz17 _) (by simp; omega) (by omega) _ _ (by rfl) rfl rfl rfl ?_; intro v18 w18 hO1 hB1 hG1 hat1; clear hG1 hat1; obtain ⟨A18, c18, rfl, hR18⟩ := hO1.rd (by omega); have HSA := Lib.hid (l11_same (some ⟨g, 0, none⟩) A18 (n + 3) cap (n + 3) c18 (L ++ markA) (L ++ markA) w18 (HCP16.out.ext hB1) hR18); have HB18 := Lib.hid hB1; clear hO1 hB1 hR18)
  rw [show decide True = true from rfl] at HSA
  refine HSA.out.mono ?_
  rintro e w19 ⟨rfl, hw19⟩
  have HEND := Lib.hid (show Below w.heap.size w w19 by rw [hw19]; exact HBG.out.trans (HB18.out.mono HBG.out.size))
  clear hw19
  go_wp2
  go_ret
  exact ⟨rfl, HEND.out⟩
end Go.Proofs.Ytggoaelbglhehaa
/- Words for rows: what an argument's reading says of memory. -/
set_option linter.unusedVariables false
set_option linter.unusedSimpArgs false
namespace Go.Proofs.Ytggoaelbglhehaa
open Go.ChangeShapes Go.WideShapes Go.RowKit
theorem u32_bv {a : Int} (h : (Lit.int .u32 a).wf = true) : ∃ b : BitVec 32, a = (b.toNat : Int) := by
  have hb := bounds_u32 h
  refine ⟨BitVec.ofNat 32 a.toNat, ?_⟩
  rw [BitVec.toNat_ofNat, Nat.mod_eq_of_lt (by omega)]
  omega
theorem wf_i64 {a : Int} (h : (Lit.int .i64 a).wf = true) : -9223372036854775808 ≤ a ∧ a < 9223372036854775808 := by
  have hb := bounds_i64 h
  omega
/-- A slice of bytes that came in is a list of bytes. -/
theorem wf_u64 {a : Int} (h : (Lit.int .u64 a).wf = true) : 0 ≤ a ∧ a < 18446744073709551616 := by
  simp only [Lit.wf, IntKind.min, IntKind.max, IntKind.signed, IntKind.bits, Bool.and_eq_true, decide_eq_true_eq] at h
  simp at h
  omega
theorem wf_u8 {a : Int} (h : (Lit.int .u8 a).wf = true) : 0 ≤ a ∧ a < 256 := by
  simp only [Lit.wf, IntKind.min, IntKind.max, IntKind.signed, IntKind.bits, Bool.and_eq_true, decide_eq_true_eq] at h
  simp at h
  omega
theorem rd_of {H : Type} {enc : TypeId × Value → H} {P : Program} {W : World} {base : Nat} {spare : Nat → Bool} {held : Bool} {t e : TypeId} {a : Option Addr} {len cap : Nat} {d : DataW H} {ps : List MemPlace}
    (hu : P.underlying t = some (.slice e)) (he : P.underlying e = some (.int .u8)) (hc : P.cellsOf e = 1)
    (h : DataW.Trod enc P W base spare held t (.slice a len cap) d ps) (hm : len ≤ 140737488355328) : ∃ l, Rd W a len cap l := by
  obtain ⟨fuel, hf⟩ := h
  rcases open_ints hu he hc hf with ⟨hcs, _⟩ | ⟨x, l, c, zs, hcs, _, hl, _, hz, hx, hcell, hwz⟩
  · simp [Value.cells] at hcs
    obtain ⟨rfl, rfl, rfl⟩ := hcs
    exact ⟨[], rfl, Nat.le_refl _, by omega, fun hp => absurd hp (by omega)⟩
  · simp [Value.cells] at hcs
    obtain ⟨rfl, rfl, rfl⟩ := hcs
    have hl2 : len ≤ zs.length := by
      rw [hz]
      split
      · exact hl
      · exact Nat.le_refl _
    refine ⟨(zs.take len).map fun z => UInt8.ofNat z.toNat, by simp; omega, hl, by omega, fun hp => ?_⟩
    have h0 := hcell 0 (by omega)
    obtain ⟨b, o, s⟩ := x
    have hs : s = none := by
      cases s with
      | none => rfl
      | some s =>
        exfalso
        rw [show (⟨b, o, some s⟩ : Addr).add 0 = ⟨b, o, some s⟩ from rfl] at h0
        simp only [World.cell?] at h0
        split at h0 <;> simp at h0
    subst hs
    refine ⟨b, o, rfl, fun j hj => ?_⟩
    have := hcell j (by omega)
    rw [Addr.add_mid] at this
    rw [this]
    congr 2
    have hj' : j < zs.length := by omega
    have hw := bounds_u8 (hwz (zs.getD j 0) (by rw [List.getD_eq_getElem?_getD, List.getElem?_eq_getElem hj']; exact List.getElem_mem hj'))
    simp only [List.getD_eq_getElem?_getD, List.getElem?_map, List.getElem?_take, if_pos hj, List.getElem?_eq_getElem hj', Option.map_some, Option.getD_some] at hw ⊢
    rw [UInt8.toNat_ofNat']
    omega
theorem rd_open {H : Type} {enc : TypeId × Value → H} {P : Program} {W : World} {base : Nat} {spare : Nat → Bool} {held : Bool} {t e : TypeId} {a : Option Addr} {len cap : Nat} {d : DataW H} {ps : List MemPlace} {ts : List TypeId} {ds : List (DataW H)} {j : Nat}
    (hsz : (DataW.weightsEach P ts ds).all (· ≤ reachBytes) = true) (ht : ts[j]? = some t) (hd : ds[j]? = some d) (hu : P.underlying t = some (.slice e)) (he : P.underlying e = some (.int .u8)) (hc : P.cellsOf e = 1) (hB : P.bytesOf e = 1)
    (h : DataW.Trod enc P W base spare held t (.slice a len cap) d ps) : ∃ l, Rd W a len cap l ∧ len ≤ 140737488351232 := by
  have hlen : len ≤ 140737488351232 := by
    obtain ⟨fuel, hf⟩ := h
    rcases open_ints hu he hc hf with ⟨hcs, _⟩ | ⟨x, l, c, zs, hcs, _, hl, _, hz, hx, hcell, hwz⟩
    · simp [Value.cells] at hcs; omega
    · simp [Value.cells] at hcs
      obtain ⟨rfl, rfl, rfl⟩ := hcs
      obtain ⟨hx, _⟩ := Prod.mk.inj hx
      subst hx
      have z := sized_slice hsz ht hd hu
      rw [hB] at z
      have hl2 : len ≤ zs.length := by
        rw [hz]
        split
        · exact hl
        · exact Nat.le_refl _
      have h1 : (lits (H := H) .u8 (zs.take len)).length + (lits (H := H) .u8 (zs.drop len)).length = zs.length := by
        simp [lits]
        omega
      rw [h1] at z
      have z2 : zs.length ≤ 140737488351232 := by simpa [reachBytes] using z
      omega
  obtain ⟨l, hr⟩ := rd_of hu he hc h (Nat.le_trans hlen (by omega))
  exact ⟨l, hr, hlen⟩
end Go.Proofs.Ytggoaelbglhehaa
/- Words for rows: a superblock that came in by value. -/
set_option linter.unusedVariables false
set_option linter.unusedSimpArgs false
namespace Go.Proofs.Ytggoaelbglhehaa
open Go.Joins Go.ChangeShapes Go.WideShapes Go.RowKit Go.Deep
section
variable {H : Type} {enc : TypeId × Value → H} {P : Program} {w : World} {base : Nat} {spare : Nat → Bool} {held : Bool}
theorem i64_one {t : TypeId} {c : Value} {fuel : Nat} {y : DataW H × List MemPlace} (hu : P.underlying t = some (.int .i64)) (h : DataW.trod enc P w base spare held fuel t [c] = some y) : ∃ x : Int, c = .int .i64 x ∧ (-9223372036854775808 ≤ x ∧ x < 9223372036854775808) := by
  obtain ⟨x, hx, _, hw⟩ := DataW.trod_int hu h
  simp at hx
  exact ⟨x, hx, wf_i64 hw⟩
theorem sp_of {r : Reach} {b0 : Nat} {t : TypeId} {f0 f1 f2 f3 f4 f5 f6 f7 g0 g1 : Field} {v : Value} {d : DataW H} {p : List MemPlace} (hs : P.underlying t = some (.struct #[f0, f1, f2, f3, f4, f5, f6, f7])) (hC : P.cellsOf t = 9)
    (o0 : f0.offset = 0) (o1 : f1.offset = 1) (o2 : f2.offset = 2) (o3 : f3.offset = 3) (o4 : f4.offset = 4) (o5 : f5.offset = 6) (o6 : f6.offset = 7) (o7 : f7.offset = 8)
    (k0 : P.cellsOf f0.type = 1) (k1 : P.cellsOf f1.type = 1) (k2 : P.cellsOf f2.type = 1) (k3 : P.cellsOf f3.type = 1) (k4 : P.cellsOf f4.type = 2) (k5 : P.cellsOf f5.type = 1) (k6 : P.cellsOf f6.type = 1) (k7 : P.cellsOf f7.type = 1)
    (u0 : P.underlying f0.type = some (.int .i64)) (u1 : P.underlying f1.type = some (.int .i64)) (u2 : P.underlying f2.type = some (.int .i64)) (u3 : P.underlying f3.type = some (.int .i64)) (u4 : P.underlying f4.type = some (.struct #[g0, g1])) (u5 : P.underlying f5.type = some (.int .i64)) (u6 : P.underlying f6.type = some (.int .i64)) (u7 : P.underlying f7.type = some (.int .i64))
    (q0 : g0.offset = 0) (q1 : g1.offset = 1) (m0 : P.cellsOf g0.type = 1) (m1 : P.cellsOf g1.type = 1) (v0 : P.underlying g0.type = some (.int .i64)) (v1 : P.underlying g1.type = some (.int .i64))
    (hv : Value.okWide P w r b0 t v) (h : DataW.Trod enc P w base spare held t v d p) : ∃ s : Sp, v = .agg (spC s) ∧ s.ok := by
  obtain ⟨cs, rfl, hsz⟩ := okWide_struct hs hv
  obtain ⟨l⟩ := cs
  match l, hsz.trans hC with
  | [c0, c1, c2, c3, c4, c5, c6, c7, c8], _ =>
    obtain ⟨fuel, hf⟩ := h
    obtain ⟨xs, n, _, hx, _, hlen, hg⟩ := DataW.trod_struct hs hf
    match xs, hlen with
    | [y0, y1, y2, y3, y4, y5, y6, y7], _ =>
      have e0 : DataW.trod enc P w base spare held n f0.type [c0] = some y0 := by simpa [Value.cells, o0, k0] using hg 0 f0 rfl
      have e1 : DataW.trod enc P w base spare held n f1.type [c1] = some y1 := by simpa [Value.cells, o1, k1] using hg 1 f1 rfl
      have e2 : DataW.trod enc P w base spare held n f2.type [c2] = some y2 := by simpa [Value.cells, o2, k2] using hg 2 f2 rfl
      have e3 : DataW.trod enc P w base spare held n f3.type [c3] = some y3 := by simpa [Value.cells, o3, k3] using hg 3 f3 rfl
      have e4 : DataW.trod enc P w base spare held n f4.type [c4, c5] = some y4 := by simpa [Value.cells, o4, k4] using hg 4 f4 rfl
      have e5 : DataW.trod enc P w base spare held n f5.type [c6] = some y5 := by simpa [Value.cells, o5, k5] using hg 5 f5 rfl
      have e6 : DataW.trod enc P w base spare held n f6.type [c7] = some y6 := by simpa [Value.cells, o6, k6] using hg 6 f6 rfl
      have e7 : DataW.trod enc P w base spare held n f7.type [c8] = some y7 := by simpa [Value.cells, o7, k7] using hg 7 f7 rfl
      obtain ⟨zs, n', _, hz, _, hzl, hgg⟩ := DataW.trod_struct u4 e4
      match zs, hzl with
      | [z0, z1], _ =>
        have d0 : DataW.trod enc P w base spare held n' g0.type [c4] = some z0 := by simpa [q0, m0] using hgg 0 g0 rfl
        have d1 : DataW.trod enc P w base spare held n' g1.type [c5] = some z1 := by simpa [q1, m1] using hgg 1 g1 rfl
        obtain ⟨x0, rfl, w0⟩ := i64_one u0 e0
        obtain ⟨x1, rfl, w1⟩ := i64_one u1 e1
        obtain ⟨x2, rfl, w2⟩ := i64_one u2 e2
        obtain ⟨x3, rfl, w3⟩ := i64_one u3 e3
        obtain ⟨x4, rfl, w4⟩ := i64_one v0 d0
        obtain ⟨x5, rfl, w5⟩ := i64_one v1 d1
        obtain ⟨x6, rfl, w6⟩ := i64_one u5 e5
        obtain ⟨x7, rfl, w7⟩ := i64_one u6 e6
        obtain ⟨x8, rfl, w8⟩ := i64_one u7 e7
        exact ⟨⟨x0, x1, x2, x3, x4, x5, x6, x7, x8⟩, rfl, w0, w1, w2, w3, w4, w5, w6, w7, w8⟩
end
end Go.Proofs.Ytggoaelbglhehaa
/- The law AnchorCodes holds for every input: the row, out of its walk. No condition. -/
namespace Go.Proofs.Ytggoaelbglhehaa.anchorCodes
open Go.ChangeShapes Go.WideShapes Go.ChangeAt Go.RowKit
open Go.ChangeMaps (open_string shut_string)
set_option linter.unusedVariables false
set_option linter.unusedSimpArgs false
theorem own : ownKnob Try.prog.godebug = none := by kernel_rfl
theorem laidOut : laidOutB Try.prog = true := by kernel_rfl
set_option maxRecDepth 100000 in
theorem lifted (os : Os) (started : os.Started) (H : Type) (enc : TypeId × Value → H) :
    ReturnsInHanded {} Try.checked os 3 .any (Rows.anchorCodesSpec.pre6 enc Try.prog Try.f3 Rows.anchorCodesRow.domain false) (Rows.anchorCodesSpec.post enc Try.prog Try.f3 false true false false) := by
  refine returnsInHanded_of_change_sized (C := Try.checked) own started (by kernel_rfl) Try.func3
    (ChangeSpec.witness6 (enc := enc) (C := Try.checked) false ⟨#[], #[.agg #[.int .i64 0, .int .i64 0, .int .i64 0, .int .i64 0, .int .i64 0, .int .i64 0, .int .i64 0, .int .i64 0, .int .i64 0], .int .i64 0, .slice none 0 0], []⟩ 8 (by kernel_rfl) (by kernel_rfl) (by kernel_rfl) (by kernel_rfl)) ?_
  intro W base args ds gs before hval0 hW hcnd hsz0 _
  have hsz : (DataW.weightsEach Try.prog (Try.f3.params.toList ++ Rows.anchorCodesSpec.plain.varTypes Try.prog) (ds ++ gs)).all (· ≤ reachBytes) = true := hsz0
  have hval : ∀ (j : Nat) t v, Try.f3.params[j]? = some t → args[j]? = some v → Value.okWide Try.prog W .any base t v := hval0
  have hW' := hW
  obtain ⟨p, q, hA0, hV, rfl, hfz, hnd⟩ := hW
  have hA : DataW.TrodAll enc Try.prog W 0 (fun _ => true) true Try.f3.params.toList args.toList ds p := hA0
  rw [Try.params3] at hA hval hsz
  obtain ⟨v0, vs0, d0, ds0, p0, q0, hargs, rfl, rfl, h0, r0⟩ := trodAll_cons hA
  obtain ⟨v1, vs1, d1, ds1, p1, q1, rfl, rfl, rfl, h1, r1⟩ := trodAll_cons r0
  obtain ⟨v2, vs2, d2, ds2, p2, q2, rfl, rfl, rfl, h2, r2⟩ := trodAll_cons r1
  obtain ⟨rfl, rfl, rfl⟩ := trodAll_nil r2
  obtain rfl : args = #[v0, v1, v2] := by cases args; simp_all
  obtain ⟨rfl, rfl⟩ := trodVars_none hV
  have k0 := h0
  have lt0 : ∀ x ∈ p0, x.block < W.heap.size := by obtain ⟨m, hm⟩ := k0; exact DataW.trod_lt m _ _ _ hm
  obtain ⟨a0, rfl, w0⟩ := sp_of Try.underlying25 (by kernel_rfl) rfl rfl rfl rfl rfl rfl rfl rfl (by kernel_rfl) (by kernel_rfl) (by kernel_rfl) (by kernel_rfl) (by kernel_rfl) (by kernel_rfl) (by kernel_rfl) (by kernel_rfl) Try.underlying2 Try.underlying2 Try.underlying3 Try.underlying3 Try.underlying23 Try.underlying3 Try.underlying2 Try.underlying2 rfl rfl (by kernel_rfl) (by kernel_rfl) Try.underlying2 Try.underlying3 (hval 0 25 v0 rfl rfl) h0
  obtain ⟨a1, rfl, rfl, rfl, y1⟩ := open_int Try.underlying3 (hval 1 3 v1 rfl rfl) h1
  have w1 := wf_i64 y1
  obtain ⟨a2, len2, cap2, rfl⟩ := okWide_slice Try.underlying26 (hval 2 26 v2 rfl rfl)
  have k2 := h2
  have lt2 : ∀ x ∈ p2, x.block < W.heap.size := by obtain ⟨m, hm⟩ := k2; exact DataW.trod_lt m _ _ _ hm
  obtain ⟨l2, w2, z2⟩ := rd_open hsz (j := 2) (t := 26) rfl rfl Try.underlying26 Try.underlying5 (by kernel_rfl) (by kernel_rfl) h2
  clear hA0 hval0 hsz0 hsz
  refine (walk_AnchorCodes a0 a1 a2 len2 cap2 l2 W w0 w1 w2 z2).mono fun e W' ⟨he, bel⟩ => ?_
  subst he
  exact ⟨_, rfl, _, _, _, [], _, [], hW', trodAll_mk1 (shut_bool Try.underlying4 _), (trodAll_cons_mk (Below.trod laidOut (by kernel_rfl) (of_decide_eq_true (by kernel_rfl)) k0 bel lt0) (trodAll_cons_mk (shut_int Try.underlying3 y1) (trodAll_cons_mk (Below.trod laidOut (by kernel_rfl) (of_decide_eq_true (by kernel_rfl)) k2 bel lt2) trodAll_mk0))), rfl, bel.frame _, fun h => by cases h⟩
theorem over : Rows.anchorCodesRow.holds Try.pinned (OpenSpec.ofChange Rows.anchorCodesSpec) :=
  OpenClaim.holds_of_wide 3 Try.f3 rfl rfl rfl rfl rfl rfl rfl ⟨rfl, rfl, rfl, rfl, rfl⟩ rfl rfl rfl rfl rfl (by kernel_rfl) Try.func3 (by kernel_rfl)
    (of_decide_eq_true (by kernel_rfl)) (by unfold Func.isWrapper; first | (rw [if_pos (by decide +kernel)]; kernel_rfl) | (rw [if_neg (by decide +kernel)]; exact ⟨rfl, rfl⟩))
    (fun os started H enc _ => lifted os started H enc)
theorem proved : Rows.AnchorCodesSaid := over
#print axioms proved
end Go.Proofs.Ytggoaelbglhehaa.anchorCodes
namespace Go.Proofs.Ytggoaelbglhehaa
theorem anchorCodes_holds : Rows.AnchorCodesSaid := anchorCodes.proved
end Go.Proofs.Ytggoaelbglhehaa
