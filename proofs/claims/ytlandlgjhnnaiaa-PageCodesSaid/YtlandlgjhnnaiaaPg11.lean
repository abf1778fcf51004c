/- A block in the making: a text is laid. -/
import Derived.Test.YtlandlgjhnnaiaaPg10
import Derived.Laws.CopyRow
import Derived.Lib.BufferWrite
set_option linter.unusedVariables false
set_option linter.unusedSimpArgs false
set_option maxRecDepth 100000
namespace Go.Proofs.Ytlandlgjhnnaiaa
open Go.RowKit
theorem sz_u8p : (Try.prog.info? 5).map (·.size) = some 1 := by
  obtain ⟨i0, hi, hzz⟩ := Option.map_eq_some_iff.1 info_u8
  simp only [Prod.mk.injEq] at hzz
  rw [hi]; simp [hzz.2.1]
theorem bkC_lay (M : List UInt8) (a : Nat) (X : List UInt8) (hM : M.length = 512) (h : a + X.length ≤ 512) (at_ : Nat) :
    ((bkC M at_).toArray.toList.take a ++ bv X ++ (bkC M at_).toArray.toList.drop (a + X.length)).toArray = (bkC (splice M a X) at_).toArray := by
  congr 1
  unfold bkC splice
  rw [List.take_append_of_le_length (by rw [bv_length, hM]; omega), List.drop_append_of_le_length (by rw [bv_length, hM]; omega)]
  simp only [bv, List.map_append, List.map_take, List.map_drop, List.append_assoc]
/-- where a slice of the block's bytes from a place on begins -/
def fromA (g a : Nat) : Option Addr := some ⟨g, if a = 512 then 0 else a, none⟩
theorem copy_bk (W : World) (g a : Nat) (M : List UInt8) (s : ByteArray) (h : BkAt W g M a) (ha : a + s.size ≤ 512) :
    ∃ W2, (Builtin.copy_ #[31, 9] 3 #[.slice (fromA g a) (512 - a) (512 - a), .string s]).run Try.prog W = .ok (.int .i64 (s.size : Int)) W2 ∧ BkAt W2 g (splice M a (byS s)) a ∧ Only [g] W W2 := by
  have hl := h.len
  have hb : (byS s).length = s.size := rfl
  by_cases h1 : a = 512
  · subst h1
    have h0 : s.size = 0 := by omega
    obtain rfl := size_eq h0
    have h9 := Lib.run_copy_row_string (P := Try.prog) W 31 9 3 5 g 0 0 0 noS _ _ Try.underlying31 sz_u8p h.row (by rw [h0]; omega) (by rw [h0]; omega)
    refine ⟨_, h9, ⟨?_, ?_⟩, ⟨rfl, rfl, rfl, by simp [World.setRow], fun k hk hs => setRow_other W g k _ (fun e => hs (by simp [e]))⟩⟩
    · rw [setRow_heap W g _ _ _ (0, 0) h.row]
      congr 2
      simp only [h0, Nat.add_zero, List.take_zero, List.drop_zero, List.nil_append]
      show (Lib.byteCells noS.data.toList ++ (bkC M 512).toArray.toList).toArray = (bkC (splice M 512 (byS noS)) 512).toArray
      rw [show byS noS = [] from rfl, spl_nil]
      rfl
    · rw [show byS noS = [] from rfl, spl_nil]; exact hl
  · have h9 := Lib.run_copy_row_string (P := Try.prog) W 31 9 3 5 g a (512 - a) (512 - a) s _ _ Try.underlying31 sz_u8p h.row (by omega) (by rw [List.size_toArray, bkC_len]; omega)
    rw [show fromA g a = some ⟨g, a, none⟩ by unfold fromA; rw [if_neg h1]]
    refine ⟨_, h9, ⟨?_, ?_⟩, ⟨rfl, rfl, rfl, by simp [World.setRow], fun k hk hs => setRow_other W g k _ (fun e => hs (by simp [e]))⟩⟩
    · rw [setRow_heap W g _ _ _ (0, 0) h.row]
      congr 2
      exact bkC_lay M a (byS s) hl (by rw [hb]; omega) a
    · rw [spl_len _ _ _ (by rw [hb]; omega)]; exact hl
theorem pg_text (g a : Nat) (M : List UInt8) (s : ByteArray) (w : World) (h : BkAt w g M a) (ha : a + s.size ≤ 512) :
    Calls Try.prog 39 #[.pointer (some ⟨g, 0, none⟩), .string s] w fun e w' => e = .returned (.tuple #[]) ∧ BkAt w' g (splice M a (byS s)) (a + s.size) ∧ Only [g] w w' := by
  obtain ⟨W2, hcp, hB2, hO2⟩ := copy_bk w.drew g a M s ⟨h.row, h.len⟩ ha
  have HB2 := Lib.hid hB2
  have HO2 := Lib.hid (show Only [g] w W2 from (Only.refl [g] w).drew.trans hO2)
  have hT : w.drew.cell? ⟨g, 512, none⟩ = some (.int .i64 (a : Int)) := h.cat
  have hT2 : W2.cell? ⟨g, 512, none⟩ = some (.int .i64 (a : Int)) := hB2.cat
  have hf2 := hB2.frz 512
  have HEND := Lib.hid (hB2.setAt (a + s.size))
  have ha0 : (0 : Int) ≤ (a : Int) ∧ (a : Int) ≤ 512 ∧ (a : Int) + (s.size : Int) ≤ 512 := by omega
  have hwr : IntKind.i64.wrap ((a : Int) + (s.size : Int)) = (a : Int) + (s.size : Int) := by have := wrap_i64_nat (a + s.size) (by omega); push_cast at this; exact this
  have HSL : ∀ W : World, (Instr.sliceAt 58 (.pointer (some ⟨g, 0, none⟩)) (some (.int .i64 (a : Int))) none none).run Try.prog W = .ok (.slice (fromA g a) (512 - a) (512 - a)) W := fun W => by
    have hal : Try.prog.arrayLen 58 = 512 := by kernel_rfl
    have hel : Try.prog.elem 58 = 5 := by kernel_rfl
    have h9 := run_sliceAt_array_l (P := Try.prog) W 58 ⟨g, 0, none⟩ (by kernel_rfl) .i64 (a : Int) (by omega) (by rw [hal]; omega)
    obtain ⟨i0, hi, hzz⟩ := Option.map_eq_some_iff.1 info_u8
    simp only [Prod.mk.injEq] at hzz
    rw [h9, hal, hel]
    by_cases h1 : a = 512
    · subst h1; simp [sizeOf, typeInfo, hi, hzz.2.1, slicedAt, fromA, Result.andThen]
    · have h2 : ¬ 512 = a := fun e => h1 e.symm
      simp [sizeOf, typeInfo, hi, hzz.2.1, slicedAt, fromA, Result.andThen, h1, h2, Addr.add_mid]
  clear hB2 hO2 h
  obtain ⟨W, hW⟩ : ∃ W, W = w.drew := ⟨_, rfl⟩
  rw [← hW] at hT hcp
  go_enter Try.func39, Try.ntmps39
  go_wp2_with fail
  refine wp_region_z (fun w' => True) (fun w' => w'.cell? ⟨g, 512, none⟩ = some (.int .i64 (a : Int))) 17 (by kernel_rfl) ?_
  rw [← hW]
  clear hW
  refine wpAnyZ.takeN (i := 0) (v := .pointer (some ⟨g, 0, none⟩)) rfl (by kernel_rfl) (by kernel_rfl) (by kernel_rfl) (by decide) (fun _ _ _ h => h) (by rfl) (fun w => ?zy) trivial (fun _ => hT) ?_
  case zy => go_simp
  (try simp only [Act.put, List.getElem_toArray, List.getElem_cons_zero, List.getElem_cons_succ, List.setIfInBounds_toArray, List.set_cons_zero, List.set_cons_succ])
  refine wpAnyZ.takeN (i := 1) (v := .pointer (some ⟨g, 0, none⟩)) rfl (by kernel_rfl) (by kernel_rfl) (by kernel_rfl) (by decide) (fun _ _ _ h => h) (by rfl) (fun w => ?zy) trivial (fun _ => hT) ?_
  case zy => go_simp
  (try simp only [Act.put, List.getElem_toArray, List.getElem_cons_zero, List.getElem_cons_succ, List.setIfInBounds_toArray, List.set_cons_zero, List.set_cons_succ])
  refine wpAnyZ.takeN (i := 2) (v := .pointer (some ⟨g, 512, none⟩)) rfl (by kernel_rfl) (by kernel_rfl) (by kernel_rfl) (by decide) (fun _ _ _ h => h) (by rfl) (fun w => ?zy) trivial (fun _ => hT) ?_
  case zy => go_simp
  (try simp only [Act.put, List.getElem_toArray, List.getElem_cons_zero, List.getElem_cons_succ, List.setIfInBounds_toArray, List.set_cons_zero, List.set_cons_succ])
  refine wpAnyZ.take (i := 3) (v := .int .i64 (a : Int)) (U := fun w' => w'.cell? ⟨g, 512, none⟩ = some (.int .i64 (a : Int))) rfl (by kernel_rfl) (by kernel_rfl) (by kernel_rfl) (by decide) (fun _ _ _ h => h) (.inr ⟨fun _ h => h, by kernel_rfl⟩) (.inl (by kernel_rfl)) (.inl ⟨by rfl, fun w hw => ?zy⟩) hT trivial (fun _ => hT) ?_
  case zy => (dsimp only at hw; go_simp)
  (try simp only [Act.put, List.getElem_toArray, List.getElem_cons_zero, List.getElem_cons_succ, List.setIfInBounds_toArray, List.set_cons_zero, List.set_cons_succ])
  refine wpAnyZ.takeN (i := 4) (v := .pointer (some ⟨g, 0, none⟩)) rfl (by kernel_rfl) (by kernel_rfl) (by kernel_rfl) (by decide) (fun _ _ _ h => h) (by rfl) (fun w => ?zy) trivial (fun _ => hT) ?_
  case zy => go_simp
  (try simp only [Act.put, List.getElem_toArray, List.getElem_cons_zero, List.getElem_cons_succ, List.setIfInBounds_toArray, List.set_cons_zero, List.set_cons_succ])
  refine wpAnyZ.takeN (i := 5) (v := .pointer (some ⟨g, 0, none⟩)) rfl (by kernel_rfl) (by kernel_rfl) (by kernel_rfl) (by decide) (fun _ _ _ h => h) (by rfl) (fun w => ?zy) trivial (fun _ => hT) ?_
  case zy => go_simp
  (try simp only [Act.put, List.getElem_toArray, List.getElem_cons_zero, List.getElem_cons_succ, List.setIfInBounds_toArray, List.set_cons_zero, List.set_cons_succ])
  refine wpAnyZ.takeN (i := 6) (v := .pointer (some ⟨g, 0, none⟩)) rfl (by kernel_rfl) (by kernel_rfl) (by kernel_rfl) (by decide) (fun _ _ _ h => h) (by rfl) (fun w => ?zy) trivial (fun _ => hT) ?_
  case zy => go_simp
  (try simp only [Act.put, List.getElem_toArray, List.getElem_cons_zero, List.getElem_cons_succ, List.setIfInBounds_toArray, List.set_cons_zero, List.set_cons_succ])
  refine wpAnyZ.takeN (i := 7) (v := .pointer (some ⟨g, 0, none⟩)) rfl (by kernel_rfl) (by kernel_rfl) (by kernel_rfl) (by decide) (fun _ _ _ h => h) (by rfl) (fun w => ?zy) trivial (fun _ => hT) ?_
  case zy => go_simp
  (try simp only [Act.put, List.getElem_toArray, List.getElem_cons_zero, List.getElem_cons_succ, List.setIfInBounds_toArray, List.set_cons_zero, List.set_cons_succ])
  refine wpAnyZ.takeN (i := 8) (v := .pointer (some ⟨g, 0, none⟩)) rfl (by kernel_rfl) (by kernel_rfl) (by kernel_rfl) (by decide) (fun _ _ _ h => h) (by rfl) (fun w => ?zy) trivial (fun _ => hT) ?_
  case zy => go_simp
  (try simp only [Act.put, List.getElem_toArray, List.getElem_cons_zero, List.getElem_cons_succ, List.setIfInBounds_toArray, List.set_cons_zero, List.set_cons_succ])
  refine wpAnyZ.takeN (i := 9) (v := .pointer (some ⟨g, 512, none⟩)) rfl (by kernel_rfl) (by kernel_rfl) (by kernel_rfl) (by decide) (fun _ _ _ h => h) (by rfl) (fun w => ?zy) trivial (fun _ => hT) ?_
  case zy => go_simp
  (try simp only [Act.put, List.getElem_toArray, List.getElem_cons_zero, List.getElem_cons_succ, List.setIfInBounds_toArray, List.set_cons_zero, List.set_cons_succ])
  refine wpAnyZ.take (i := 10) (v := .int .i64 (a : Int)) (U := fun w' => w'.cell? ⟨g, 512, none⟩ = some (.int .i64 (a : Int))) rfl (by kernel_rfl) (by kernel_rfl) (by kernel_rfl) (by decide) (fun _ _ _ h => h) (.inr ⟨fun _ h => h, by kernel_rfl⟩) (.inl (by kernel_rfl)) (.inl ⟨by rfl, fun w hw => ?zy⟩) hT trivial (fun _ => hT) ?_
  case zy => (dsimp only at hw; go_simp)
  (try simp only [Act.put, List.getElem_toArray, List.getElem_cons_zero, List.getElem_cons_succ, List.setIfInBounds_toArray, List.set_cons_zero, List.set_cons_succ])
  refine wpAnyZ.takeN (i := 11) (v := .slice (fromA g a) (512 - a) (512 - a)) rfl (by kernel_rfl) (by kernel_rfl) (by kernel_rfl) (by decide) (fun _ _ _ h => h) (by rfl) (fun w => ?zy) trivial (fun _ => hT) ?_
  case zy => (go_simp; first | exact HSL _ | skip)
  (try simp only [Act.put, List.getElem_toArray, List.getElem_cons_zero, List.getElem_cons_succ, List.setIfInBounds_toArray, List.set_cons_zero, List.set_cons_succ])
  refine wpAnyZ.takeN (i := 12) (v := .string s) rfl (by kernel_rfl) (by kernel_rfl) (by kernel_rfl) (by decide) (fun _ _ _ h => h) (by rfl) (fun w => ?zy) trivial (fun _ => hT) ?_
  case zy => go_simp
  (try simp only [Act.put, List.getElem_toArray, List.getElem_cons_zero, List.getElem_cons_succ, List.setIfInBounds_toArray, List.set_cons_zero, List.set_cons_succ])
  refine wpAnyZ.oneK (i := 13) (E := False) (by kernel_rfl) rfl (by rfl) (fun K hK => ?_)
  go_simp
  refine hK.out _ _ ⟨⟨trivial, fun _ => hT2⟩, ?_⟩
  clear hK hT hcp
  (try simp only [Act.put, List.getElem_toArray, List.getElem_cons_zero, List.getElem_cons_succ, List.setIfInBounds_toArray, List.set_cons_zero, List.set_cons_succ])
  refine wpAnyZ.takeN (i := 14) (v := .int .i64 ((a : Int) + (s.size : Int))) rfl (by kernel_rfl) (by kernel_rfl) (by kernel_rfl) (by decide) (fun _ _ _ h => h) (by rfl) (fun w => ?zy) trivial (fun _ => hT2) ?_
  case zy => go_simp
  (try simp only [Act.put, List.getElem_toArray, List.getElem_cons_zero, List.getElem_cons_succ, List.setIfInBounds_toArray, List.set_cons_zero, List.set_cons_succ])
  refine wpAnyZ.takeN (i := 15) (v := .pointer (some ⟨g, 0, none⟩)) rfl (by kernel_rfl) (by kernel_rfl) (by kernel_rfl) (by decide) (fun _ _ _ h => h) (by rfl) (fun w => ?zy) trivial (fun _ => hT2) ?_
  case zy => go_simp
  (try simp only [Act.put, List.getElem_toArray, List.getElem_cons_zero, List.getElem_cons_succ, List.setIfInBounds_toArray, List.set_cons_zero, List.set_cons_succ])
  refine wpAnyZ.takeN (i := 16) (v := .pointer (some ⟨g, 512, none⟩)) rfl (by kernel_rfl) (by kernel_rfl) (by kernel_rfl) (by decide) (fun _ _ _ h => h) (by rfl) (fun w => ?zy) trivial (fun _ => hT2) ?_
  case zy => go_simp
  (try simp only [Act.put, List.getElem_toArray, List.getElem_cons_zero, List.getElem_cons_succ, List.setIfInBounds_toArray, List.set_cons_zero, List.set_cons_succ])
  refine wpAnyZ.oneK (i := 17) (E := False) (by kernel_rfl) rfl (by rfl) (fun K hK => ?_)
  go_simp
  refine hK.out _ _ ⟨⟨trivial, (fun h => (have h9 : (true : Bool) = false := h; by cases h9))⟩, ?_⟩
  clear hK
  refine wpAnyZ.done (by kernel_rfl) ?_ _
  go_wp2
  go_end0
  exact ⟨rfl, HEND.out, HO2.out.setCell (by simp) _⟩
end Go.Proofs.Ytlandlgjhnnaiaa
