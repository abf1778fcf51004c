/- Walks: Make, the reference's Make. -/
import Derived.Test.YtdgcfhlfihpbiaaDoorKy1
import Derived.Test.YtdgcfhlfihpbiaaDoorKyB
set_option linter.unusedVariables false
set_option linter.unusedSimpArgs false
set_option maxRecDepth 100000
namespace Go.Proofs.YtdgcfhlfihpbiaaDoor
open Go.RowKit
theorem ext_builder {T e : TypeId} {B b : Nat} {bs : List Value} {p : Value} {w w' : World} (h : Lib.BuilderAt T e B b p bs w) (hb : Below w.heap.size w w') : Lib.BuilderAt T e B b p bs w' := by
  obtain ⟨h1, v, h2, h3, h4⟩ := h
  refine ⟨h1, v, (hb.block b (lt_of_block h2)).trans h2, ?_, h4⟩
  refine World.ownsRow.kept (row := none) h3 ⟨hb.os, hb.tape, hb.output, hb.size, fun i hi _ => hb.block i hi⟩ ?_
  cases v.ownBlock <;> simp
theorem ext_isBuilder {T e : TypeId} {B b : Nat} {bs : List Value} {w w' : World} (h : Lib.IsBuilder T e B b bs w) (hb : Below w.heap.size w w') : Lib.IsBuilder T e B b bs w' :=
  h.elim (fun h => .inl (ext_builder h hb)) (fun h => .inr (ext_builder h hb))
/-- the variable that the library's Index looks at -/
def MaxL (w : World) : Prop := ∃ m : Int, w.cell? ⟨0, 0, none⟩ = some (.int .i64 m)
theorem MaxL.ext {w w' : World} {B : Nat} (h : MaxL w) (hb : Below B w w') (hB : 0 < B) : MaxL w' := by
  obtain ⟨m, hm⟩ := h
  exact ⟨m, (hb.cell (p := ⟨0, 0, none⟩) hB).trans hm⟩
theorem MaxL.pos {w : World} (h : MaxL w) : 0 < w.heap.size := by
  obtain ⟨m, hm⟩ := h
  exact World.block_lt_of_cell? w _ hm
def MkPost (ps : List ByteArray) (w : World) (e : Ending) (w' : World) : Prop := e = .returned (.tuple #[.string (mkA ps).1, .int .i64 (mkA ps).2]) ∧ Below w.heap.size w w'
/-- the Builder in the loop -/
structure BI (w : World) (b : Nat) (ps : List ByteArray) (k : Nat) (wx : World) : Prop where
  bu : Lib.IsBuilder 51 5 w.heap.size b (Lib.byteCells (mkL (ps.take k))) wx
  len : (mkL (ps.take k)).length ≤ 120
  below : Below w.heap.size w wx
theorem bc_len (l : List UInt8) : (Lib.byteCells l).length = l.length := Lib.byteCells_length l
theorem bc_append (l m : List UInt8) : Lib.byteCells (l ++ m) = Lib.byteCells l ++ Lib.byteCells m := by simp [Lib.byteCells]
theorem bc_str (s : ByteArray) : Lib.strCells s = Lib.byteCells s.data.toList := rfl
set_option maxHeartbeats 1000000 in
theorem ky_Make (A : Option Addr) (n c : Nat) (ps : List ByteArray) (w : World) (hr : RdT w A n c ps) (hs : ∀ x ∈ ps, x.size ≤ 1048576) (hm : MaxL w) :
    Calls Tryd.prog 22 #[.slice A n c] w (MkPost ps w) := by
  have HR := Lib.hid hr
  have hmx := hr.max
  have HL := Lib.hid hr.len
  have HS := Lib.hid hs
  have HM := Lib.hid hm
  have HP := Lib.hid hm.pos
  clear hr hs hm
  by_cases hbad : n = 0 ∨ 8 < n
  · have HA := Lib.hid (show mkA ps = (⟨#[]⟩, 1) by unfold mkA; rw [if_pos (by rw [HL.out]; exact hbad)])
    rcases hbad with h1 | h1
    · have e1 : ((n : Int) == 0) = true := by simp; omega
      clear h1
      go_enter Tryd.func22, Tryd.ntmps22
      go_wp2
      go_ret2
      exact ⟨by rw [HA.out]; rfl, Below.refl _ _⟩
    · have e1 : ((n : Int) == 0) = false := by simp; omega
      have e2 : (8 : Int) < (n : Int) := by omega
      have e3 : decide ((8 : Int) < (n : Int)) = true := decide_eq_true e2
      clear h1
      go_enter Tryd.func22, Tryd.ntmps22
      go_wp2
      go_ret2
      exact ⟨by rw [HA.out]; rfl, Below.refl _ _⟩
  · have hn8 : n ≤ 8 := by omega
    have e1 : ((n : Int) == 0) = false := by simp; omega
    have e2 : ¬ (8 : Int) < (n : Int) := by omega
    have e3 : decide ((8 : Int) < (n : Int)) = false := decide_eq_false e2
    have HNB := Lib.hid hbad
    clear hbad
    go_enter Tryd.func22, Tryd.ntmps22
    go_wp2_with fail
    obtain ⟨b, hb⟩ : ∃ b, b = w.heap.size := ⟨_, rfl⟩
    have hrow := heap_alloc_new w (.cells #[.pointer none, .slice none 0 0] 51)
    rw [← hb] at hrow ⊢
    have HB0 := Lib.hid (show BI w b ps 0 (w.alloc (.cells #[.pointer none, .slice none 0 0] 51)) from
      ⟨.inl ⟨by omega, _, hrow, World.ownsRow_nil _ _ _ _, by simp [Value.ownBlock]⟩, by simp [mkL], (Below.refl _ w).alloc (Nat.le_refl _) _⟩)
    clear hb hrow
    go_loopw [6, 17] (fun _ x wx => ∃ k : Nat, k ≤ n ∧ x = .int .i64 k ∧ BI w b ps k wx) (fun _ x _ => n - (intOf x).toNat)
    case atStart => exact ⟨0, by omega, rfl, HB0.out⟩
    case round =>
      obtain ⟨k, hk, rfl, hI⟩ := hrel
      have HI := Lib.hid hI
      clear hI
      have hz := HI.out.below.size
      by_cases hkn : k < n
      · obtain ⟨bb, oo, rfl, hc⟩ := HR.out.at_ (by omega)
        have hck := cell_ext HI.out.below (hc k hkn)
        have hsz := HS.out _ (memT ps k (by rw [HL.out]; exact hkn))
        obtain ⟨x, hx⟩ : ∃ x, x = ps.getD k default := ⟨_, rfl⟩
        rw [← hx] at hck hsz
        have HX := Lib.hid (show mkL (ps.take (k + 1)) = mkL (ps.take k) ++ (esc x.data.toList ++ [0, 1]) by rw [takeT_snoc ps k (by rw [HL.out]; exact hkn), mkL_append, ← hx, mkL_one])
        have HTL := Lib.hid (show (mkL (ps.take (k + 1))).length ≤ (mkL ps).length from mkL_take_le ps (k + 1))
        obtain ⟨m, hmm⟩ := HM.out.ext HI.out.below HP.out
        have hcnt := Lib.countB_mul_le ⟨#[0]⟩ (by decide) x.size x (Nat.le_refl _)
        have hlen : x.size + Lib.countB x ⟨#[0]⟩ * (⟨#[0, 255]⟩ : ByteArray).size ≤ 140737488355328 := by
          have h1 : (⟨#[0]⟩ : ByteArray).size = 1 := rfl
          have h2 : (⟨#[0, 255]⟩ : ByteArray).size = 2 := rfl
          rw [h1] at hcnt; rw [h2]; omega
        have HRA := Lib.hid (fun W hW => Tryd.strings_ReplaceAll x ⟨#[0]⟩ ⟨#[0, 255]⟩ m W (by omega) hW (by decide) hlen)
        have HMM := Lib.hid hmm
        clear hc hx hcnt hlen hmm
        go_wp2_with fail
        refine (HRA.out _ HMM.out).mono ?_
        rintro e w2 ⟨rfl, hB2⟩
        have hrep : (⟨(Lib.replaceAll x.data.toList (⟨#[0]⟩ : ByteArray).data.toList (⟨#[0, 255]⟩ : ByteArray).data.toList).toArray⟩ : ByteArray) = bstr (esc x.data.toList) := by
          show bstr (Lib.replaceAll x.data.toList [0] [0, 255]) = _
          rw [replace0]
        rw [hrep]
        have hel := esc_len x.data.toList
        rw [str_len] at hel
        obtain ⟨y, hy⟩ : ∃ y, y = bstr (esc x.data.toList) := ⟨_, rfl⟩
        have hys : y.size ≤ 2097152 := by rw [hy, bstr_size]; omega
        have hyd : y.data.toList = esc x.data.toList := by rw [hy]; simp [bstr]
        rw [← hy]
        have HI2 := Lib.hid (ext_isBuilder HI.out.bu hB2)
        have HB2 := Lib.hid (HI.out.below.trans (hB2.mono hz))
        have HYD := Lib.hid hyd
        have hlk := HI.out.len
        have HY := Lib.hid hy
        clear hB2 hrep hel hy hyd
        go_wp2_with fail
        refine (bu_WriteString w.heap.size b _ y w2 HI2.out (by rw [bc_len]; omega) HB2.out.size).mono ?_
        rintro e w3 ⟨rfl, hW3, hB3⟩
        rw [bc_str, HYD.out, ← bc_append] at hW3
        have HW3 := Lib.hid hW3
        have HB3 := Lib.hid (HB2.out.trans hB3)
        clear hW3 hB3
        go_wp2_with fail
        refine (bu_WriteString w.heap.size b _ ⟨#[0, 1]⟩ w3 (.inr HW3.out) (by rw [bc_len, List.length_append, ← HYD.out, str_len]; show _ + 2 ≤ _; omega) HB3.out.size).mono ?_
        rintro e w4 ⟨rfl, hW4, hB4⟩
        rw [bc_str, ← bc_append, List.append_assoc] at hW4
        have hW4 : Lib.BuilderAt 51 5 w.heap.size b (.pointer (some ⟨b, 0, none⟩)) (Lib.byteCells (mkL (ps.take (k + 1)))) w4 := by rw [HX.out]; exact hW4
        have HW4 := Lib.hid hW4
        have HB4 := Lib.hid (HB3.out.trans hB4)
        clear hW4 hB4
        go_wp2_with fail
        refine (Tryd.Builder_Len w.heap.size b _ w4 (.inr HW4.out)).mono ?_
        rintro e w5 ⟨rfl, rfl⟩
        rw [bc_len]
        obtain ⟨q, hq⟩ : ∃ q, q = (mkL (ps.take (k + 1))).length := ⟨_, rfl⟩
        rw [← hq]
        by_cases hbig : (120 : Int) < (q : Int)
        · have HA := Lib.hid (show mkA ps = (⟨#[]⟩, 23) by
            unfold mkA
            rw [if_neg (by rw [HL.out]; exact HNB.out), if_pos (by have := HTL.out; omega)])
          clear hq
          go_wp2
          go_ret2
          exact ⟨by rw [HA.out]; rfl, HB4.out⟩
        · have HI5 := Lib.hid (show BI w b ps (k + 1) w5 from ⟨.inr HW4.out, by omega, HB4.out⟩)
          clear hq
          go_wp2
          go_roundw
          case rel => exact ⟨k + 1, by omega, by go_num, HI5.out⟩
          case measure => simp [intOf]; omega
      · obtain rfl : n = k := by omega
        have hT : ps.take n = ps := List.take_of_length_le (by rw [HL.out]; exact Nat.le_refl _)
        have hbu := HI.out.bu
        have hle := HI.out.len
        rw [hT] at hbu hle
        have HBU := Lib.hid hbu
        have HA := Lib.hid (show mkA ps = (bstr (mkL ps), 0) by
          have := HNB.out
          exact mkA_of (by rw [HL.out]; omega) (by rw [HL.out]; omega) hle)
        clear hT hbu hle
        go_wp2_with fail
        refine (Tryd.Builder_String_any w.heap.size b (mkL ps) wr HBU.out hz).mono ?_
        rintro e w2 ⟨rfl, hB2⟩
        have HB2 := Lib.hid (HI.out.below.trans hB2)
        clear hB2
        go_wp2
        go_ret2
        exact ⟨by rw [HA.out]; rfl, HB2.out⟩
end Go.Proofs.YtdgcfhlfihpbiaaDoor
