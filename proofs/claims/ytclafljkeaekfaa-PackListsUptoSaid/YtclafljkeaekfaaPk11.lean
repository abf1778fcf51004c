/- The walk of take, kind by kind. -/
import Derived.Test.YtclafljkeaekfaaPkL1
set_option linter.unusedVariables false
set_option linter.unusedSimpArgs false
set_option maxRecDepth 100000
namespace Go.Proofs.Ytclafljkeaekfaa
open Go.RowKit
def b2i (b : Bool) : Int := if b then 1 else 0
theorem row4 {w : World} {g : Nat} {t : TypeId} {a0 a1 a2 a3 : Value} (h : w.heap[g]? = some (.cells #[a0, a1, a2, a3] t (0, 0))) (x0 x1 x2 x3 : Value) :
    ((((w.setCell ⟨g, 0, none⟩ x0).setCell ⟨g, 1, none⟩ x1).setCell ⟨g, 2, none⟩ x2).setCell ⟨g, 3, none⟩ x3).heap[g]? = some (.cells #[x0, x1, x2, x3] t (0, 0)) := by
  have h0 := heap_setCell_same w g 0 _ t x0 h
  have h1 := heap_setCell_same _ g 1 _ t x1 h0
  have h2 := heap_setCell_same _ g 2 _ t x2 h1
  have h3 := heap_setCell_same _ g 3 _ t x3 h2
  rw [h3]; simp
theorem IsR.upto {w w3 w4 : World} {b n c at0 at_ : Nat} {A : Option Addr} {L : List UInt8} {e0 e : Int} (h0 : IsR w b A n c L at0 e0) (h : IsR w3 b A n c L at_ e) (hk : ∀ k, k < w.heap.size → w4.heap[k]? = w3.heap[k]?) : IsR w4 b A n c L at_ e :=
  ⟨(hk b h0.lt).trans h.st, ⟨h.rd.len, h.rd.cap, h.rd.max, fun hn => by
    obtain ⟨bb, oo, e1, hc⟩ := h.rd.at_ hn
    obtain ⟨bb', oo', e2, hc'⟩ := h0.rd.at_ hn
    rw [e1] at e2
    injection e2 with e2
    injection e2 with e2 e3
    subst e2 e3
    have hlt := World.block_lt_of_cell? w _ (hc' 0 hn)
    refine ⟨bb, oo, e1, fun j hj => ?_⟩
    have h1 := hc j hj
    simp only [World.cell?] at h1 ⊢
    rw [hk bb hlt]
    exact h1⟩, h.ne, h.le⟩
/-- the two cells that take makes, behind the reader's call -/
structure Two (w w3 : World) (b : Nat) (k : Int) : Prop where
  r0 : w3.heap[w.heap.size]? = some (.cells #[.int .i64 0, .int .u64 0, .int .i64 0, .string ⟨#[]⟩] 27 (0, 0))
  r1 : w3.heap[w.heap.size + 1]? = some (.cells #[.int .i64 k, .int .u64 0, .int .i64 0, .string ⟨#[]⟩] 27 (0, 0))
  only : Only [b] w w3
theorem Two.of {w w3 : World} {b : Nat} {k : Int} (hb : b < w.heap.size) (ho : Only [b] ((w.alloc (.cells #[.int .i64 0, .int .u64 0, .int .i64 0, .string ⟨#[]⟩] 27)).alloc (.cells #[.int .i64 k, .int .u64 0, .int .i64 0, .string ⟨#[]⟩] 27)) w3) : Two w w3 b k := by
  refine ⟨(ho.blk _ (by simp; omega) (by simp; omega)).trans (heap_alloc2_old _ _ _), (ho.blk _ (by simp) (by simp; omega)).trans (heap_alloc2_new _ _ _), ?_⟩
  exact (Only.of_below [b] (((Below.refl _ w).alloc (Nat.le_refl _) _).alloc (by simp) _)).trans ho
theorem Two.cell0 {w w3 : World} {b : Nat} {k : Int} (h : Two w w3 b k) (j : Nat) : w3.cell? ⟨w.heap.size, j, none⟩ = #[Value.int .i64 0, .int .u64 0, .int .i64 0, .string ⟨#[]⟩][j]? := by rw [cell_of_row _ _ _ _ _ _ h.r0]
theorem Two.cell1 {w w3 : World} {b : Nat} {k : Int} (h : Two w w3 b k) (j : Nat) : w3.cell? ⟨w.heap.size + 1, j, none⟩ = #[Value.int .i64 k, .int .u64 0, .int .i64 0, .string ⟨#[]⟩][j]? := by rw [cell_of_row _ _ _ _ _ _ h.r1]
theorem Two.fz0 {w w3 : World} {b : Nat} {k : Int} (h : Two w w3 b k) (j : Nat) : w3.frozen? ⟨w.heap.size, j, none⟩ = false := frozen_of_row w3 _ _ _ _ h.r0
theorem Two.fz1 {w w3 : World} {b : Nat} {k : Int} (h : Two w w3 b k) (j : Nat) : w3.frozen? ⟨w.heap.size + 1, j, none⟩ = false := frozen_of_row w3 _ _ _ _ h.r1

set_option maxHeartbeats 2000000 in
theorem l2_take0 (b : Nat) (A : Option Addr) (n c : Nat) (L : List UInt8) (at_ : Nat) (e : Int) (most : Int) (w : World) (h : IsR w b A n c L at_ e) :
    Calls Try.prog 31 #[.pointer (some ⟨b, 0, none⟩), .int .i64 0, .int .i64 most] w fun e1 w' => e1 = .returned (ValV.val ⟨0, (rU L at_ e).1, 0, ⟨#[]⟩⟩) ∧ IsR w' b A n c L (rU L at_ e).2.1 (rU L at_ e).2.2 ∧ Only [b] w w' := by
  have H := Lib.hid h
  have hb := h.lt
  have HB := Lib.hid (((Below.refl w.heap.size w).alloc (Nat.le_refl _) (.cells #[.int .i64 0, .int .u64 0, .int .i64 0, .string ⟨#[]⟩] 27)).alloc (by simp) (.cells #[.int .i64 0, .int .u64 0, .int .i64 0, .string ⟨#[]⟩] 27))
  clear h
  go_enter Try.func31, Try.ntmps31
  go_wp2_with fail
  refine (pk_RUint b A n c L at_ e _ (H.out.ext HB.out)).mono ?_
  rintro e2 w3 ⟨rfl, hI, hO⟩
  have hT := Two.of hb hO
  obtain ⟨v, hv⟩ : ∃ v, v = (rU L at_ e).1 := ⟨_, rfl⟩
  rw [← hv]
  have HV := Lib.hid hv
  clear hv
  have HT := Lib.hid hT
  have HI := Lib.hid hI
  have d0 := hT.cell1 0
  have d1 := hT.cell1 1
  have d2 := hT.cell1 2
  have d3 := hT.cell1 3
  have q0 := hT.cell0 0
  have q1 := hT.cell0 1
  have q2 := hT.cell0 2
  have q3 := hT.cell0 3
  have f0 := hT.fz0 0
  have f1 := hT.fz0 1
  have f2 := hT.fz0 2
  have f3 := hT.fz0 3
  have g := hT.fz1 1
  simp only [List.getElem?_toArray, List.getElem?_cons_zero, List.getElem?_cons_succ] at d0 d1 d2 d3 q0 q1 q2 q3
  clear hT hI hO hb
  go_wp2
  (try simp only [Exit.inBlock, Exit.then])
  have hrow : (w3.setCell ⟨w.heap.size + 1, 1, none⟩ (.int .u64 v)).heap[w.heap.size]? = _ := (heap_setCell_other _ _ _ _ (by simp)).trans HT.out.r0
  refine bodyPost_ret (results_cell_row rfl _ _ w.heap.size 27 _ (0, 0) _ rfl (row4 hrow _ _ _ _) Try.underlying27 rfl sz_val) rfl ⟨by rw [HV.out]; rfl, ?_, ?_⟩
  · refine H.out.upto HI.out fun k hk => ?_
    rw [heap_setCell_other _ _ _ _ (by simp; omega), heap_setCell_other _ _ _ _ (by simp; omega), heap_setCell_other _ _ _ _ (by simp; omega), heap_setCell_other _ _ _ _ (by simp; omega), heap_setCell_other _ _ _ _ (by simp; omega)]
  · exact (((((HT.out.only).setNew (by simp) _).setNew (by simp) _).setNew (by simp) _).setNew (by simp) _).setNew (by simp) _

set_option maxHeartbeats 2000000 in
theorem l2_take1 (b : Nat) (A : Option Addr) (n c : Nat) (L : List UInt8) (at_ : Nat) (e : Int) (most : Int) (w : World) (h : IsR w b A n c L at_ e) :
    Calls Try.prog 31 #[.pointer (some ⟨b, 0, none⟩), .int .i64 1, .int .i64 most] w fun e1 w' => e1 = .returned (ValV.val ⟨1, 0, unzz (rU L at_ e).1, ⟨#[]⟩⟩) ∧ IsR w' b A n c L (rU L at_ e).2.1 (rU L at_ e).2.2 ∧ Only [b] w w' := by
  have H := Lib.hid h
  have hb := h.lt
  have HB := Lib.hid (((Below.refl w.heap.size w).alloc (Nat.le_refl _) (.cells #[.int .i64 0, .int .u64 0, .int .i64 0, .string ⟨#[]⟩] 27)).alloc (by simp) (.cells #[.int .i64 1, .int .u64 0, .int .i64 0, .string ⟨#[]⟩] 27))
  clear h
  go_enter Try.func31, Try.ntmps31
  go_wp2_with fail
  refine (pk_RInt b A n c L at_ e _ (H.out.ext HB.out)).mono ?_
  rintro e2 w3 ⟨rfl, hI, hO⟩
  have hT := Two.of hb hO
  obtain ⟨v, hv⟩ : ∃ v, v = unzz (rU L at_ e).1 := ⟨_, rfl⟩
  rw [← hv]
  have HV := Lib.hid hv
  clear hv
  have HT := Lib.hid hT
  have HI := Lib.hid hI
  have d0 := hT.cell1 0
  have d1 := hT.cell1 1
  have d2 := hT.cell1 2
  have d3 := hT.cell1 3
  have q0 := hT.cell0 0
  have q1 := hT.cell0 1
  have q2 := hT.cell0 2
  have q3 := hT.cell0 3
  have f0 := hT.fz0 0
  have f1 := hT.fz0 1
  have f2 := hT.fz0 2
  have f3 := hT.fz0 3
  have g := hT.fz1 2
  simp only [List.getElem?_toArray, List.getElem?_cons_zero, List.getElem?_cons_succ] at d0 d1 d2 d3 q0 q1 q2 q3
  clear hT hI hO hb
  go_wp2
  (try simp only [Exit.inBlock, Exit.then])
  have hrow : (w3.setCell ⟨w.heap.size + 1, 2, none⟩ (.int .i64 v)).heap[w.heap.size]? = _ := (heap_setCell_other _ _ _ _ (by simp)).trans HT.out.r0
  refine bodyPost_ret (results_cell_row rfl _ _ w.heap.size 27 _ (0, 0) _ rfl (row4 hrow _ _ _ _) Try.underlying27 rfl sz_val) rfl ⟨by rw [HV.out]; rfl, ?_, ?_⟩
  · refine H.out.upto HI.out fun k hk => ?_
    rw [heap_setCell_other _ _ _ _ (by simp; omega), heap_setCell_other _ _ _ _ (by simp; omega), heap_setCell_other _ _ _ _ (by simp; omega), heap_setCell_other _ _ _ _ (by simp; omega), heap_setCell_other _ _ _ _ (by simp; omega)]
  · exact (((((HT.out.only).setNew (by simp) _).setNew (by simp) _).setNew (by simp) _).setNew (by simp) _).setNew (by simp) _

set_option maxHeartbeats 2000000 in
theorem l2_take2 (b : Nat) (A : Option Addr) (n c : Nat) (L : List UInt8) (at_ : Nat) (e : Int) (most : Int) (w : World) (h : IsR w b A n c L at_ e) :
    Calls Try.prog 31 #[.pointer (some ⟨b, 0, none⟩), .int .i64 2, .int .i64 most] w fun e1 w' => e1 = .returned (ValV.val ⟨2, 0, b2i (rO L at_ e).1, ⟨#[]⟩⟩) ∧ IsR w' b A n c L (rO L at_ e).2.1 (rO L at_ e).2.2 ∧ Only [b] w w' := by
  have H := Lib.hid h
  have hb := h.lt
  have HB := Lib.hid (((Below.refl w.heap.size w).alloc (Nat.le_refl _) (.cells #[.int .i64 0, .int .u64 0, .int .i64 0, .string ⟨#[]⟩] 27)).alloc (by simp) (.cells #[.int .i64 2, .int .u64 0, .int .i64 0, .string ⟨#[]⟩] 27))
  clear h
  go_enter Try.func31, Try.ntmps31
  go_wp2_with fail
  refine (pk_RBool b A n c L at_ e _ (H.out.ext HB.out)).mono ?_
  rintro e2 w3 ⟨rfl, hI, hO⟩
  have hT := Two.of hb hO
  obtain ⟨v, hv⟩ : ∃ v, v = (rO L at_ e).1 := ⟨_, rfl⟩
  rw [← hv]
  have HV := Lib.hid hv
  clear hv
  have HT := Lib.hid hT
  have HI := Lib.hid hI
  have d0 := hT.cell1 0
  have d1 := hT.cell1 1
  have d2 := hT.cell1 2
  have d3 := hT.cell1 3
  have q0 := hT.cell0 0
  have q1 := hT.cell0 1
  have q2 := hT.cell0 2
  have q3 := hT.cell0 3
  have f0 := hT.fz0 0
  have f1 := hT.fz0 1
  have f2 := hT.fz0 2
  have f3 := hT.fz0 3
  have g := hT.fz1 2
  simp only [List.getElem?_toArray, List.getElem?_cons_zero, List.getElem?_cons_succ] at d0 d1 d2 d3 q0 q1 q2 q3
  clear hT hI hO hb
  cases v
  · have HZ := Lib.hid (show (rO L at_ e).1 = false from HV.out.symm)
    go_wp2
    (try simp only [Exit.inBlock, Exit.then])
    have hrow : w3.heap[w.heap.size]? = _ := HT.out.r0
    refine bodyPost_ret (results_cell_row rfl _ _ w.heap.size 27 _ (0, 0) _ rfl (row4 hrow _ _ _ _) Try.underlying27 rfl sz_val) rfl ⟨by rw [HZ.out]; rfl, ?_, ?_⟩
    · refine H.out.upto HI.out fun k hk => ?_
      rw [heap_setCell_other _ _ _ _ (by simp; omega), heap_setCell_other _ _ _ _ (by simp; omega), heap_setCell_other _ _ _ _ (by simp; omega), heap_setCell_other _ _ _ _ (by simp; omega)]
    · exact ((((HT.out.only).setNew (by simp) _).setNew (by simp) _).setNew (by simp) _).setNew (by simp) _
  · have HZ := Lib.hid (show (rO L at_ e).1 = true from HV.out.symm)
    go_wp2
    (try simp only [Exit.inBlock, Exit.then])
    have hrow : (w3.setCell ⟨w.heap.size + 1, 2, none⟩ (.int .i64 1)).heap[w.heap.size]? = _ := (heap_setCell_other _ _ _ _ (by simp)).trans HT.out.r0
    refine bodyPost_ret (results_cell_row rfl _ _ w.heap.size 27 _ (0, 0) _ rfl (row4 hrow _ _ _ _) Try.underlying27 rfl sz_val) rfl ⟨by rw [HZ.out]; rfl, ?_, ?_⟩
    · refine H.out.upto HI.out fun k hk => ?_
      rw [heap_setCell_other _ _ _ _ (by simp; omega), heap_setCell_other _ _ _ _ (by simp; omega), heap_setCell_other _ _ _ _ (by simp; omega), heap_setCell_other _ _ _ _ (by simp; omega), heap_setCell_other _ _ _ _ (by simp; omega)]
    · exact (((((HT.out.only).setNew (by simp) _).setNew (by simp) _).setNew (by simp) _).setNew (by simp) _).setNew (by simp) _

set_option maxHeartbeats 2000000 in
theorem l2_take3 (b : Nat) (A : Option Addr) (n c : Nat) (L : List UInt8) (at_ : Nat) (e : Int) (most : Int) (w : World) (h : IsR w b A n c L at_ e) :
    Calls Try.prog 31 #[.pointer (some ⟨b, 0, none⟩), .int .i64 3, .int .i64 most] w fun e1 w' => e1 = .returned (ValV.val ⟨3, (rB L at_ e).1.toNat, 0, ⟨#[]⟩⟩) ∧ IsR w' b A n c L (rB L at_ e).2.1 (rB L at_ e).2.2 ∧ Only [b] w w' := by
  have H := Lib.hid h
  have hb := h.lt
  have HB := Lib.hid (((Below.refl w.heap.size w).alloc (Nat.le_refl _) (.cells #[.int .i64 0, .int .u64 0, .int .i64 0, .string ⟨#[]⟩] 27)).alloc (by simp) (.cells #[.int .i64 3, .int .u64 0, .int .i64 0, .string ⟨#[]⟩] 27))
  clear h
  go_enter Try.func31, Try.ntmps31
  go_wp2_with fail
  refine (pk_RByte b A n c L at_ e _ (H.out.ext HB.out)).mono ?_
  rintro e2 w3 ⟨rfl, hI, hO⟩
  have hT := Two.of hb hO
  obtain ⟨v, hv⟩ : ∃ v, v = (rB L at_ e).1 := ⟨_, rfl⟩
  rw [← hv]
  have HV := Lib.hid hv
  clear hv
  have HT := Lib.hid hT
  have HI := Lib.hid hI
  have d0 := hT.cell1 0
  have d1 := hT.cell1 1
  have d2 := hT.cell1 2
  have d3 := hT.cell1 3
  have q0 := hT.cell0 0
  have q1 := hT.cell0 1
  have q2 := hT.cell0 2
  have q3 := hT.cell0 3
  have f0 := hT.fz0 0
  have f1 := hT.fz0 1
  have f2 := hT.fz0 2
  have f3 := hT.fz0 3
  have g := hT.fz1 1
  simp only [List.getElem?_toArray, List.getElem?_cons_zero, List.getElem?_cons_succ] at d0 d1 d2 d3 q0 q1 q2 q3
  clear hT hI hO hb
  have hvl := v.toNat_lt
  have hw : IntKind.u64.wrap (v.toNat : Int) = (v.toNat : Int) := IntWalk.u64_in _ (by omega)
  clear hvl
  go_wp2
  (try simp only [Exit.inBlock, Exit.then])
  have hrow : (w3.setCell ⟨w.heap.size + 1, 1, none⟩ (.int .u64 v.toNat)).heap[w.heap.size]? = _ := (heap_setCell_other _ _ _ _ (by simp)).trans HT.out.r0
  refine bodyPost_ret (results_cell_row rfl _ _ w.heap.size 27 _ (0, 0) _ rfl (row4 hrow _ _ _ _) Try.underlying27 rfl sz_val) rfl ⟨by rw [HV.out]; rfl, ?_, ?_⟩
  · refine H.out.upto HI.out fun k hk => ?_
    rw [heap_setCell_other _ _ _ _ (by simp; omega), heap_setCell_other _ _ _ _ (by simp; omega), heap_setCell_other _ _ _ _ (by simp; omega), heap_setCell_other _ _ _ _ (by simp; omega), heap_setCell_other _ _ _ _ (by simp; omega)]
  · exact (((((HT.out.only).setNew (by simp) _).setNew (by simp) _).setNew (by simp) _).setNew (by simp) _).setNew (by simp) _

set_option maxHeartbeats 2000000 in
theorem l2_take4 (b : Nat) (A : Option Addr) (n c : Nat) (L : List UInt8) (at_ : Nat) (e : Int) (most : Int) (hmo : -9223372036854775808 ≤ most ∧ most < 9223372036854775808) (w : World) (h : IsR w b A n c L at_ e) :
    Calls Try.prog 31 #[.pointer (some ⟨b, 0, none⟩), .int .i64 4, .int .i64 most] w fun e1 w' => e1 = .returned (ValV.val ⟨4, 0, 0, bstr (rT L at_ e most).1⟩) ∧ IsR w' b A n c L (rT L at_ e most).2.1 (rT L at_ e most).2.2 ∧ Only [b] w w' := by
  have H := Lib.hid h
  have hb := h.lt
  have HB := Lib.hid (((Below.refl w.heap.size w).alloc (Nat.le_refl _) (.cells #[.int .i64 0, .int .u64 0, .int .i64 0, .string ⟨#[]⟩] 27)).alloc (by simp) (.cells #[.int .i64 4, .int .u64 0, .int .i64 0, .string ⟨#[]⟩] 27))
  clear h
  go_enter Try.func31, Try.ntmps31
  go_wp2_with fail
  refine (pk_RText b A n c L at_ e _ most hmo (H.out.ext HB.out)).mono ?_
  rintro e2 w3 ⟨rfl, hI, hO⟩
  have hT := Two.of hb hO
  obtain ⟨v, hv⟩ : ∃ v, v = bstr (rT L at_ e most).1 := ⟨_, rfl⟩
  rw [← hv]
  have HV := Lib.hid hv
  clear hv
  have HT := Lib.hid hT
  have HI := Lib.hid hI
  have d0 := hT.cell1 0
  have d1 := hT.cell1 1
  have d2 := hT.cell1 2
  have d3 := hT.cell1 3
  have q0 := hT.cell0 0
  have q1 := hT.cell0 1
  have q2 := hT.cell0 2
  have q3 := hT.cell0 3
  have f0 := hT.fz0 0
  have f1 := hT.fz0 1
  have f2 := hT.fz0 2
  have f3 := hT.fz0 3
  have g := hT.fz1 3
  simp only [List.getElem?_toArray, List.getElem?_cons_zero, List.getElem?_cons_succ] at d0 d1 d2 d3 q0 q1 q2 q3
  clear hT hI hO hb
  go_wp2
  (try simp only [Exit.inBlock, Exit.then])
  have hrow : (w3.setCell ⟨w.heap.size + 1, 3, none⟩ (.string v)).heap[w.heap.size]? = _ := (heap_setCell_other _ _ _ _ (by simp)).trans HT.out.r0
  refine bodyPost_ret (results_cell_row rfl _ _ w.heap.size 27 _ (0, 0) _ rfl (row4 hrow _ _ _ _) Try.underlying27 rfl sz_val) rfl ⟨by rw [HV.out]; rfl, ?_, ?_⟩
  · refine H.out.upto HI.out fun k hk => ?_
    rw [heap_setCell_other _ _ _ _ (by simp; omega), heap_setCell_other _ _ _ _ (by simp; omega), heap_setCell_other _ _ _ _ (by simp; omega), heap_setCell_other _ _ _ _ (by simp; omega), heap_setCell_other _ _ _ _ (by simp; omega)]
  · exact (((((HT.out.only).setNew (by simp) _).setNew (by simp) _).setNew (by simp) _).setNew (by simp) _).setNew (by simp) _

set_option maxHeartbeats 2000000 in
theorem l2_take5 (b : Nat) (A : Option Addr) (n c : Nat) (L : List UInt8) (at_ : Nat) (e : Int) (most : Int) (hmo : -9223372036854775808 ≤ most ∧ most < 9223372036854775808) (w : World) (h : IsR w b A n c L at_ e) :
    Calls Try.prog 31 #[.pointer (some ⟨b, 0, none⟩), .int .i64 5, .int .i64 most] w fun e1 w' => e1 = .returned (ValV.val ⟨5, 0, ((rC L at_ e most).1 : Int), ⟨#[]⟩⟩) ∧ IsR w' b A n c L (rC L at_ e most).2.1 (rC L at_ e most).2.2 ∧ Only [b] w w' := by
  have H := Lib.hid h
  have hb := h.lt
  have HB := Lib.hid (((Below.refl w.heap.size w).alloc (Nat.le_refl _) (.cells #[.int .i64 0, .int .u64 0, .int .i64 0, .string ⟨#[]⟩] 27)).alloc (by simp) (.cells #[.int .i64 5, .int .u64 0, .int .i64 0, .string ⟨#[]⟩] 27))
  clear h
  go_enter Try.func31, Try.ntmps31
  go_wp2_with fail
  refine (pk_RCount b A n c L at_ e _ most hmo (H.out.ext HB.out)).mono ?_
  rintro e2 w3 ⟨rfl, hI, hO⟩
  have hT := Two.of hb hO
  obtain ⟨v, hv⟩ : ∃ v, v = ((rC L at_ e most).1 : Int) := ⟨_, rfl⟩
  rw [← hv]
  have HV := Lib.hid hv
  clear hv
  have HT := Lib.hid hT
  have HI := Lib.hid hI
  have d0 := hT.cell1 0
  have d1 := hT.cell1 1
  have d2 := hT.cell1 2
  have d3 := hT.cell1 3
  have q0 := hT.cell0 0
  have q1 := hT.cell0 1
  have q2 := hT.cell0 2
  have q3 := hT.cell0 3
  have f0 := hT.fz0 0
  have f1 := hT.fz0 1
  have f2 := hT.fz0 2
  have f3 := hT.fz0 3
  have g := hT.fz1 2
  simp only [List.getElem?_toArray, List.getElem?_cons_zero, List.getElem?_cons_succ] at d0 d1 d2 d3 q0 q1 q2 q3
  clear hT hI hO hb
  go_wp2
  (try simp only [Exit.inBlock, Exit.then])
  have hrow : (w3.setCell ⟨w.heap.size + 1, 2, none⟩ (.int .i64 v)).heap[w.heap.size]? = _ := (heap_setCell_other _ _ _ _ (by simp)).trans HT.out.r0
  refine bodyPost_ret (results_cell_row rfl _ _ w.heap.size 27 _ (0, 0) _ rfl (row4 hrow _ _ _ _) Try.underlying27 rfl sz_val) rfl ⟨by rw [HV.out]; rfl, ?_, ?_⟩
  · refine H.out.upto HI.out fun k hk => ?_
    rw [heap_setCell_other _ _ _ _ (by simp; omega), heap_setCell_other _ _ _ _ (by simp; omega), heap_setCell_other _ _ _ _ (by simp; omega), heap_setCell_other _ _ _ _ (by simp; omega), heap_setCell_other _ _ _ _ (by simp; omega)]
  · exact (((((HT.out.only).setNew (by simp) _).setNew (by simp) _).setNew (by simp) _).setNew (by simp) _).setNew (by simp) _
end Go.Proofs.Ytclafljkeaekfaa
