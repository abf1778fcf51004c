/- Walks of take and takeRef at any kind. -/
import Derived.Test.YtclafljkeaekfaaPy3
import Derived.Test.YtclafljkeaekfaaPk11
set_option linter.unusedVariables false
set_option linter.unusedSimpArgs false
set_option maxRecDepth 100000
namespace Go.Proofs.Ytclafljkeaekfaa
open Go.RowKit
theorem IsY.upto {w w3 w4 : World} {b n c at0 at_ : Nat} {A : Option Addr} {L : List UInt8} {e0 e : Int} (h0 : IsY w b A n c L at0 e0) (h : IsY w3 b A n c L at_ e) (hk : ∀ k, k < w.heap.size → w4.heap[k]? = w3.heap[k]?) : IsY w4 b A n c L at_ e :=
  ⟨(hk b h0.lt).trans h.st, ⟨h.rd.len, h.rd.cap, h.rd.max, fun hn => by
    obtain ⟨bb, oo, e1, hc⟩ := h.rd.at_ hn
    obtain ⟨bb', oo', e2, hc'⟩ := h0.rd.at_ hn
    rw [e1] at e2
    injection e2 with e2
    injection e2 with e2 e3
    subst e2 e3
    have hlt := World.block_lt_of_cell? w _ (hc' 0 hn)
    refine ⟨bb, oo, e1, fun j hj => ?_⟩
    have h1 := hc j hj
    simp only [World.cell?] at h1 ⊢
    rw [hk bb hlt]
    exact h1⟩, h.ne, h.le⟩
set_option maxHeartbeats 2000000 in
theorem l2_takeRef0 (b : Nat) (A : Option Addr) (n c : Nat) (L : List UInt8) (at_ : Nat) (e : Int) (most : Int) (w : World) (h : IsY w b A n c L at_ e) :
    Calls Try.prog 32 #[.pointer (some ⟨b, 0, none⟩), .int .i64 0, .int .i64 most] w fun e1 w' => e1 = .returned (ValV.val ⟨0, (rU L at_ e).1, 0, ⟨#[]⟩⟩) ∧ IsY w' b A n c L (rU L at_ e).2.1 (rU L at_ e).2.2 ∧ Only [b] w w' := by
  have H := Lib.hid h
  have hb := h.lt
  have HB := Lib.hid (((Below.refl w.heap.size w).alloc (Nat.le_refl _) (.cells #[.int .i64 0, .int .u64 0, .int .i64 0, .string ⟨#[]⟩] 27)).alloc (by simp) (.cells #[.int .i64 0, .int .u64 0, .int .i64 0, .string ⟨#[]⟩] 27))
  clear h
  go_enter Try.func32, Try.ntmps32
  go_wp2_with fail
  refine (py_Uint b A n c L at_ e _ (H.out.ext HB.out)).mono ?_
  rintro e2 w3 ⟨rfl, hI, hO⟩
  have hT := Two.of hb hO
  obtain ⟨v, hv⟩ : ∃ v, v = (rU L at_ e).1 := ⟨_, rfl⟩
  rw [← hv]
  have HV := Lib.hid hv
  clear hv
  have HT := Lib.hid hT
  have HI := Lib.hid hI
  have d0 := hT.cell1 0
  have d1 := hT.cell1 1
  have d2 := hT.cell1 2
  have d3 := hT.cell1 3
  have q0 := hT.cell0 0
  have q1 := hT.cell0 1
  have q2 := hT.cell0 2
  have q3 := hT.cell0 3
  have f0 := hT.fz0 0
  have f1 := hT.fz0 1
  have f2 := hT.fz0 2
  have f3 := hT.fz0 3
  have g := hT.fz1 1
  simp only [List.getElem?_toArray, List.getElem?_cons_zero, List.getElem?_cons_succ] at d0 d1 d2 d3 q0 q1 q2 q3
  clear hT hI hO hb
  go_wp2
  (try simp only [Exit.inBlock, Exit.then])
  have hrow : (w3.setCell ⟨w.heap.size + 1, 1, none⟩ (.int .u64 v)).heap[w.heap.size]? = _ := (heap_setCell_other _ _ _ _ (by simp)).trans HT.out.r0
  refine bodyPost_ret (results_cell_row rfl _ _ w.heap.size 27 _ (0, 0) _ rfl (row4 hrow _ _ _ _) Try.underlying27 rfl sz_val) rfl ⟨by rw [HV.out]; rfl, ?_, ?_⟩
  · refine H.out.upto HI.out fun k hk => ?_
    rw [heap_setCell_other _ _ _ _ (by simp; omega), heap_setCell_other _ _ _ _ (by simp; omega), heap_setCell_other _ _ _ _ (by simp; omega), heap_setCell_other _ _ _ _ (by simp; omega), heap_setCell_other _ _ _ _ (by simp; omega)]
  · exact (((((HT.out.only).setNew (by simp) _).setNew (by simp) _).setNew (by simp) _).setNew (by simp) _).setNew (by simp) _

set_option maxHeartbeats 2000000 in
theorem l2_takeRef1 (b : Nat) (A : Option Addr) (n c : Nat) (L : List UInt8) (at_ : Nat) (e : Int) (most : Int) (w : World) (h : IsY w b A n c L at_ e) :
    Calls Try.prog 32 #[.pointer (some ⟨b, 0, none⟩), .int .i64 1, .int .i64 most] w fun e1 w' => e1 = .returned (ValV.val ⟨1, 0, unzz (rU L at_ e).1, ⟨#[]⟩⟩) ∧ IsY w' b A n c L (rU L at_ e).2.1 (rU L at_ e).2.2 ∧ Only [b] w w' := by
  have H := Lib.hid h
  have hb := h.lt
  have HB := Lib.hid (((Below.refl w.heap.size w).alloc (Nat.le_refl _) (.cells #[.int .i64 0, .int .u64 0, .int .i64 0, .string ⟨#[]⟩] 27)).alloc (by simp) (.cells #[.int .i64 1, .int .u64 0, .int .i64 0, .string ⟨#[]⟩] 27))
  clear h
  go_enter Try.func32, Try.ntmps32
  go_wp2_with fail
  refine (py_Int b A n c L at_ e _ (H.out.ext HB.out)).mono ?_
  rintro e2 w3 ⟨rfl, hI, hO⟩
  have hT := Two.of hb hO
  obtain ⟨v, hv⟩ : ∃ v, v = unzz (rU L at_ e).1 := ⟨_, rfl⟩
  rw [← hv]
  have HV := Lib.hid hv
  clear hv
  have HT := Lib.hid hT
  have HI := Lib.hid hI
  have d0 := hT.cell1 0
  have d1 := hT.cell1 1
  have d2 := hT.cell1 2
  have d3 := hT.cell1 3
  have q0 := hT.cell0 0
  have q1 := hT.cell0 1
  have q2 := hT.cell0 2
  have q3 := hT.cell0 3
  have f0 := hT.fz0 0
  have f1 := hT.fz0 1
  have f2 := hT.fz0 2
  have f3 := hT.fz0 3
  have g := hT.fz1 2
  simp only [List.getElem?_toArray, List.getElem?_cons_zero, List.getElem?_cons_succ] at d0 d1 d2 d3 q0 q1 q2 q3
  clear hT hI hO hb
  go_wp2
  (try simp only [Exit.inBlock, Exit.then])
  have hrow : (w3.setCell ⟨w.heap.size + 1, 2, none⟩ (.int .i64 v)).heap[w.heap.size]? = _ := (heap_setCell_other _ _ _ _ (by simp)).trans HT.out.r0
  refine bodyPost_ret (results_cell_row rfl _ _ w.heap.size 27 _ (0, 0) _ rfl (row4 hrow _ _ _ _) Try.underlying27 rfl sz_val) rfl ⟨by rw [HV.out]; rfl, ?_, ?_⟩
  · refine H.out.upto HI.out fun k hk => ?_
    rw [heap_setCell_other _ _ _ _ (by simp; omega), heap_setCell_other _ _ _ _ (by simp; omega), heap_setCell_other _ _ _ _ (by simp; omega), heap_setCell_other _ _ _ _ (by simp; omega), heap_setCell_other _ _ _ _ (by simp; omega)]
  · exact (((((HT.out.only).setNew (by simp) _).setNew (by simp) _).setNew (by simp) _).setNew (by simp) _).setNew (by simp) _

set_option maxHeartbeats 2000000 in
theorem l2_takeRef2 (b : Nat) (A : Option Addr) (n c : Nat) (L : List UInt8) (at_ : Nat) (e : Int) (most : Int) (w : World) (h : IsY w b A n c L at_ e) :
    Calls Try.prog 32 #[.pointer (some ⟨b, 0, none⟩), .int .i64 2, .int .i64 most] w fun e1 w' => e1 = .returned (ValV.val ⟨2, 0, b2i (rO L at_ e).1, ⟨#[]⟩⟩) ∧ IsY w' b A n c L (rO L at_ e).2.1 (rO L at_ e).2.2 ∧ Only [b] w w' := by
  have H := Lib.hid h
  have hb := h.lt
  have HB := Lib.hid (((Below.refl w.heap.size w).alloc (Nat.le_refl _) (.cells #[.int .i64 0, .int .u64 0, .int .i64 0, .string ⟨#[]⟩] 27)).alloc (by simp) (.cells #[.int .i64 2, .int .u64 0, .int .i64 0, .string ⟨#[]⟩] 27))
  clear h
  go_enter Try.func32, Try.ntmps32
  go_wp2_with fail
  refine (py_Bool b A n c L at_ e _ (H.out.ext HB.out)).mono ?_
  rintro e2 w3 ⟨rfl, hI, hO⟩
  have hT := Two.of hb hO
  obtain ⟨v, hv⟩ : ∃ v, v = (rO L at_ e).1 := ⟨_, rfl⟩
  rw [← hv]
  have HV := Lib.hid hv
  clear hv
  have HT := Lib.hid hT
  have HI := Lib.hid hI
  have d0 := hT.cell1 0
  have d1 := hT.cell1 1
  have d2 := hT.cell1 2
  have d3 := hT.cell1 3
  have q0 := hT.cell0 0
  have q1 := hT.cell0 1
  have q2 := hT.cell0 2
  have q3 := hT.cell0 3
  have f0 := hT.fz0 0
  have f1 := hT.fz0 1
  have f2 := hT.fz0 2
  have f3 := hT.fz0 3
  have g := hT.fz1 2
  simp only [List.getElem?_toArray, List.getElem?_cons_zero, List.getElem?_cons_succ] at d0 d1 d2 d3 q0 q1 q2 q3
  clear hT hI hO hb
  cases v
  · have HZ := Lib.hid (show (rO L at_ e).1 = false from HV.out.symm)
    go_wp2
    (try simp only [Exit.inBlock, Exit.then])
    have hrow : w3.heap[w.heap.size]? = _ := HT.out.r0
    refine bodyPost_ret (results_cell_row rfl _ _ w.heap.size 27 _ (0, 0) _ rfl (row4 hrow _ _ _ _) Try.underlying27 rfl sz_val) rfl ⟨by rw [HZ.out]; rfl, ?_, ?_⟩
    · refine H.out.upto HI.out fun k hk => ?_
      rw [heap_setCell_other _ _ _ _ (by simp; omega), heap_setCell_other _ _ _ _ (by simp; omega), heap_setCell_other _ _ _ _ (by simp; omega), heap_setCell_other _ _ _ _ (by simp; omega)]
    · exact ((((HT.out.only).setNew (by simp) _).setNew (by simp) _).setNew (by simp) _).setNew (by simp) _
  · have HZ := Lib.hid (show (rO L at_ e).1 = true from HV.out.symm)
    go_wp2
    (try simp only [Exit.inBlock, Exit.then])
    have hrow : (w3.setCell ⟨w.heap.size + 1, 2, none⟩ (.int .i64 1)).heap[w.heap.size]? = _ := (heap_setCell_other _ _ _ _ (by simp)).trans HT.out.r0
    refine bodyPost_ret (results_cell_row rfl _ _ w.heap.size 27 _ (0, 0) _ rfl (row4 hrow _ _ _ _) Try.underlying27 rfl sz_val) rfl ⟨by rw [HZ.out]; rfl, ?_, ?_⟩
    · refine H.out.upto HI.out fun k hk => ?_
      rw [heap_setCell_other _ _ _ _ (by simp; omega), heap_setCell_other _ _ _ _ (by simp; omega), heap_setCell_other _ _ _ _ (by simp; omega), heap_setCell_other _ _ _ _ (by simp; omega), heap_setCell_other _ _ _ _ (by simp; omega)]
    · exact (((((HT.out.only).setNew (by simp) _).setNew (by simp) _).setNew (by simp) _).setNew (by simp) _).setNew (by simp) _

set_option maxHeartbeats 2000000 in
theorem l2_takeRef3 (b : Nat) (A : Option Addr) (n c : Nat) (L : List UInt8) (at_ : Nat) (e : Int) (most : Int) (w : World) (h : IsY w b A n c L at_ e) :
    Calls Try.prog 32 #[.pointer (some ⟨b, 0, none⟩), .int .i64 3, .int .i64 most] w fun e1 w' => e1 = .returned (ValV.val ⟨3, (rB L at_ e).1.toNat, 0, ⟨#[]⟩⟩) ∧ IsY w' b A n c L (rB L at_ e).2.1 (rB L at_ e).2.2 ∧ Only [b] w w' := by
  have H := Lib.hid h
  have hb := h.lt
  have HB := Lib.hid (((Below.refl w.heap.size w).alloc (Nat.le_refl _) (.cells #[.int .i64 0, .int .u64 0, .int .i64 0, .string ⟨#[]⟩] 27)).alloc (by simp) (.cells #[.int .i64 3, .int .u64 0, .int .i64 0, .string ⟨#[]⟩] 27))
  clear h
  go_enter Try.func32, Try.ntmps32
  go_wp2_with fail
  refine (py_Byte b A n c L at_ e _ (H.out.ext HB.out)).mono ?_
  rintro e2 w3 ⟨rfl, hI, hO⟩
  have hT := Two.of hb hO
  obtain ⟨v, hv⟩ : ∃ v, v = (rB L at_ e).1 := ⟨_, rfl⟩
  rw [← hv]
  have HV := Lib.hid hv
  clear hv
  have HT := Lib.hid hT
  have HI := Lib.hid hI
  have d0 := hT.cell1 0
  have d1 := hT.cell1 1
  have d2 := hT.cell1 2
  have d3 := hT.cell1 3
  have q0 := hT.cell0 0
  have q1 := hT.cell0 1
  have q2 := hT.cell0 2
  have q3 := hT.cell0 3
  have f0 := hT.fz0 0
  have f1 := hT.fz0 1
  have f2 := hT.fz0 2
  have f3 := hT.fz0 3
  have g := hT.fz1 1
  simp only [List.getElem?_toArray, List.getElem?_cons_zero, List.getElem?_cons_succ] at d0 d1 d2 d3 q0 q1 q2 q3
  clear hT hI hO hb
  have hvl := v.toNat_lt
  have hw : IntKind.u64.wrap (v.toNat : Int) = (v.toNat : Int) := IntWalk.u64_in _ (by omega)
  clear hvl
  go_wp2
  (try simp only [Exit.inBlock, Exit.then])
  have hrow : (w3.setCell ⟨w.heap.size + 1, 1, none⟩ (.int .u64 v.toNat)).heap[w.heap.size]? = _ := (heap_setCell_other _ _ _ _ (by simp)).trans HT.out.r0
  refine bodyPost_ret (results_cell_row rfl _ _ w.heap.size 27 _ (0, 0) _ rfl (row4 hrow _ _ _ _) Try.underlying27 rfl sz_val) rfl ⟨by rw [HV.out]; rfl, ?_, ?_⟩
  · refine H.out.upto HI.out fun k hk => ?_
    rw [heap_setCell_other _ _ _ _ (by simp; omega), heap_setCell_other _ _ _ _ (by simp; omega), heap_setCell_other _ _ _ _ (by simp; omega), heap_setCell_other _ _ _ _ (by simp; omega), heap_setCell_other _ _ _ _ (by simp; omega)]
  · exact (((((HT.out.only).setNew (by simp) _).setNew (by simp) _).setNew (by simp) _).setNew (by simp) _).setNew (by simp) _

set_option maxHeartbeats 2000000 in
theorem l2_takeRef4 (b : Nat) (A : Option Addr) (n c : Nat) (L : List UInt8) (at_ : Nat) (e : Int) (most : Int) (hmo : -9223372036854775808 ≤ most ∧ most < 9223372036854775808) (w : World) (h : IsY w b A n c L at_ e) :
    Calls Try.prog 32 #[.pointer (some ⟨b, 0, none⟩), .int .i64 4, .int .i64 most] w fun e1 w' => e1 = .returned (ValV.val ⟨4, 0, 0, bstr (rT L at_ e most).1⟩) ∧ IsY w' b A n c L (rT L at_ e most).2.1 (rT L at_ e most).2.2 ∧ Only [b] w w' := by
  have H := Lib.hid h
  have hb := h.lt
  have HB := Lib.hid (((Below.refl w.heap.size w).alloc (Nat.le_refl _) (.cells #[.int .i64 0, .int .u64 0, .int .i64 0, .string ⟨#[]⟩] 27)).alloc (by simp) (.cells #[.int .i64 4, .int .u64 0, .int .i64 0, .string ⟨#[]⟩] 27))
  clear h
  go_enter Try.func32, Try.ntmps32
  go_wp2_with fail
  refine (py_Text b A n c L at_ e _ most hmo (H.out.ext HB.out)).mono ?_
  rintro e2 w3 ⟨rfl, hI, hO⟩
  have hT := Two.of hb hO
  obtain ⟨v, hv⟩ : ∃ v, v = bstr (rT L at_ e most).1 := ⟨_, rfl⟩
  rw [← hv]
  have HV := Lib.hid hv
  clear hv
  have HT := Lib.hid hT
  have HI := Lib.hid hI
  have d0 := hT.cell1 0
  have d1 := hT.cell1 1
  have d2 := hT.cell1 2
  have d3 := hT.cell1 3
  have q0 := hT.cell0 0
  have q1 := hT.cell0 1
  have q2 := hT.cell0 2
  have q3 := hT.cell0 3
  have f0 := hT.fz0 0
  have f1 := hT.fz0 1
  have f2 := hT.fz0 2
  have f3 := hT.fz0 3
  have g := hT.fz1 3
  simp only [List.getElem?_toArray, List.getElem?_cons_zero, List.getElem?_cons_succ] at d0 d1 d2 d3 q0 q1 q2 q3
  clear hT hI hO hb
  go_wp2
  (try simp only [Exit.inBlock, Exit.then])
  have hrow : (w3.setCell ⟨w.heap.size + 1, 3, none⟩ (.string v)).heap[w.heap.size]? = _ := (heap_setCell_other _ _ _ _ (by simp)).trans HT.out.r0
  refine bodyPost_ret (results_cell_row rfl _ _ w.heap.size 27 _ (0, 0) _ rfl (row4 hrow _ _ _ _) Try.underlying27 rfl sz_val) rfl ⟨by rw [HV.out]; rfl, ?_, ?_⟩
  · refine H.out.upto HI.out fun k hk => ?_
    rw [heap_setCell_other _ _ _ _ (by simp; omega), heap_setCell_other _ _ _ _ (by simp; omega), heap_setCell_other _ _ _ _ (by simp; omega), heap_setCell_other _ _ _ _ (by simp; omega), heap_setCell_other _ _ _ _ (by simp; omega)]
  · exact (((((HT.out.only).setNew (by simp) _).setNew (by simp) _).setNew (by simp) _).setNew (by simp) _).setNew (by simp) _

set_option maxHeartbeats 2000000 in
theorem l2_takeRef5 (b : Nat) (A : Option Addr) (n c : Nat) (L : List UInt8) (at_ : Nat) (e : Int) (most : Int) (hmo : -9223372036854775808 ≤ most ∧ most < 9223372036854775808) (w : World) (h : IsY w b A n c L at_ e) :
    Calls Try.prog 32 #[.pointer (some ⟨b, 0, none⟩), .int .i64 5, .int .i64 most] w fun e1 w' => e1 = .returned (ValV.val ⟨5, 0, ((rC L at_ e most).1 : Int), ⟨#[]⟩⟩) ∧ IsY w' b A n c L (rC L at_ e most).2.1 (rC L at_ e most).2.2 ∧ Only [b] w w' := by
  have H := Lib.hid h
  have hb := h.lt
  have HB := Lib.hid (((Below.refl w.heap.size w).alloc (Nat.le_refl _) (.cells #[.int .i64 0, .int .u64 0, .int .i64 0, .string ⟨#[]⟩] 27)).alloc (by simp) (.cells #[.int .i64 5, .int .u64 0, .int .i64 0, .string ⟨#[]⟩] 27))
  clear h
  go_enter Try.func32, Try.ntmps32
  go_wp2_with fail
  refine (py_Count b A n c L at_ e _ most hmo (H.out.ext HB.out)).mono ?_
  rintro e2 w3 ⟨rfl, hI, hO⟩
  have hT := Two.of hb hO
  obtain ⟨v, hv⟩ : ∃ v, v = ((rC L at_ e most).1 : Int) := ⟨_, rfl⟩
  rw [← hv]
  have HV := Lib.hid hv
  clear hv
  have HT := Lib.hid hT
  have HI := Lib.hid hI
  have d0 := hT.cell1 0
  have d1 := hT.cell1 1
  have d2 := hT.cell1 2
  have d3 := hT.cell1 3
  have q0 := hT.cell0 0
  have q1 := hT.cell0 1
  have q2 := hT.cell0 2
  have q3 := hT.cell0 3
  have f0 := hT.fz0 0
  have f1 := hT.fz0 1
  have f2 := hT.fz0 2
  have f3 := hT.fz0 3
  have g := hT.fz1 2
  simp only [List.getElem?_toArray, List.getElem?_cons_zero, List.getElem?_cons_succ] at d0 d1 d2 d3 q0 q1 q2 q3
  clear hT hI hO hb
  go_wp2
  (try simp only [Exit.inBlock, Exit.then])
  have hrow : (w3.setCell ⟨w.heap.size + 1, 2, none⟩ (.int .i64 v)).heap[w.heap.size]? = _ := (heap_setCell_other _ _ _ _ (by simp)).trans HT.out.r0
  refine bodyPost_ret (results_cell_row rfl _ _ w.heap.size 27 _ (0, 0) _ rfl (row4 hrow _ _ _ _) Try.underlying27 rfl sz_val) rfl ⟨by rw [HV.out]; rfl, ?_, ?_⟩
  · refine H.out.upto HI.out fun k hk => ?_
    rw [heap_setCell_other _ _ _ _ (by simp; omega), heap_setCell_other _ _ _ _ (by simp; omega), heap_setCell_other _ _ _ _ (by simp; omega), heap_setCell_other _ _ _ _ (by simp; omega), heap_setCell_other _ _ _ _ (by simp; omega)]
  · exact (((((HT.out.only).setNew (by simp) _).setNew (by simp) _).setNew (by simp) _).setNew (by simp) _).setNew (by simp) _

/-- what take of any kind gives -/
def tkA (k : Int) (L : List UInt8) (at_ : Nat) (e most : Int) : ValV × Nat × Int :=
  if k = 0 then (⟨0, (rU L at_ e).1, 0, ⟨#[]⟩⟩, (rU L at_ e).2) else if k = 1 then (⟨1, 0, unzz (rU L at_ e).1, ⟨#[]⟩⟩, (rU L at_ e).2) else if k = 2 then (⟨2, 0, b2i (rO L at_ e).1, ⟨#[]⟩⟩, (rO L at_ e).2)
  else if k = 3 then (⟨3, (rB L at_ e).1.toNat, 0, ⟨#[]⟩⟩, (rB L at_ e).2) else if k = 4 then (⟨4, 0, 0, bstr (rT L at_ e most).1⟩, (rT L at_ e most).2) else if k = 5 then (⟨5, 0, ((rC L at_ e most).1 : Int), ⟨#[]⟩⟩, (rC L at_ e most).2)
  else (⟨k, 0, 0, ⟨#[]⟩⟩, at_, e)

set_option maxHeartbeats 2000000 in
theorem l2_takeO (b : Nat) (A : Option Addr) (n c : Nat) (L : List UInt8) (at_ : Nat) (e k most : Int) (hk : k ≠ 0 ∧ k ≠ 1 ∧ k ≠ 2 ∧ k ≠ 3 ∧ k ≠ 4 ∧ k ≠ 5) (w : World) (h : IsR w b A n c L at_ e) :
    Calls Try.prog 31 #[.pointer (some ⟨b, 0, none⟩), .int .i64 k, .int .i64 most] w fun e1 w' => e1 = .returned (ValV.val ⟨k, 0, 0, ⟨#[]⟩⟩) ∧ IsR w' b A n c L at_ e ∧ Only [b] w w' := by
  have H := Lib.hid h
  have hb := h.lt
  have HB := Lib.hid (((Below.refl w.heap.size w).alloc (Nat.le_refl _) (.cells #[.int .i64 0, .int .u64 0, .int .i64 0, .string ⟨#[]⟩] 27)).alloc (by simp) (.cells #[.int .i64 k, .int .u64 0, .int .i64 0, .string ⟨#[]⟩] 27))
  obtain ⟨k0, k1, k2, k3, k4, k5⟩ := hk
  have e0 : (k == 0) = false := by simpa using k0
  have e1 : (k == 1) = false := by simpa using k1
  have e2 : (k == 2) = false := by simpa using k2
  have e3 : (k == 3) = false := by simpa using k3
  have e4 : (k == 4) = false := by simpa using k4
  have e5 : (k == 5) = false := by simpa using k5
  clear h k0 k1 k2 k3 k4 k5
  go_enter Try.func31, Try.ntmps31
  go_wp2_with fail
  (try simp only [Exit.inBlock, Exit.then])
  have hB : Below w.heap.size w ((w.alloc (.cells #[.int .i64 k, .int .u64 0, .int .i64 0, .string ⟨#[]⟩] 27)).alloc (.cells #[.int .i64 k, .int .u64 0, .int .i64 0, .string ⟨#[]⟩] 27)) := ((Below.refl w.heap.size w).alloc (Nat.le_refl _) _).alloc (by simp) _
  exact bodyPost_ret (results_cell_row rfl _ _ w.heap.size 27 _ (0, 0) _ rfl (heap_alloc2_old w (.cells #[.int .i64 k, .int .u64 0, .int .i64 0, .string ⟨#[]⟩] 27) (.cells #[.int .i64 k, .int .u64 0, .int .i64 0, .string ⟨#[]⟩] 27)) Try.underlying27 rfl sz_val) rfl ⟨rfl, H.out.ext hB, Only.of_below _ hB⟩

set_option maxHeartbeats 2000000 in
theorem l2_takeRefO (b : Nat) (A : Option Addr) (n c : Nat) (L : List UInt8) (at_ : Nat) (e k most : Int) (hk : k ≠ 0 ∧ k ≠ 1 ∧ k ≠ 2 ∧ k ≠ 3 ∧ k ≠ 4 ∧ k ≠ 5) (w : World) (h : IsY w b A n c L at_ e) :
    Calls Try.prog 32 #[.pointer (some ⟨b, 0, none⟩), .int .i64 k, .int .i64 most] w fun e1 w' => e1 = .returned (ValV.val ⟨k, 0, 0, ⟨#[]⟩⟩) ∧ IsY w' b A n c L at_ e ∧ Only [b] w w' := by
  have H := Lib.hid h
  have hb := h.lt
  have HB := Lib.hid (((Below.refl w.heap.size w).alloc (Nat.le_refl _) (.cells #[.int .i64 0, .int .u64 0, .int .i64 0, .string ⟨#[]⟩] 27)).alloc (by simp) (.cells #[.int .i64 k, .int .u64 0, .int .i64 0, .string ⟨#[]⟩] 27))
  obtain ⟨k0, k1, k2, k3, k4, k5⟩ := hk
  have e0 : (k == 0) = false := by simpa using k0
  have e1 : (k == 1) = false := by simpa using k1
  have e2 : (k == 2) = false := by simpa using k2
  have e3 : (k == 3) = false := by simpa using k3
  have e4 : (k == 4) = false := by simpa using k4
  have e5 : (k == 5) = false := by simpa using k5
  clear h k0 k1 k2 k3 k4 k5
  go_enter Try.func32, Try.ntmps32
  go_wp2_with fail
  (try simp only [Exit.inBlock, Exit.then])
  have hB : Below w.heap.size w ((w.alloc (.cells #[.int .i64 k, .int .u64 0, .int .i64 0, .string ⟨#[]⟩] 27)).alloc (.cells #[.int .i64 k, .int .u64 0, .int .i64 0, .string ⟨#[]⟩] 27)) := ((Below.refl w.heap.size w).alloc (Nat.le_refl _) _).alloc (by simp) _
  exact bodyPost_ret (results_cell_row rfl _ _ w.heap.size 27 _ (0, 0) _ rfl (heap_alloc2_old w (.cells #[.int .i64 k, .int .u64 0, .int .i64 0, .string ⟨#[]⟩] 27) (.cells #[.int .i64 k, .int .u64 0, .int .i64 0, .string ⟨#[]⟩] 27)) Try.underlying27 rfl sz_val) rfl ⟨rfl, H.out.ext hB, Only.of_below _ hB⟩

theorem l2_takeA (b : Nat) (A : Option Addr) (n c : Nat) (L : List UInt8) (at_ : Nat) (e k most : Int) (hmo : -9223372036854775808 ≤ most ∧ most < 9223372036854775808) (w : World) (h : IsR w b A n c L at_ e) :
    Calls Try.prog 31 #[.pointer (some ⟨b, 0, none⟩), .int .i64 k, .int .i64 most] w fun e1 w' => e1 = .returned (ValV.val (tkA k L at_ e most).1) ∧ IsR w' b A n c L (tkA k L at_ e most).2.1 (tkA k L at_ e most).2.2 ∧ Only [b] w w' := by
  by_cases h0 : k = 0
  · subst h0; exact l2_take0 b A n c L at_ e most w h
  by_cases h1 : k = 1
  · subst h1; exact l2_take1 b A n c L at_ e most w h
  by_cases h2 : k = 2
  · subst h2; exact l2_take2 b A n c L at_ e most w h
  by_cases h3 : k = 3
  · subst h3; exact l2_take3 b A n c L at_ e most w h
  by_cases h4 : k = 4
  · subst h4; exact l2_take4 b A n c L at_ e most hmo w h
  by_cases h5 : k = 5
  · subst h5; exact l2_take5 b A n c L at_ e most hmo w h
  · have hT : tkA k L at_ e most = (⟨k, 0, 0, ⟨#[]⟩⟩, at_, e) := by unfold tkA; rw [if_neg h0, if_neg h1, if_neg h2, if_neg h3, if_neg h4, if_neg h5]
    rw [hT]
    exact l2_takeO b A n c L at_ e k most ⟨h0, h1, h2, h3, h4, h5⟩ w h

theorem l2_takeRefA (b : Nat) (A : Option Addr) (n c : Nat) (L : List UInt8) (at_ : Nat) (e k most : Int) (hmo : -9223372036854775808 ≤ most ∧ most < 9223372036854775808) (w : World) (h : IsY w b A n c L at_ e) :
    Calls Try.prog 32 #[.pointer (some ⟨b, 0, none⟩), .int .i64 k, .int .i64 most] w fun e1 w' => e1 = .returned (ValV.val (tkA k L at_ e most).1) ∧ IsY w' b A n c L (tkA k L at_ e most).2.1 (tkA k L at_ e most).2.2 ∧ Only [b] w w' := by
  by_cases h0 : k = 0
  · subst h0; exact l2_takeRef0 b A n c L at_ e most w h
  by_cases h1 : k = 1
  · subst h1; exact l2_takeRef1 b A n c L at_ e most w h
  by_cases h2 : k = 2
  · subst h2; exact l2_takeRef2 b A n c L at_ e most w h
  by_cases h3 : k = 3
  · subst h3; exact l2_takeRef3 b A n c L at_ e most w h
  by_cases h4 : k = 4
  · subst h4; exact l2_takeRef4 b A n c L at_ e most hmo w h
  by_cases h5 : k = 5
  · subst h5; exact l2_takeRef5 b A n c L at_ e most hmo w h
  · have hT : tkA k L at_ e most = (⟨k, 0, 0, ⟨#[]⟩⟩, at_, e) := by unfold tkA; rw [if_neg h0, if_neg h1, if_neg h2, if_neg h3, if_neg h4, if_neg h5]
    rw [hT]
    exact l2_takeRefO b A n c L at_ e k most ⟨h0, h1, h2, h3, h4, h5⟩ w h
end Go.Proofs.Ytclafljkeaekfaa
