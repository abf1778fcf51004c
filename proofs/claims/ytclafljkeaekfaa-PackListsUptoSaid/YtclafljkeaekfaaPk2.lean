/- Walks of the writer's methods. -/
import Derived.Test.YtclafljkeaekfaaPk1
import Derived.Deep.RegionHeld3
set_option linter.unusedVariables false
set_option linter.unusedSimpArgs false
namespace Go.Proofs.Ytclafljkeaekfaa
open Go.RowKit
theorem lay_stuck {lim : Nat} {L F : List UInt8} {e : Int} (he : e ≠ 0) : layL lim L e F = L ∧ layE lim L e F = e := by
  unfold layL layE
  rw [if_neg (fun h => he h.1), if_neg (fun h => he h.1)]
  exact ⟨rfl, rfl⟩
theorem lay_long {lim : Nat} {L F : List UInt8} (h : lim < L.length + F.length) : layL lim L 0 F = L ∧ layE lim L 0 F = 23 := by
  unfold layL layE
  rw [if_neg (fun h' => by omega), if_pos ⟨rfl, by omega⟩]
  exact ⟨rfl, rfl⟩
theorem lay_fits {lim : Nat} {L F : List UInt8} (h : L.length + F.length ≤ lim) : layL lim L 0 F = L ++ F ∧ layE lim L 0 F = 0 := by
  unfold layL layE
  rw [if_pos ⟨rfl, h⟩, if_neg (fun h' => h'.2 h)]
  exact ⟨rfl, rfl⟩
/-- a writer's slice made longer twice, not stored yet -/
structure WStep (w w2 : World) (b base lim n2 : Nat) (v v2 : Value) (e : Int) (L2 : List UInt8) : Prop where
  st : w2.heap[b]? = some (.cells #[.int .i64 lim, v, .int .i64 e] 83 (0, 0))
  own : Own w2 base v2 n2 L2
  only : Only (b :: v.ownBlock.toList) w w2
  at_ : v2.ownBlock = v.ownBlock ∨ Blk v2 w.heap.size w2.heap.size
theorem WStep.two {w w1 w2 : World} {b base lim m n1 n2 : Nat} {v v1 v2 : Value} {e : Int} {L L1 L2 : List UInt8} (h : IsW w b base lim L v e) (h0 : Own w base v m L) (h1 : Own w1 base v1 n1 L1) (g1 : w.grownBy w1 v.ownBlock) (a1 : v1.ownBlock = v.ownBlock ∨ Blk v1 w.heap.size w1.heap.size)
    (h2 : Own w2 base v2 n2 L2) (g2 : w1.grownBy w2 v1.ownBlock) (a2 : v2.ownBlock = v1.ownBlock ∨ Blk v2 w1.heap.size w2.heap.size) (hb : b < base) : WStep w w2 b base lim n2 v v2 e L2 := by
  have o1 : Only (v.ownBlock.toList) w w1 := (Only.refl _ w).grown g1 (fun k hk => .inl (by simp [hk]))
  have o2 : Only (v.ownBlock.toList) w w2 := o1.grown g2 (fun k hk => by
    rcases a1 with a1 | a1
    · rw [a1] at hk; exact .inl (by simp [hk])
    · exact .inr (a1 k hk).1)
  refine ⟨?_, h2, o2.mono (fun k hk => List.mem_cons_of_mem _ hk), ?_⟩
  · refine (o2.blk b (lt_of_block h.st) ?_).trans h.st
    intro hm
    simp at hm
    have := (h0.blk b hm).1
    omega
  · rcases a2 with a2 | a2
    · rcases a1 with a1 | a1
      · exact .inl (a2.trans a1)
      · exact .inr fun k hk => (a1.mono (Nat.le_refl _) g2.size) k (by rw [← a2]; exact hk)
    · exact .inr (a2.mono g1.size (Nat.le_refl _))
theorem WStep.fz {w w2 : World} {b base lim n2 : Nat} {v v2 : Value} {e : Int} {L2 : List UInt8} (h : WStep w w2 b base lim n2 v v2 e L2) : w2.frozen? ⟨b, 1, none⟩ = false := frozen_of_row w2 _ _ _ _ h.st
theorem WStep.cc {w w2 : World} {b base lim n2 : Nat} {v v2 : Value} {e : Int} {L2 : List UInt8} (h : WStep w w2 b base lim n2 v v2 e L2) : w2.cell? ⟨b, 1, none⟩ = some v := by rw [cell_of_row _ _ _ _ _ _ h.st]; rfl
theorem WStep.post {w w2 : World} {b base lim n2 : Nat} {v v2 : Value} {e : Int} {L L2 : List UInt8} (h : WStep w w2 b base lim n2 v v2 e L2) (hw : IsW w b base lim L v e) (hl : L2.length ≤ lim) : WPost w b base lim v L2 e (w2.setCell ⟨b, 1, none⟩ v2) := by
  have hn := h.own.len
  subst hn
  refine ⟨v2, hw.longer h.only h.st h.own hl, h.only.setCell (by simp) _, ?_⟩
  rcases h.at_ with h1 | h1
  · exact .inl h1
  · exact .inr (by simpa using h1)
set_option maxRecDepth 100000 in
set_option maxHeartbeats 4000000 in
theorem pk_lay (b base lim : Nat) (L : List UInt8) (v : Value) (e : Int) (A : Option Addr) (n c : Nat) (H : List UInt8) (s : ByteArray) (w : World) (h : IsW w b base lim L v e) (hr : Rd w A n c H) (hn : n ≤ 1048576) (hs : s.size ≤ 140737488355328) :
    Calls Try.prog 72 #[.pointer (some ⟨b, 0, none⟩), .slice A n c, .string s] w fun e1 w' => e1 = .returned (.tuple #[]) ∧ WPost w b base lim v (layL lim L e (H ++ s.data.toList)) (layE lim L e (H ++ s.data.toList)) w' := by
  have c0 := h.c0
  have c1 := h.c1
  have c2 := h.c2
  have f1 := h.fz 1
  have f2 := h.fz 2
  have hsm := h.small
  have hmo := h.most
  have hle := h.le
  have hlen : (H ++ s.data.toList).length = n + s.size := by rw [List.length_append, str_len, hr.len]
  have HLEN := Lib.hid hlen
  have HI := Lib.hid h
  have HR := Lib.hid hr
  obtain ⟨Aw, cw, rfl⟩ := h.slice
  obtain ⟨m, hm⟩ : ∃ m, m = L.length := ⟨_, rfl⟩
  rw [← hm] at c1 hsm
  have HM := Lib.hid hm
  clear h hr hm hlen
  by_cases he : e = 0
  · subst he
    by_cases h1 : (lim : Int) - m < n
    · have d1 : decide ((lim : Int) - m < n) = true := decide_eq_true h1
      have HLL := Lib.hid (lay_long (lim := lim) (L := L) (F := H ++ s.data.toList) (by rw [HLEN.out, ← HM.out]; omega))
      go_enter Try.func72, Try.ntmps72
      go_wp2_with fail
      go_quiet ((fail))
      go_wp2
      ((try simp only [Exit.inBlock, Exit.then]); refine bodyPost_ret (results_none rfl _ _ _) rfl ?_)
      refine ⟨by simp, ?_⟩
      rw [HLL.out.1, HLL.out.2]
      exact ⟨_, (HI.out.drew nq).setErr 23, ((Only.refl _ _).drewN nq).setCell (by simp) _, .inl rfl⟩
    · have d1 : decide ((lim : Int) - m < n) = false := decide_eq_false h1
      by_cases h2 : (lim : Int) - m - n < s.size
      · have d2 : decide ((lim : Int) - m - n < s.size) = true := decide_eq_true h2
        have HLL := Lib.hid (lay_long (lim := lim) (L := L) (F := H ++ s.data.toList) (by rw [HLEN.out, ← HM.out]; omega))
        go_enter Try.func72, Try.ntmps72
        go_wp2_with fail
        go_quiet ((fail))
        go_wp2
        ((try simp only [Exit.inBlock, Exit.then]); refine bodyPost_ret (results_none rfl _ _ _) rfl ?_)
        refine ⟨by simp, ?_⟩
        rw [HLL.out.1, HLL.out.2]
        exact ⟨_, (HI.out.drew nq).setErr 23, ((Only.refl _ _).drewN nq).setCell (by simp) _, .inl rfl⟩
      · have d2 : decide ((lim : Int) - m - n < s.size) = false := decide_eq_false h2
        have HLL := Lib.hid (lay_fits (lim := lim) (L := L) (F := H ++ s.data.toList) (by rw [HLEN.out, ← HM.out]; omega))
        have hfit : m + n + s.size ≤ 1048576 := by omega
        go_enter Try.func72, Try.ntmps72
        go_wp2_with fail
        go_quiet ((fail))
        have HI1 := Lib.hid (show IsW (w.drewN nq) b base lim L (.slice Aw m cw) 0 by rw [HM.out]; exact HI.out.drew nq)
        have HR1 := Lib.hid (HR.out.drew nq)
        have HO0 := Lib.hid (show Own (w.drewN nq) base (.slice Aw m cw) m L by have h9 := HI1.out.own; rw [← HM.out] at h9; exact h9)
        have hb0 : b < base := HI.out.lt
        go_wp2_with (first
          | (at_builtin; refine wp_appB base HO0.out HR1.out hle (by omega) _ _ rfl rfl rfl rfl ?_; intro v1 w1 hO1 hG1 hA1; have HO1 := Lib.hid hO1; have HG1 := Lib.hid hG1; have HA1 := Lib.hid hA1; have hle1 : base ≤ w1.heap.size := (Nat.le_trans hle hG1.size); clear hO1 hG1 hA1)
          | (at_builtin; refine wp_appS base s HO1.out hle1 (by omega) _ _ rfl rfl rfl rfl ?_; intro v2 w2 hO2 hG2 hA2; obtain ⟨A2, k2, rfl⟩ := hO2.slice; have HO2 := Lib.hid hO2; have HG2 := Lib.hid hG2; have HA2 := Lib.hid hA2; have HB2 := Lib.hid (WStep.two HI1.out HO0.out HO1.out HG1.out HA1.out hO2 hG2 hA2 hb0); have hf2 := HB2.out.fz; have hcc2 := HB2.out.cc; clear hO2 hG2 hA2))
        go_end0
        refine ⟨by simp, ?_⟩
        rw [HLL.out.1, HLL.out.2]
        have := HB2.out.post HI1.out (by rw [List.length_append, List.length_append, str_len, HR.out.len, ← HM.out]; omega)
        rw [List.append_assoc] at this
        rw [← HM.out]
        exact this.drewn
  · have HE := Lib.hid he
    have he2 : (e != 0) = true := by simpa using he
    clear he
    go_enter Try.func72, Try.ntmps72
    go_wp2
    ((try simp only [Exit.inBlock, Exit.then]); refine bodyPost_ret (results_none rfl _ _ _) rfl ?_)
    refine ⟨by simp, ?_⟩
    rw [(lay_stuck HE.out).1, (lay_stuck HE.out).2]
    exact WPost.same HI.out (Only.refl _ _)
def eb : ByteArray := ⟨#[]⟩
theorem app_eb (H : List UInt8) : H ++ (⟨#[]⟩ : ByteArray).data.toList = H := by simp
theorem pk_number' (v : Nat) (hv : v < 2 ^ 64) (w : World) :
    Calls Try.prog 73 #[.int .u64 v] w fun e w' => ∃ A c, e = .returned (.slice A (nf v).length c) ∧ Rd w' A (nf v).length c (nf v) ∧ Below w.heap.size w w' := by
  refine (pk_number v hv w).mono ?_
  rintro e w' ⟨u, rfl, hO, hB⟩
  obtain ⟨A, c, rfl, hR⟩ := hO.rd (by have := nf_length_le v; omega)
  exact ⟨A, c, rfl, hR, hB⟩
section
variable (b base lim : Nat) (L : List UInt8) (v : Value) (e : Int) (w : World)
theorem pk_WUint (x : Nat) (hx : x < 2 ^ 64) (h : IsW w b base lim L v e) :
    Calls Try.prog 45 #[.pointer (some ⟨b, 0, none⟩), .int .u64 x] w fun e1 w' => e1 = .returned (.tuple #[]) ∧ WPost w b base lim v (layL lim L e (nf x)) (layE lim L e (nf x)) w' := by
  have H := Lib.hid h
  have HX := Lib.hid hx
  clear h hx
  have hl10 := nf_length_le x
  go_enter Try.func45, Try.ntmps45
  go_wp2_with fail
  refine (pk_number' x HX.out w).mono ?_
  rintro e1 w1 ⟨A, c, rfl, hR, hB⟩
  have HR := Lib.hid hR
  have HB := Lib.hid hB
  clear hR hB
  go_wp2_with fail
  refine (pk_lay b base lim L v e A _ c _ _ w1 (H.out.ext HB.out) HR.out (by omega) (by decide)).mono ?_
  rintro e2 w2 ⟨rfl, hP⟩
  rw [app_eb] at hP
  have HP := Lib.hid hP
  clear hP
  go_wp2
  go_end0
  exact ⟨rfl, WPost.after HB.out HP.out⟩
theorem pk_WInt (x : Int) (hx : -9223372036854775808 ≤ x ∧ x < 9223372036854775808) (h : IsW w b base lim L v e) :
    Calls Try.prog 49 #[.pointer (some ⟨b, 0, none⟩), .int .i64 x] w fun e1 w' => e1 = .returned (.tuple #[]) ∧ WPost w b base lim v (layL lim L e (nf (zz x))) (layE lim L e (nf (zz x))) w' := by
  have H := Lib.hid h
  have HX := Lib.hid (zz_lt x hx.1 hx.2)
  clear h
  have hl10 := nf_length_le (zz x)
  go_enter Try.func49, Try.ntmps49
  go_wp2_with fail
  refine (pk_zigzag x hx.1 hx.2 w).mono ?_
  rintro e0 w0 ⟨rfl, rfl⟩
  go_wp2_with fail
  refine (pk_number' (zz x) HX.out _).mono ?_
  rintro e1 w1 ⟨A, c, rfl, hR, hB⟩
  have HR := Lib.hid hR
  have HB := Lib.hid hB
  clear hR hB
  go_wp2_with fail
  refine (pk_lay b base lim L v e A _ c _ _ w1 (H.out.ext HB.out) HR.out (by omega) (by decide)).mono ?_
  rintro e2 w2 ⟨rfl, hP⟩
  rw [app_eb] at hP
  have HP := Lib.hid hP
  clear hP
  go_wp2
  go_end0
  exact ⟨rfl, WPost.after HB.out HP.out⟩
theorem pk_WByte (x : UInt8) (h : IsW w b base lim L v e) :
    Calls Try.prog 51 #[.pointer (some ⟨b, 0, none⟩), .int .u8 x.toNat] w fun e1 w' => e1 = .returned (.tuple #[]) ∧ WPost w b base lim v (layL lim L e [x]) (layE lim L e [x]) w' := by
  have H := Lib.hid h
  clear h
  go_enter Try.func51, Try.ntmps51
  go_wp2_with fail
  have hB : Below w.heap.size w (w.alloc (.cells #[.int .u8 x.toNat] 5)) := (Below.refl _ w).alloc (Nat.le_refl _) _
  refine (pk_lay b base lim L v e _ 1 1 [x] _ _ (H.out.ext hB) (Rd.lit w [x] 1 rfl (by omega)) (by omega) (by decide)).mono ?_
  rintro e2 w2 ⟨rfl, hP⟩
  rw [app_eb] at hP
  have HP := Lib.hid (WPost.after hB hP)
  clear hP hB
  go_wp2
  go_end0
  exact ⟨rfl, HP.out⟩
theorem pk_WBool (x : Bool) (h : IsW w b base lim L v e) :
    Calls Try.prog 50 #[.pointer (some ⟨b, 0, none⟩), .bool x] w fun e1 w' => e1 = .returned (.tuple #[]) ∧ WPost w b base lim v (layL lim L e [if x then 1 else 0]) (layE lim L e [if x then 1 else 0]) w' := by
  have H := Lib.hid h
  clear h
  cases x
  · go_enter Try.func50, Try.ntmps50
    go_wp2_with fail
    refine (pk_WByte b base lim L v e w 0 H.out).mono ?_
    rintro e2 w2 ⟨rfl, hP⟩
    have HP := Lib.hid hP
    clear hP
    go_wp2
    go_end0
    exact ⟨rfl, HP.out⟩
  · go_enter Try.func50, Try.ntmps50
    go_wp2_with fail
    refine (pk_WByte b base lim L v e w 1 H.out).mono ?_
    rintro e2 w2 ⟨rfl, hP⟩
    have HP := Lib.hid hP
    clear hP
    go_wp2
    go_end0
    exact ⟨rfl, HP.out⟩
theorem pk_WText (s : ByteArray) (hs : s.size ≤ 140737488355328) (h : IsW w b base lim L v e) :
    Calls Try.prog 46 #[.pointer (some ⟨b, 0, none⟩), .string s] w fun e1 w' => e1 = .returned (.tuple #[]) ∧ WPost w b base lim v (layL lim L e (nf s.size ++ s.data.toList)) (layE lim L e (nf s.size ++ s.data.toList)) w' := by
  have H := Lib.hid h
  clear h
  have hl10 := nf_length_le s.size
  go_enter Try.func46, Try.ntmps46
  go_wp2_with fail
  refine (pk_number' s.size (by omega) w).mono ?_
  rintro e1 w1 ⟨A, c, rfl, hR, hB⟩
  have HR := Lib.hid hR
  have HB := Lib.hid hB
  clear hR hB
  go_wp2_with fail
  refine (pk_lay b base lim L v e A _ c _ s w1 (H.out.ext HB.out) HR.out (by omega) hs).mono ?_
  rintro e2 w2 ⟨rfl, hP⟩
  have HP := Lib.hid hP
  clear hP
  go_wp2
  go_end0
  exact ⟨rfl, WPost.after HB.out HP.out⟩
def cntE (e : Int) (x : Int) : Int := if e = 0 ∧ (x < 0 ∨ 4096 < x) then 1 else e
def cntN (x : Int) : Nat := (x % 18446744073709551616).toNat
theorem pk_WCount (x : Int) (hx : -9223372036854775808 ≤ x ∧ x < 9223372036854775808) (h : IsW w b base lim L v e) :
    Calls Try.prog 52 #[.pointer (some ⟨b, 0, none⟩), .int .i64 x] w fun e1 w' => e1 = .returned (.tuple #[]) ∧ WPost w b base lim v (layL lim L (cntE e x) (nf (cntN x))) (layE lim L (cntE e x) (nf (cntN x))) w' := by
  have H := Lib.hid h
  have c2 := h.c2
  have f2 := h.fz 2
  clear h
  have hcn : IntKind.u64.wrap x = ((cntN x : Nat) : Int) := by rw [u64_wrap]; unfold cntN; omega
  have HXY := Lib.hid (show 0 ≤ x → x = ((cntN x : Nat) : Int) from fun h => by unfold cntN; omega)
  have hl10 := nf_length_le (cntN x)
  have hlt : cntN x < 2 ^ 64 := by unfold cntN; omega
  have HLT := Lib.hid hlt
  clear hlt
  obtain ⟨y, hy⟩ : ∃ y, y = cntN x := ⟨_, rfl⟩
  rw [← hy] at hcn hl10 HLT HXY ⊢
  clear hy
  by_cases he : e = 0
  · subst he
    by_cases h1 : x < 0
    · have HE := Lib.hid (show cntE 0 x = 1 by unfold cntE; rw [if_pos ⟨rfl, .inl h1⟩])
      go_enter Try.func52, Try.ntmps52
      go_wp2_with fail
      refine (pk_number' y HLT.out _).mono ?_
      rintro e1 w1 ⟨A, c, rfl, hR, hB⟩
      have HR := Lib.hid hR
      have HB := Lib.hid hB
      clear hR hB
      go_wp2_with fail
      refine (pk_lay b base lim L v 1 A _ c _ _ w1 ((H.out.setErr 1).ext HB.out) HR.out (by omega) (by decide)).mono ?_
      rintro e2 w2 ⟨rfl, hP⟩
      rw [app_eb] at hP
      have HP := Lib.hid hP
      clear hP
      go_wp2
      go_end0
      refine ⟨rfl, ?_⟩
      rw [HE.out]
      exact WPost.from ((Only.refl _ w).setCell (p := ⟨b, 2, none⟩) (by simp) _) (WPost.after HB.out HP.out)
    · by_cases h2 : 4096 < x
      · have HE := Lib.hid (show cntE 0 x = 1 by unfold cntE; rw [if_pos ⟨rfl, .inr h2⟩])
        go_enter Try.func52, Try.ntmps52
        go_wp2_with fail
        refine (pk_number' y HLT.out _).mono ?_
        rintro e1 w1 ⟨A, c, rfl, hR, hB⟩
        have HR := Lib.hid hR
        have HB := Lib.hid hB
        clear hR hB
        go_wp2_with fail
        refine (pk_lay b base lim L v 1 A _ c _ _ w1 ((H.out.setErr 1).ext HB.out) HR.out (by omega) (by decide)).mono ?_
        rintro e2 w2 ⟨rfl, hP⟩
        rw [app_eb] at hP
        have HP := Lib.hid hP
        clear hP
        go_wp2
        go_end0
        refine ⟨rfl, ?_⟩
        rw [HE.out]
        exact WPost.from ((Only.refl _ w).setCell (p := ⟨b, 2, none⟩) (by simp) _) (WPost.after HB.out HP.out)
      · have HE := Lib.hid (show cntE 0 x = 0 by unfold cntE; rw [if_neg (fun h => by omega)])
        obtain rfl := HXY.out (by omega)
        have h2' : ¬ 4096 < (y : Int) := h2
        go_enter Try.func52, Try.ntmps52
        go_wp2_with fail
        refine (pk_number' y HLT.out _).mono ?_
        rintro e1 w1 ⟨A, c, rfl, hR, hB⟩
        have HR := Lib.hid hR
        have HB := Lib.hid hB
        clear hR hB
        go_wp2_with fail
        refine (pk_lay b base lim L v 0 A _ c _ _ w1 (H.out.ext HB.out) HR.out (by omega) (by decide)).mono ?_
        rintro e2 w2 ⟨rfl, hP⟩
        rw [app_eb] at hP
        have HP := Lib.hid hP
        clear hP
        go_wp2
        go_end0
        refine ⟨rfl, ?_⟩
        rw [HE.out]
        exact WPost.after HB.out HP.out
  · have HE := Lib.hid (show cntE e x = e by unfold cntE; rw [if_neg (fun h => he h.1)])
    have he2 : (e == 0) = false := by simpa using he
    clear he
    go_enter Try.func52, Try.ntmps52
    go_wp2_with fail
    refine (pk_number' y HLT.out _).mono ?_
    rintro e1 w1 ⟨A, c, rfl, hR, hB⟩
    have HR := Lib.hid hR
    have HB := Lib.hid hB
    clear hR hB
    go_wp2_with fail
    refine (pk_lay b base lim L v e A _ c _ _ w1 (H.out.ext HB.out) HR.out (by omega) (by decide)).mono ?_
    rintro e2 w2 ⟨rfl, hP⟩
    rw [app_eb] at hP
    have HP := Lib.hid hP
    clear hP
    go_wp2
    go_end0
    refine ⟨rfl, ?_⟩
    rw [HE.out]
    exact WPost.after HB.out HP.out
theorem pk_WLen (h : IsW w b base lim L v e) :
    Calls Try.prog 24 #[.pointer (some ⟨b, 0, none⟩)] w fun e1 w' => e1 = .returned (.int .i64 L.length) ∧ w' = w := by
  have c1 := h.c1
  obtain ⟨A, c, rfl⟩ := h.slice
  clear h
  go_enter Try.func24, Try.ntmps24
  go_wp2
  go_ret
  simp
theorem pk_WErr (h : IsW w b base lim L v e) :
    Calls Try.prog 25 #[.pointer (some ⟨b, 0, none⟩)] w fun e1 w' => e1 = .returned (.int .i64 e) ∧ w' = w := by
  have c2 := h.c2
  clear h
  go_enter Try.func25, Try.ntmps25
  go_wp2
  go_ret
  simp
theorem pk_WOut_bad (he : e ≠ 0) (h : IsW w b base lim L v e) :
    Calls Try.prog 23 #[.pointer (some ⟨b, 0, none⟩)] w fun e1 w' => e1 = .returned (.tuple #[.slice none 0 0, .int .i64 e]) ∧ Only [] w w' := by
  have c2 := h.c2
  have he2 : (e != 0) = true := by simpa using he
  clear h he
  go_enter Try.func23, Try.ntmps23
  go_wp2_with fail
  go_quiet ((fail))
  go_wp2
  go_ret2
  exact ⟨by simp, (Only.refl _ _).drewN _⟩
theorem pk_WOut_ok (h : IsW w b base lim L v 0) :
    Calls Try.prog 23 #[.pointer (some ⟨b, 0, none⟩)] w fun e1 w' => ∃ u, e1 = .returned (.tuple #[u, .int .i64 0]) ∧ Own w' w.heap.size u L.length L ∧ Below w.heap.size w w' := by
  have c1 := h.c1
  have c2 := h.c2
  have hsm := h.small
  have hmo := h.most
  obtain ⟨A, c, rfl, hR⟩ := h.own.rd (by omega)
  have HR := Lib.hid hR
  have hll : L.length ≤ 1048576 := by omega
  clear h hR
  go_enter Try.func23, Try.ntmps23
  go_wp2_with (at_builtin; refine wp_appB w.heap.size (Own.nil _ _) HR.out (Nat.le_refl _) (by omega) _ _ rfl rfl rfl rfl ?_; intro v1 w1 hO1 hG1 hA1; have HO1 := Lib.hid hO1; have HG1 := Lib.hid hG1; clear hO1 hG1 hA1)
  go_ret2
  refine ⟨_, rfl, by simpa using HO1.out, (Below.refl _ w).grown HG1.out (Nat.le_refl _) (fun k hk => by simp [Value.ownBlock] at hk)⟩
end
def clampW (x : Int) : Nat := (min (max x 0) 1048576).toNat
theorem new_writer (k lim : Nat) (hk : k = lim) (hl : lim ≤ 1048576) (w : World) : IsW (w.alloc (.cells #[.int .i64 k, .slice none 0 0, .int .i64 0] 83)) w.heap.size (w.heap.size + 1) lim [] (.slice none 0 0) 0 ∧ Below w.heap.size w (w.alloc (.cells #[.int .i64 k, .slice none 0 0, .int .i64 0] 83)) := by
  subst hk
  exact ⟨⟨heap_alloc_new w _, Own.nil _ _, by omega, by simp, by simp, hl⟩, (Below.refl _ w).alloc (Nat.le_refl _) _⟩
theorem pk_NewWriter (x : Int) (w : World) :
    Calls Try.prog 18 #[.int .i64 x] w fun e1 w' => e1 = .returned (.pointer (some ⟨w.heap.size, 0, none⟩)) ∧ IsW w' w.heap.size (w.heap.size + 1) (clampW x) [] (.slice none 0 0) 0 ∧ Below w.heap.size w w' := by
  by_cases h1 : x < 0
  · have HN := Lib.hid (new_writer 0 (clampW x) (by unfold clampW; omega) (by unfold clampW; omega) w)
    go_enter Try.func18, Try.ntmps18
    go_wp2
    go_ret
    exact ⟨by simp, HN.out⟩
  · obtain ⟨k, rfl⟩ := Int.eq_ofNat_of_zero_le (show 0 ≤ x by omega)
    by_cases h2 : (1048576 : Int) < (k : Int)
    · have HN := Lib.hid (new_writer 1048576 (clampW k) (by unfold clampW; omega) (by unfold clampW; omega) w)
      go_enter Try.func18, Try.ntmps18
      go_wp2
      go_ret
      exact ⟨by simp, HN.out⟩
    · have h3 : (k : Int) ≤ 1048576 := by omega
      have HN := Lib.hid (new_writer k (clampW k) (by unfold clampW; omega) (by unfold clampW; omega) w)
      go_enter Try.func18, Try.ntmps18
      go_wp2
      go_ret
      exact ⟨by simp, HN.out⟩
end Go.Proofs.Ytclafljkeaekfaa
