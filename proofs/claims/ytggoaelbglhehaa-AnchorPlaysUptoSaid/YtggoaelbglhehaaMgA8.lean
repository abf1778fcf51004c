/- The device's Crash: fates, and what each write leaves. -/
import Derived.Test.YtggoaelbglhehaaMgA7
import Derived.Deep.RegionHeld3
import Derived.Deep.QuietTactic
import Derived.IntWalk
import Derived.Laws.Rows
/- The device's Crash: fates, and what each write leaves. -/
set_option linter.unusedVariables false
set_option linter.unusedSimpArgs false
set_option maxRecDepth 100000
namespace Go.Proofs.Ytggoaelbglhehaa
open Go.RowKit
structure Ft where
  kind : Int
  at_ : Int
instance : Inhabited Ft := ⟨⟨0, 0⟩⟩
/-- The cells of a slice of fates hold the list l. -/
structure RdF (w : World) (A : Option Addr) (n c : Nat) (l : List Ft) : Prop where
  len : l.length = n
  cap : n ≤ c
  max : n ≤ 140737488355328
  at_ : 0 < n → ∃ b o, A = some ⟨b, o, none⟩ ∧ ∀ j, j < n → w.cell? ⟨b, o + j * 2, none⟩ = some (.int .i64 (l.getD j default).kind) ∧ w.cell? ⟨b, o + j * 2 + 1, none⟩ = some (.int .i64 (l.getD j default).at_)
theorem RdF.nil (w : World) : RdF w none 0 0 [] := ⟨rfl, Nat.le_refl _, by omega, fun hp => absurd hp (by omega)⟩
theorem RdF.only {S : List Nat} {w w' : World} {A : Option Addr} {n c : Nat} {l : List Ft} (h : RdF w A n c l) (hw : Only S w w') (hx : 0 < n → ∀ p, A = some p → p.block ∉ S) : RdF w' A n c l :=
  ⟨h.len, h.cap, h.max, fun hn => by
    obtain ⟨b, o, e, hc⟩ := h.at_ hn
    have hb := hx hn _ e
    refine ⟨b, o, e, fun j hj => ?_⟩
    have h1 := hc j hj
    have hlt := World.block_lt_of_cell? w _ h1.1
    have h2 := hw.blk b hlt hb
    exact ⟨(World.cell?_of_block (w := w) (a := ⟨b, o + j * 2, none⟩) h2).trans h1.1, (World.cell?_of_block (w := w) (a := ⟨b, o + j * 2 + 1, none⟩) h2).trans h1.2⟩⟩
theorem RdF.ext {w w' : World} {A : Option Addr} {n c : Nat} {l : List Ft} (h : RdF w A n c l) (hb : Below w.heap.size w w') : RdF w' A n c l := h.only (Only.of_below [] hb) (by simp)
def ftN (f : Ft) : Nat := if f.kind = 1 then 512 else if f.kind = 2 then (min (max f.at_ 0) 512).toNat else 0
def ftS (f : Ft) : Bool := decide (f.kind = 1 ∨ f.kind = 2)
def crN (l : List Ft) (i : Nat) : Nat := if i < l.length then ftN (l.getD i default) else 0
def crS (l : List Ft) (i : Nat) : Bool := if i < l.length then ftS (l.getD i default) else false
def crT (l : List Ft) : Nat → Nat
  | 0 => 0
  | n + 1 => crT l n + (if crS l n then 1 else 0)
theorem crN_le (l : List Ft) (i : Nat) : crN l i ≤ 512 := by
  unfold crN ftN
  split
  · split
    · omega
    · split <;> omega
  · omega
theorem crT_le (l : List Ft) : ∀ n, crT l n ≤ n
  | 0 => Nat.le_refl _
  | n + 1 => by
    have := crT_le l n
    rw [crT]; split <;> omega
theorem dv_crash1 (w : World) (q : Nat) (A : Option Addr) (n c : Nat) (l : List Ft) (i : Nat) (hi : i ≤ 100000000000) (hq : w.cell? ⟨q, 0, none⟩ = some (.slice A n c)) (hr : RdF w A n c l) :
    Calls Try.prog 57 #[.int .i64 i, .pointer (some ⟨q, 0, none⟩)] w fun e w' => e = .returned (.tuple #[.int .i64 (crN l i : Nat), .bool (crS l i)]) ∧ Below w.heap.size w w' := by
  have hlen := hr.len
  have hmx := hr.max
  by_cases h : i < n
  · obtain ⟨bb, oo, rfl, hc⟩ := hr.at_ (by omega)
    obtain ⟨h1, h2⟩ := hc i h
    obtain ⟨f, hf⟩ : ∃ f, f = l.getD i default := ⟨_, rfl⟩
    have HCN := Lib.hid (show crN l i = ftN f by rw [crN, if_pos (by omega), hf])
    have HCS := Lib.hid (show crS l i = ftS f by rw [crS, if_pos (by omega), hf])
    rw [← hf] at h1 h2
    rw [HCN.out, HCS.out]
    have hii : (0 : Int) ≤ (i : Int) ∧ (i : Int) < (n : Int) := by omega
    obtain ⟨kd, at_⟩ := f
    have hb := World.block_lt_of_cell? w _ h1
    clear hc hr hlen hf
    by_cases hk1 : kd = 1
    · subst hk1
      go_enter Try.func57, Try.ntmps57
      go_wp2
      go_ret2
      exact ⟨rfl, by first | exact ((Below.refl _ w).alloc (Nat.le_refl _) _) | exact (((Below.refl _ w).alloc (Nat.le_refl _) _).setCell (by simp) _).setCell (by simp) _⟩
    · by_cases hk2 : kd = 2
      · subst hk2
        rw [show ftS ⟨2, at_⟩ = true by rw [ftS, decide_eq_true]; simp]
        have HN := Lib.hid (show ftN ⟨2, at_⟩ = (min (max at_ 0) 512).toNat by rw [ftN, if_neg (by show ¬ ((2 : Int) = 1); decide), if_pos rfl])
        rcases (by omega : at_ < 0 ∨ (0 ≤ at_ ∧ at_ ≤ 512) ∨ 512 < at_) with h3 | ⟨h3, h4⟩ | h3
        · rw [show ((ftN ⟨2, at_⟩ : Nat) : Int) = 0 by rw [HN.out]; omega]
          go_enter Try.func57, Try.ntmps57
          go_wp2
          go_ret2
          exact ⟨rfl, by first | exact ((Below.refl _ w).alloc (Nat.le_refl _) _) | exact (((Below.refl _ w).alloc (Nat.le_refl _) _).setCell (by simp) _).setCell (by simp) _⟩
        · rw [show ((ftN ⟨2, at_⟩ : Nat) : Int) = at_ by rw [HN.out]; omega]
          go_enter Try.func57, Try.ntmps57
          go_wp2
          go_ret2
          exact ⟨rfl, by first | exact ((Below.refl _ w).alloc (Nat.le_refl _) _) | exact (((Below.refl _ w).alloc (Nat.le_refl _) _).setCell (by simp) _).setCell (by simp) _⟩
        · rw [show ((ftN ⟨2, at_⟩ : Nat) : Int) = 512 by rw [HN.out]; omega]
          go_enter Try.func57, Try.ntmps57
          go_wp2
          go_ret2
          exact ⟨rfl, by first | exact ((Below.refl _ w).alloc (Nat.le_refl _) _) | exact (((Below.refl _ w).alloc (Nat.le_refl _) _).setCell (by simp) _).setCell (by simp) _⟩
      · have e1 : (kd == 1) = false := by simp [hk1]
        have e2 : (kd == 2) = false := by simp [hk2]
        have HF := Lib.hid (show ftN ⟨kd, at_⟩ = 0 by rw [ftN, if_neg hk1, if_neg hk2])
        have HG := Lib.hid (show ftS ⟨kd, at_⟩ = false by rw [ftS, decide_eq_false]; simp [hk1, hk2])
        rw [HF.out, HG.out]
        clear hk1 hk2
        go_enter Try.func57, Try.ntmps57
        go_wp2
        go_ret2
        exact ⟨rfl, by first | exact ((Below.refl _ w).alloc (Nat.le_refl _) _) | exact (((Below.refl _ w).alloc (Nat.le_refl _) _).setCell (by simp) _).setCell (by simp) _⟩
  · rw [crN, crS, if_neg (by omega), if_neg (by omega)]
    clear hr hlen
    go_enter Try.func57, Try.ntmps57
    go_wp2
    go_ret2
    exact ⟨rfl, Below.refl _ _⟩
theorem splice_lenS {α : Type} (M X : List α) (off : Nat) (h : off + X.length ≤ M.length) : (splice M off X).length = M.length := by
  simp [splice]; omega
theorem dv_settleC (w : World) (b g : Nat) (vc : Value) (D : DS) (q n c : Nat) (A : Option Addr) (l : List Ft) (h : IsV w b g vc D) (hq : D.C.length ≤ 100000000000) (hcq : w.cell? ⟨q, 0, none⟩ = some (.slice A n c)) (hqS : q ∉ dvS b g vc) (hr : RdF w A n c l) (hx : 0 < n → ∀ p, A = some p → p.block ∉ dvS b g vc) :
    Calls Try.prog 56 #[.pointer (some ⟨b, 0, none⟩), .func (.func 57) #[] #[.pointer (some ⟨q, 0, none⟩)]] w fun e w' => e = .returned (.int .i64 (crT l D.C.length : Nat)) ∧
      IsV w' b g (.slice none 0 0) { D with C := [], M := layA (crN l) 0 D.C D.M } ∧ Fr (dvS b g vc) (dvS b g (.slice none 0 0)) w w' := by
  have c1 : w.cell? ⟨b, 1, none⟩ = some vc := h.dev.cell 1
  have HV := Lib.hid h
  obtain ⟨Ac, cc, rfl⟩ := h.ca.slice
  have hbg := h.dev.ne
  have HQ := Lib.hid (And.intro hcq (And.intro (show q ∉ [g] from fun hm => hqS (by simp at hm; simp [dvS, hm])) (And.intro hr (show 0 < n → ∀ p, A = some p → p.block ∉ [g] from fun h0 p hp hm => hx h0 p hp (by simp at hm; simp [dvS, hm])))))
  clear h hcq hqS hr hx
  go_enter Try.func56, Try.ntmps56
  go_wp2_with fail
  clear c1
  go_loopw [5, 6, 7, 8, 9, 15] (fun vt _ _ _ _ x wx => ∃ j : Nat, j ≤ D.C.length ∧ x = .int .i64 j ∧ vt = .int .i64 (crT l j : Nat) ∧ IsV wx b g (.slice Ac D.C.length cc) { D with M := layA (crN l) 0 (D.C.take j) D.M } ∧ Only [g] w wx) (fun _ _ _ _ _ x _ => D.C.length - (intOf x).toNat)
  case atStart => exact ⟨0, Nat.zero_le _, rfl, rfl, HV.out, Only.refl _ _⟩
  case round =>
    obtain ⟨j, hj, rfl, rfl, hI, hO⟩ := hrel
    have HI := Lib.hid hI
    have HO := Lib.hid hO
    have c1 : wr.cell? ⟨b, 1, none⟩ = some (.slice Ac D.C.length cc) := hI.dev.cell 1
    have c0 := hI.dev.c0
    have hsm := hI.dev.small
    have hml := hI.dev.len
    by_cases hjn : j < D.C.length
    · obtain ⟨gc, cc2, hvc⟩ := hI.ca.form (by show 0 < D.C.length; omega)
      injection hvc with hv1 hv2 hv3
      subst hv1 hv3
      have hat := hI.ca.at_ j hjn
      have hpd := hI.ca.1.get j hjn
      obtain ⟨x, hxx⟩ : ∃ x, x = D.C.getD j default := ⟨_, rfl⟩
      have hn2 : wr.cell? ⟨gc, j * 513, none⟩ = some (.int .i64 ((x.num : Nat) : Int)) := by rw [hxx]; exact hat.1
      have hrg : wr.rangeAt gc (j * 513 + 1) (bv x.data) := by rw [hxx]; exact hat.2
      have hpd1 : x.num < D.n := by rw [hxx]; exact hpd.1
      have hpd2 : x.data.length = 512 := by rw [hxx]; exact hpd.2
      obtain ⟨M, hM⟩ : ∃ M, M = layA (crN l) 0 (D.C.take j) D.M := ⟨_, rfl⟩
      have HST := Lib.hid (show layA (crN l) 0 (D.C.take (j + 1)) D.M = splice M (x.num * 512) (x.data.take (crN l j)) by
        rw [takeP_snoc D.C j hjn, layA_snoc, ← hxx, ← hM]
        unfold layP
        rw [List.length_take, Nat.min_eq_left (by omega), Nat.zero_add])
      obtain ⟨N, hN⟩ : ∃ N, N = crN l j := ⟨_, rfl⟩
      have hN2 : N ≤ 512 := by rw [hN]; exact crN_le l j
      rw [← hN] at HST
      have hctj := crT_le l j
      have HCT := Lib.hid (show crT l (j + 1) = crT l j + (if crS l j then 1 else 0) from rfl)
      have HCR := Lib.hid (dv_crash1 wr q A n c l j (by omega) ((World.cell?_of_block (w := w) (a := ⟨q, 0, none⟩) (hO.blk q (World.block_lt_of_cell? w _ HQ.out.1) HQ.out.2.1)).trans HQ.out.1) (HQ.out.2.2.1.only hO HQ.out.2.2.2))
      rw [← hN] at HCR
      have hml2 : M.length = D.n * 512 := by rw [hM]; exact hml
      rw [← hM] at HI
      have HMD := Lib.hid HI.out.dev.med
      have hjj : (0 : Int) ≤ (j : Int) ∧ (j : Int) < ((D.C.length : Nat) : Int) ∧ ((D.C.length : Nat) : Int) ≤ 100000000000 := by omega
      have hxn : (0 : Int) ≤ (x.num : Int) ∧ (x.num : Int) < (D.n : Int) := by omega
      have hgne : gc ≠ g := (HI.out.nb gc rfl).2
      have hbne : b ≠ g := HI.out.dev.ne
      have HXX := Lib.hid hxx
      clear hI hO hat hpd hxx hM hml hN
      go_wp2_with fail
      refine HCR.out.mono ?_
      rintro e w2 ⟨rfl, hB2⟩
      have HIw := Lib.hid (HI.out.ext hB2)
      have HOw := Lib.hid (HO.out.trans (Only.of_below [g] hB2))
      have c0 := HIw.out.dev.c0
      have hn2 : w2.cell? ⟨gc, j * 513, none⟩ = some (.int .i64 ((x.num : Nat) : Int)) := cell_ext hB2 hn2
      have HMD := Lib.hid HIw.out.dev.med
      have hrg : w2.rangeAt gc (j * 513 + 1) (bv x.data) := fun i v hv => cell_ext hB2 (hrg i v hv)
      clear hB2
      go_wp2_with fail
      have HSRC := Lib.hid (show ∀ k v, (bv (x.data.take N))[k]? = some v → w2.drew.cell? ((⟨gc, j * 513 + 1, none⟩ : Addr).add k) = some v from fun k v hv => by
        rw [Addr.add_mid]
        refine hrg k v ?_
        have hk9 : k < N := by
          rcases Nat.lt_or_ge k N with h | h
          · exact h
          · rw [List.getElem?_eq_none (by rw [bv_length, List.length_take]; omega)] at hv; cases hv
        rw [← hv, bv, bv, List.getElem?_map, List.getElem?_map, List.getElem?_take, if_pos hk9])
      have hN3 : (0 : Int) ≤ (N : Int) ∧ (N : Int) ≤ 512 := by omega
      have HMD2 := Lib.hid (show w2.drew.heap[g]? = some (.cells (bv M).toArray 89 (0, 0)) from HMD.out)
      clear hrg
      go_region_held3 (fun w' => w'.cell? ⟨b, 0, none⟩ = some (.slice (some ⟨g, 0, none⟩) D.n D.n) ∧ w'.cell? ⟨gc, j * 513, none⟩ = some (.int .i64 ((x.num : Nat) : Int)) ∧ Only [g] w2 w')
        (first | exact ⟨f0, f1, fO⟩ | exact ⟨c0, hn2, (Only.refl _ _).drew⟩)
        (first | (refine step_copy_only rfl (.tmp 39) (.tmp 44) 26 26 rfl 5 Try.underlying26 sz_u8 g (x.num * 512) 512 512 ⟨gc, j * 513 + 1, none⟩ N 512 rfl rfl (bv M) 89 HMD2.out (bv (x.data.take N)) ?q3 HSRC.out ?q5 (bv_one _) ?_
                  (case q3 => (rw [bv_length, List.length_take, hpd2, Nat.min_eq_left hN2]; exact (Nat.min_eq_left hN2).symm))
                  (case q5 => (rw [bv_length, bv_length, hml2, List.length_take]; omega))
                  intro w3 hg3 ho3
                  rw [splice_bv] at hg3
                  have fO : Only [g] w2 w3 := ((Only.refl [g] w2).drew).trans ho3
                  have HP := Lib.hid (HIw.out.setMed fO hg3 (by rw [splice_lenS _ _ _ (by rw [hml2, List.length_take]; omega)]))
                  have f0 := HP.out.1.dev.c0
                  have f1 := (HP.out.1.ca.at_ j hjn).1
                  rw [← HXX.out] at f1
                  clear ho3 hg3))
      rename_i hHeld
      clear hHeld
      cases hcs : crS l j with
      | true =>
        have HC2 := Lib.hid (show ((crT l (j + 1) : Nat) : Int) = (crT l j : Int) + 1 by rw [HCT.out, hcs]; simp)
        clear hcs HCT
        go_wp2
        go_roundw
        case rel => exact ⟨j + 1, by omega, by go_num, by rw [HC2.out]; try go_num, by rw [HST.out]; exact HP.out.1, HOw.out.trans fO⟩
        case measure => simp [intOf]; omega
      | false =>
        have HC2 := Lib.hid (show ((crT l (j + 1) : Nat) : Int) = (crT l j : Int) by rw [HCT.out, hcs]; simp)
        clear hcs HCT
        go_wp2
        go_roundw
        case rel => exact ⟨j + 1, by omega, by go_num, by rw [HC2.out], by rw [HST.out]; exact HP.out.1, HOw.out.trans fO⟩
        case measure => simp [intOf]; omega
    · obtain rfl : D.C.length = j := by omega
      have HT := Lib.hid (show layA (crN l) 0 (D.C.take D.C.length) D.M = layA (crN l) 0 D.C D.M by rw [List.take_length])
      have f1 := frozen_of_row wr b 1 _ _ hI.dev.st
      rw [HT.out] at hI
      have HD := Lib.hid hI.noCache
      clear hI HI
      go_wp2
      go_ret
      exact ⟨by simp, HD.out.1, (Fr.of_med hbg HO.out).trans HD.out.2⟩
def crD (D : DS) (l : List Ft) : DS := { D with C := [], M := layA (crN l) 0 D.C D.M, down := false, armed := false, left := 0 }
theorem dv_Crash (w : World) (b g : Nat) (vc : Value) (D : DS) (n c : Nat) (A : Option Addr) (l : List Ft) (h : IsV w b g vc D) (hq : D.C.length ≤ 100000000000) (hr : RdF w A n c l) (hx : 0 < n → ∀ p, A = some p → p.block ∉ dvS b g vc) :
    Calls Try.prog 27 #[.pointer (some ⟨b, 0, none⟩), .slice A n c] w fun e w' => e = .returned (.int .i64 (crT l D.C.length : Nat)) ∧ IsV w' b g (.slice none 0 0) (crD D l) ∧ Fr (dvS b g vc) (dvS b g (.slice none 0 0)) w w' := by
  have hB : Below w.heap.size w (w.alloc (.cells #[.slice A n c] 53)) := (Below.refl _ w).alloc (Nat.le_refl _) _
  have HB := Lib.hid hB
  have HS := Lib.hid (dv_settleC (w.alloc (.cells #[.slice A n c] 53)) b g vc D w.heap.size n c A l (h.ext hB) hq (by rw [cell_of_row _ _ _ _ _ _ (heap_alloc_new w _)]; rfl) (fun hm => by have := h.lt _ hm; omega) (hr.ext hB) hx)
  clear h hq hr hx hB
  go_enter Try.func27, Try.ntmps27
  go_wp2_with fail
  refine HS.out.mono ?_
  rintro e w1 ⟨rfl, hV, hF⟩
  have c2 : w1.cell? ⟨b, 2, none⟩ = some (.int .i64 (D.left : Int)) := hV.dev.cell 2
  have c3 : w1.cell? ⟨b, 3, none⟩ = some (.bool D.armed) := hV.dev.cell 3
  have c4 : w1.cell? ⟨b, 4, none⟩ = some (.bool D.down) := hV.dev.cell 4
  have f2 := frozen_of_row w1 b 2 _ _ hV.dev.st
  have f3 := frozen_of_row w1 b 3 _ _ hV.dev.st
  have f4 := frozen_of_row w1 b 4 _ _ hV.dev.st
  have S1 := hV.store 4 (.bool false) { D with C := [], M := layA (crN l) 0 D.C D.M, down := false } rfl rfl rfl rfl
  have S2 := S1.1.store 3 (.bool false) { D with C := [], M := layA (crN l) 0 D.C D.M, down := false, armed := false } rfl rfl rfl rfl
  have S3 := S2.1.store 2 (.int .i64 0) (crD D l) rfl rfl rfl rfl
  have HE := Lib.hid (And.intro S3.1 (((Fr.below _ HB.out).trans hF).trans ((S1.2.trans S2.2).trans S3.2)))
  clear hV hF S1 S2 S3 HS
  go_wp2
  go_ret
  exact ⟨rfl, HE.out.1, HE.out.2⟩
end Go.Proofs.Ytggoaelbglhehaa
/- DevArmed, its parts: sameInts, Read refused, the cache's numbers beside a state, the states. -/
set_option linter.unusedVariables false
set_option linter.unusedSimpArgs false
set_option maxRecDepth 100000
namespace Go.Proofs.Ytggoaelbglhehaa
open Go.RowKit
theorem ret_bool {a b : Bool} (h : a = b) : Ending.returned (.bool a) = .returned (.bool b) := by rw [h]
theorem dv_Read_bad (w : World) (b g : Nat) (vc : Value) (D : DS) (num : Int) (h : IsV w b g vc D) (hn : ¬ (0 ≤ num ∧ num < (D.n : Int))) :
    Calls Try.prog 49 #[.pointer (some ⟨b, 0, none⟩), .int .i64 num] w fun e w' => e = .returned (.tuple #[.slice none 0 0, .int .i64 60]) ∧ w' = w := by
  have HH := Lib.hid (dv_has w b g vc D num h)
  rw [decide_eq_false hn] at HH
  clear h hn
  go_enter Try.func49, Try.ntmps49
  go_wp2_with fail
  refine HH.out.mono ?_
  rintro e w1 ⟨rfl, rfl⟩
  go_wp2
  go_ret2
  exact ⟨rfl, rfl⟩
theorem dv_Read_down (w : World) (b g : Nat) (vc : Value) (D : DS) (num : Int) (h : IsV w b g vc D) (hn : 0 ≤ num ∧ num < (D.n : Int)) (hd : D.down = true) :
    Calls Try.prog 49 #[.pointer (some ⟨b, 0, none⟩), .int .i64 num] w fun e w' => e = .returned (.tuple #[.slice none 0 0, .int .i64 6]) ∧ w' = w := by
  have HH := Lib.hid (dv_has w b g vc D num h)
  rw [decide_eq_true hn] at HH
  have c4 : w.cell? ⟨b, 4, none⟩ = some (.bool D.down) := h.dev.cell 4
  rw [hd] at c4
  clear h hn hd
  go_enter Try.func49, Try.ntmps49
  go_wp2_with fail
  refine HH.out.mono ?_
  rintro e w1 ⟨rfl, rfl⟩
  go_wp2
  go_ret2
  exact ⟨rfl, rfl⟩
section
variable {w0 w : World} {b g : Nat} {vc : Value} {D : DS} {R : List (Nat × Obj)}
theorem st_Arm (k : Int) (h : St w0 w b g vc D R) :
    Calls Try.prog 25 #[.pointer (some ⟨b, 0, none⟩), .int .i64 k] w fun e w' => e = .returned (.int .i64 (armD D k).1) ∧ St w0 w' b g vc (armD D k).2 R := by
  refine (dv_Arm w b g vc D k h.dv).mono ?_
  rintro e w' ⟨rfl, hV, hF⟩
  exact ⟨rfl, h.fr hV hF⟩
theorem st_WriteNil (num : Int) (h : St w0 w b g vc D R) (hl : D.left < 9223372036854775808) (hq : D.C.length ≤ 100000000000) (hwr : D.wr < 9223372036854775807) :
    Calls Try.prog 51 #[.pointer (some ⟨b, 0, none⟩), .int .i64 num, .slice none 0 0] w fun e w' => e = .returned (.int .i64 (wrD D num []).1) ∧ ∃ vc', St w0 w' b g vc' (wrD D num []).2 R := by
  refine (dv_Write w b g vc D num none 0 0 [] h.dv (Rd.nil w) (by simp) hl hq hwr).mono ?_
  rintro e w' ⟨rfl, vc', hV, hF⟩
  exact ⟨rfl, vc', h.fr hV hF⟩
theorem st_Crash (n c : Nat) (A : Option Addr) (l : List Ft) (h : St w0 w b g vc D R) (hq : D.C.length ≤ 100000000000) (hr : RdF w A n c l) (hx : 0 < n → ∀ p, A = some p → p.block ∉ dvS b g vc) :
    Calls Try.prog 27 #[.pointer (some ⟨b, 0, none⟩), .slice A n c] w fun e w' => e = .returned (.int .i64 (crT l D.C.length : Nat)) ∧ ∃ vc', St w0 w' b g vc' (crD D l) R := by
  refine (dv_Crash w b g vc D n c A l h.dv hq hr hx).mono ?_
  rintro e w' ⟨rfl, hV, hF⟩
  exact ⟨rfl, _, h.fr hV hF⟩
end
theorem st_Med64 {w0 w : World} {b g : Nat} {vc : Value} {D : DS} {R : List (Nat × Obj)} (h : St w0 w b g vc D R) (hn : D.n = 64) :
    Calls Try.prog 34 #[.pointer (some ⟨b, 0, none⟩)] w fun e w' => ∃ j c o, e = .returned (.slice (some ⟨j, 0, none⟩) 32768 c) ∧ RowB o 32768 c D.M ∧ St w0 w' b g vc D ((j, o) :: R) := by
  have h1 := st_Medium h
  rw [hn] at h1
  exact h1
theorem Only.toB {w w' : World} (h : Only [] w w') : Below w.heap.size w w' := h.below (Nat.le_refl _) (by simp)
/-! ### the states of DevArmed -/
def amF (i : Nat) : List UInt8 := List.replicate 512 (UInt8.ofNat i)
def amC (i : Nat) : List Pd := (List.range i).map fun j => ⟨j, amF j⟩
theorem amC_len (i : Nat) : (amC i).length = i := by simp [amC]
theorem amC_snoc (i : Nat) : amC (i + 1) = amC i ++ [⟨i, amF i⟩] := by simp [amC, List.range_succ]
def amD (n i : Nat) : DS := ⟨64, liveM, amC i, n - i, true, false, 0, 1 + i, 1⟩
def amX (n : Nat) : DS := ⟨64, liveM, amC n, 0, true, true, 0, 1 + n, 1⟩
def amY (n : Nat) : DS := ⟨64, liveM, [], 0, false, false, 0, 1 + n, 1⟩
def amZ (n : Nat) : DS := ⟨64, liveM, [⟨1, amF 1⟩], 0, false, false, 0, 2 + n, 1⟩
theorem am_arm0 (n : Nat) : armD liveD n = (0, amD n 0) := by
  unfold armD
  rw [if_neg (by omega), if_neg (by show ¬ (false = true); decide), Int.toNat_natCast]
  rfl
theorem am_armN (D : DS) (k : Int) (h : k < 0) : armD D k = (1, D) := if_pos h
theorem am_w64 (D : DS) (hn : D.n = 64) (L : List UInt8) (k : Int) (hk : k < 0 ∨ 64 ≤ k) : wrD D k L = (60, D) := by
  unfold wrD
  rw [if_pos (by rw [hn]; omega)]
theorem am_wnil (D : DS) (hn : D.n = 64) : wrD D 1 [] = (61, D) := by
  unfold wrD
  rw [if_neg (by rw [hn]; omega), if_pos (by simp)]
theorem am_wr (n i : Nat) (hi : i < n) (hn : n ≤ 40) : wrD (amD n i) i (amF i) = (0, amD n (i + 1)) := by
  have ha : actD (amD n i) = (true, { amD n i with left := n - (i + 1) }) := by
    unfold actD
    rw [if_neg (by show ¬ (true = true ∧ n - i = 0); omega), if_neg (by show ¬ (false = true); decide), if_pos (show (amD n i).armed = true from rfl)]
    rfl
  unfold wrD
  rw [if_neg (by show ¬ ¬ ((0 : Int) ≤ (i : Int) ∧ (i : Int) < ((64 : Nat) : Int)); omega), if_neg (by simp [amF]), ha, if_pos rfl]
  show ((0 : Int), (⟨64, liveM, amC i ++ [⟨i, amF i⟩], n - (i + 1), true, false, 0, 1 + i + 1, 1⟩ : DS)) = _
  rw [← amC_snoc]; rfl
theorem am_arm (n i : Nat) (hi : i < n) : armD (amD n (i + 1)) ((n : Int) - i - 1) = (0, amD n (i + 1)) := by
  unfold armD
  rw [if_neg (by omega), if_neg (by show ¬ (false = true); decide), show ((n : Int) - i - 1).toNat = n - (i + 1) by omega]
  rfl
theorem am_act (n : Nat) : actD (amD n n) = (false, amX n) := by
  unfold actD
  rw [if_pos ⟨rfl, Nat.sub_self n⟩]
  show (false, (⟨64, liveM, amC n, n - n, true, true, 0, 1 + n, 1⟩ : DS)) = _
  rw [Nat.sub_self]; rfl
theorem am_actX (n : Nat) : actD (amX n) = (false, amX n) := by
  unfold actD
  rw [if_pos ⟨rfl, rfl⟩]
  rfl
theorem am_fl (n : Nat) : flD (amD n n) = (6, amX n) := by
  unfold flD
  rw [am_act, if_neg (by show ¬ (false = true); decide)]
theorem am_wX (n : Nat) : wrD (amX n) 1 (amF 1) = (6, amX n) := by
  unfold wrD
  rw [if_neg (by show ¬ ¬ ((0 : Int) ≤ 1 ∧ (1 : Int) < ((64 : Nat) : Int)); omega), if_neg (by simp [amF]), am_actX, if_neg (by show ¬ (false = true); decide)]
theorem am_armX (n : Nat) : armD (amX n) 5 = (6, amX n) := by
  unfold armD
  rw [if_neg (by omega), if_pos (show (amX n).down = true from rfl)]
theorem layP_none (M : List UInt8) (x : Pd) (h : x.num * 512 ≤ M.length) : layP M x 0 = M := by
  unfold layP splice
  simp
theorem layA_none : ∀ (i : Nat) (l : List Pd) (M : List UInt8), (∀ x ∈ l, x.num * 512 ≤ M.length) → layA (crN []) i l M = M
  | i, [], M, _ => rfl
  | i, x :: r, M, h => by
    have h0 : crN [] i = 0 := rfl
    rw [layA, h0, layP_none M x (h x (by simp))]
    exact layA_none (i + 1) r M (fun y hy => h y (by simp [hy]))
theorem am_cr (n : Nat) (hn : n ≤ 40) : crD (amX n) [] = amY n := by
  have h : layA (crN []) 0 (amC n) liveM = liveM := layA_none 0 _ _ (fun x hx => by
    simp only [amC, List.mem_map, List.mem_range] at hx
    obtain ⟨j, hj, rfl⟩ := hx
    have h9 : liveM.length = 64 * 512 := by
      unfold liveM
      rw [splice_lenS _ _ _ (by rw [fiveL_len, zM_len]; decide), zM_len]
    rw [h9]
    show j * 512 ≤ 64 * 512
    omega)
  unfold crD
  show (⟨64, layA (crN []) 0 (amC n) liveM, [], 0, false, false, 0, 1 + n, 1⟩ : DS) = _
  rw [h]; rfl
theorem crT_nil : ∀ n, crT [] n = 0
  | 0 => rfl
  | n + 1 => by rw [crT, crT_nil n]; rfl
theorem am_wY (n : Nat) : wrD (amY n) 1 (amF 1) = (0, amZ n) := by
  unfold wrD
  rw [if_neg (by show ¬ ¬ ((0 : Int) ≤ 1 ∧ (1 : Int) < ((64 : Nat) : Int)); omega), if_neg (by simp [amF]), show actD (amY n) = (true, amY n) from rfl, if_pos rfl]
  show ((0 : Int), (⟨64, liveM, [⟨1, amF 1⟩], 0, false, false, 0, 1 + n + 1, 1⟩ : DS)) = _
  rw [show 1 + n + 1 = 2 + n by omega]; rfl
theorem am_flZ (n : Nat) : (flD (amZ n)).1 = 0 := by
  unfold flD
  rw [show actD (amZ n) = (true, amZ n) from rfl, if_pos rfl]
end Go.Proofs.Ytggoaelbglhehaa
/- A script of steps on a device, as it lies in memory. -/
set_option linter.unusedVariables false
set_option linter.unusedSimpArgs false
namespace Go.Proofs.Ytggoaelbglhehaa
open Go.RowKit
structure OpD where
  two : Bool
  kind : Int
  blk : Int
  num : Int
  len : Int
  fill : UInt8
  B : List UInt8
  F : List Ft
instance : Inhabited OpD := ⟨⟨false, 0, 0, 0, 0, 0, [], []⟩⟩
def i64B (x : Int) : Prop := -9223372036854775808 ≤ x ∧ x < 9223372036854775808
def OpD.ok (x : OpD) : Prop := i64B x.kind ∧ i64B x.blk ∧ i64B x.num ∧ i64B x.len ∧ x.B.length ≤ 140737488351232 ∧ x.F.length ≤ 8796093022207
/-- a step lies at a place -/
structure OpAt (w : World) (b o : Nat) (x : OpD) : Prop where
  ok : x.ok
  c0 : w.cell? ⟨b, o, none⟩ = some (.bool x.two)
  c1 : w.cell? ⟨b, o + 1, none⟩ = some (.int .i64 x.kind)
  c2 : w.cell? ⟨b, o + 2, none⟩ = some (.int .i64 x.blk)
  c3 : w.cell? ⟨b, o + 3, none⟩ = some (.int .i64 x.num)
  c4 : w.cell? ⟨b, o + 4, none⟩ = some (.int .i64 x.len)
  c5 : w.cell? ⟨b, o + 5, none⟩ = some (.int .u8 (x.fill.toNat : Int))
  c6 : ∃ A n c, w.cell? ⟨b, o + 6, none⟩ = some (.slice A n c) ∧ Rd w A n c x.B
  c7 : ∃ A n c, w.cell? ⟨b, o + 7, none⟩ = some (.slice A n c) ∧ RdF w A n c x.F
structure RdO (w : World) (A : Option Addr) (n c : Nat) (l : List OpD) : Prop where
  len : l.length = n
  cap : n ≤ c
  max : n ≤ 140737488355328
  at_ : 0 < n → ∃ b o, A = some ⟨b, o, none⟩ ∧ ∀ j, j < n → OpAt w b (o + j * 8) (l.getD j default)
theorem OpAt.ext {w w' : World} {b o : Nat} {x : OpD} (h : OpAt w b o x) (hb : Below w.heap.size w w') : OpAt w' b o x := by
  obtain ⟨A6, n6, c6, h6, r6⟩ := h.c6
  obtain ⟨A7, n7, c7, h7, r7⟩ := h.c7
  exact ⟨h.ok, cell_ext hb h.c0, cell_ext hb h.c1, cell_ext hb h.c2, cell_ext hb h.c3, cell_ext hb h.c4, cell_ext hb h.c5, ⟨A6, n6, c6, cell_ext hb h6, r6.ext hb⟩, ⟨A7, n7, c7, cell_ext hb h7, r7.ext hb⟩⟩
theorem RdO.ext {w w' : World} {A : Option Addr} {n c : Nat} {l : List OpD} (h : RdO w A n c l) (hb : Below w.heap.size w w') : RdO w' A n c l :=
  ⟨h.len, h.cap, h.max, fun hn => by
    obtain ⟨b, o, e, hc⟩ := h.at_ hn
    exact ⟨b, o, e, fun j hj => (hc j hj).ext hb⟩⟩
end Go.Proofs.Ytggoaelbglhehaa
/- DevApart, its plain part: the states of the device; append that tells of the elder row. -/
set_option linter.unusedVariables false
set_option linter.unusedSimpArgs false
set_option maxRecDepth 100000
namespace Go.Proofs.Ytggoaelbglhehaa
open Go.RowKit
theorem i64_andm (j : Nat) (hj : j ≤ 20) (n : Int) : bits .and .i64 n ((2 ^ j - 1 : Nat) : Int) = n % ((2 ^ j : Nat) : Int) := by
  show IntKind.i64.wrap ((BitVec.ofInt 64 n &&& BitVec.ofInt 64 ((2 ^ j - 1 : Nat) : Int)).toNat : Nat) = _
  have hp : 2 ^ j ≤ 2 ^ 20 := Nat.pow_le_pow_right (by omega) hj
  have hp1 : 0 < 2 ^ j := Nat.pow_pos (by omega)
  have hd : (2 : Nat) ^ 64 = 2 ^ j * 2 ^ (64 - j) := by rw [← Nat.pow_add]; congr 1; omega
  have e : (BitVec.ofInt 64 ((2 ^ j - 1 : Nat) : Int)).toNat = 2 ^ j - 1 := by
    rw [BitVec.toNat_ofInt]; omega
  have h : (BitVec.ofInt 64 n &&& BitVec.ofInt 64 ((2 ^ j - 1 : Nat) : Int)).toNat = (n % ((2 ^ j : Nat) : Int)).toNat := by
    rw [BitVec.toNat_and, e, BitVec.toNat_ofInt, Nat.and_two_pow_sub_one_eq_mod]
    have h1 : ((n % ((2 ^ 64 : Nat) : Int)).toNat % 2 ^ j : Nat) = (n % ((2 ^ 64 : Nat) : Int) % ((2 ^ j : Nat) : Int)).toNat := by
      have h3 : 0 ≤ n % ((2 ^ 64 : Nat) : Int) := Int.emod_nonneg _ (by decide)
      obtain ⟨a, ha⟩ := Int.eq_ofNat_of_zero_le h3
      rw [ha]
      simp
      rfl
    rw [h1, Int.emod_emod_of_dvd]
    exact ⟨((2 ^ (64 - j) : Nat) : Int), by rw [hd]; simp⟩
  rw [h]
  have h4 : 0 ≤ n % ((2 ^ j : Nat) : Int) := Int.emod_nonneg _ (by omega)
  have h5 : n % ((2 ^ j : Nat) : Int) < ((2 ^ j : Nat) : Int) := Int.emod_lt_of_pos _ (by omega)
  rw [Int.toNat_of_nonneg h4]
  exact IntWalk.i64_in _ (by omega)
theorem i64_and63 (n : Int) : ∃ k : Nat, k < 64 ∧ bits .and .i64 n 63 = (k : Int) ∧ (k : Int) = n % 64 := by
  have h := i64_andm 6 (by omega) n
  refine ⟨(n % 64).toNat, by omega, ?_, by omega⟩
  have e : ((2 ^ 6 - 1 : Nat) : Int) = 63 := rfl
  rw [e] at h
  rw [h, show ((2 ^ 6 : Nat) : Int) = 64 from rfl]
  omega
theorem u8_plus (c : UInt8) (m : Nat) (hm : m < 256) : IntKind.u8.wrap ((c.toNat : Int) + (m : Int)) = ((c + UInt8.ofNat m).toNat : Int) := by
  have h1 : (c + UInt8.ofNat m).toNat = (c.toNat + m) % 256 := by
    rw [UInt8.toNat_add, UInt8.toNat_ofNat', Nat.mod_eq_of_lt (show m < 2 ^ 8 by omega)]
  rw [h1]
  show (IntKind.u8).wrap _ = _
  simp only [IntKind.wrap, IntKind.signed, IntKind.bits]
  simp
/-! ### the device's states -/
def apF (c : UInt8) : List UInt8 := List.replicate 512 c
theorem apF_len (c : UInt8) : (apF c).length = 512 := List.length_replicate
def apD1 (c : UInt8) (k : Nat) : DS := ⟨64, liveM, [⟨k, apF c⟩], 0, false, false, 0, 2, 1⟩
def apM2 (c : UInt8) (k2 : Nat) : List UInt8 := splice liveM (k2 * 512 + 510) [c, c]
def apD2 (c : UInt8) (k k2 rd : Nat) : DS := ⟨64, apM2 c k2, [⟨k, apF c⟩], 0, false, false, rd, 2, 1⟩
def apM5 (c : UInt8) (k k2 : Nat) : List UInt8 := splice (apM2 c k2) (k * 512) (apF c)
def apD5 (c : UInt8) (k k2 rd : Nat) : DS := ⟨64, apM5 c k k2, [], 0, false, false, rd, 2, 2⟩
theorem splice_len {α : Type} (M X : List α) (off : Nat) (h : off + X.length ≤ M.length) : (splice M off X).length = M.length := by
  simp [splice]; omega
theorem splice_get {α : Type} (M X : List α) (off i : Nat) (h : off + X.length ≤ M.length) : (splice M off X)[i]? = if off ≤ i ∧ i < off + X.length then X[i - off]? else M[i]? := by
  unfold splice
  by_cases h1 : i < off
  · rw [if_neg (by omega), List.getElem?_append_left (by simp; omega), List.getElem?_take, if_pos h1]
  · rw [List.getElem?_append_right (by simp; omega), List.length_take, Nat.min_eq_left (by omega)]
    by_cases h2 : i < off + X.length
    · rw [if_pos (by omega), List.getElem?_append_left (by omega)]
    · rw [if_neg (by omega), List.getElem?_append_right (by omega), List.getElem?_drop]
      congr 1; omega
theorem liveM_len : liveM.length = 64 * 512 := by
  unfold liveM
  rw [splice_len _ _ _ (by rw [fiveL_len, zM_len]; decide), zM_len]
theorem apM2_len (c : UInt8) (k2 : Nat) (h : k2 < 64) : (apM2 c k2).length = 64 * 512 := by
  unfold apM2
  rw [splice_len _ _ _ (by rw [liveM_len]; simp; omega), liveM_len]
theorem apM5_len (c : UInt8) (k k2 : Nat) (hk : k < 64) (h : k2 < 64) : (apM5 c k k2).length = 64 * 512 := by
  unfold apM5
  rw [splice_len _ _ _ (by rw [apM2_len c k2 h, apF_len]; omega), apM2_len c k2 h]
theorem ap_wr (c : UInt8) (k : Nat) (hk : k < 64) : wrD liveD k (apF c) = (0, apD1 c k) := by
  unfold wrD
  rw [if_neg (by show ¬ ¬ ((0 : Int) ≤ (k : Int) ∧ (k : Int) < ((64 : Nat) : Int)); omega), if_neg (fun h => h (apF_len c))]
  rfl
theorem ap_ed (c : UInt8) (k k2 : Nat) (h2 : k2 < 64) : edD (apD1 c k) k2 510 [c, c] = (0, apD2 c k k2 0) := by
  unfold edD
  rw [if_neg (by show ¬ ¬ ((0 : Int) ≤ (k2 : Int) ∧ (k2 : Int) < ((64 : Nat) : Int)); omega), if_neg (by show ¬ ((510 : Int) < 0 ∨ (512 : Int) < 510 ∨ (512 : Int) - 510 < ((2 : Nat) : Int)); omega)]
  rfl
theorem ap_rd (c : UInt8) (k k2 rd : Nat) : rdB (apD2 c k k2 rd) k = apF c := by
  show rdC [⟨k, apF c⟩] k _ = _
  rw [rdC, rdC, if_pos rfl]
theorem ap_fl (c : UInt8) (k k2 rd : Nat) : flD (apD2 c k k2 rd) = (0, apD5 c k k2 rd) := by
  have h : (apF c).take 512 = apF c := List.take_of_length_le (by rw [apF_len]; exact Nat.le_refl _)
  have h2 : layA (fun _ => 512) 0 [⟨k, apF c⟩] (apM2 c k2) = apM5 c k k2 := by
    show splice (apM2 c k2) (k * 512) ((apF c).take 512) = _
    rw [h]; rfl
  unfold flD
  rw [show actD (apD2 c k k2 rd) = (true, apD2 c k k2 rd) from rfl, if_pos rfl]
  show (0, (⟨64, layA (fun _ => 512) 0 [⟨k, apF c⟩] (apM2 c k2), [], 0, false, false, rd, 2, 2⟩ : DS)) = _
  rw [h2]; rfl
theorem blkM_get (M : List UInt8) (k i : Nat) (hi : i < 512) : (blkM M k)[i]? = M[k * 512 + i]? := by
  unfold blkM
  rw [List.getElem?_take, if_pos hi, List.getElem?_drop]
theorem blkM_len (M : List UInt8) (k : Nat) (h : k * 512 + 512 ≤ M.length) : (blkM M k).length = 512 := by
  unfold blkM; rw [List.length_take, List.length_drop]; omega
theorem ap_raw (c : UInt8) (k k2 : Nat) (hk : k < 64) (h2 : k2 < 64) : blkM (apM5 c k k2) k = apF c := by
  apply List.ext_getElem?
  intro i
  by_cases hi : i < 512
  · rw [blkM_get _ _ _ hi, apM5, splice_get _ _ _ _ (by rw [apM2_len c k2 h2, apF_len]; omega), if_pos (by rw [apF_len]; omega)]
    congr 1; omega
  · rw [List.getElem?_eq_none (by rw [blkM_len _ _ (by rw [apM5_len c k k2 hk h2]; omega)]; omega), List.getElem?_eq_none (by rw [apF_len]; omega)]
theorem ap_rd5 (c : UInt8) (k k2 rd : Nat) (hk : k < 64) (h2 : k2 < 64) : rdB (apD5 c k k2 rd) k = apF c := ap_raw c k k2 hk h2
theorem ap_z (c : UInt8) (k k2 i : Nat) (hk : k < 64) (h2 : k2 < 64) (hne : k ≠ k2) (hi : i = 510 ∨ i = 511) : (blkM (apM5 c k k2) k2).getD i 0 = c := by
  rw [List.getD_eq_getElem?_getD, blkM_get _ _ _ (by omega), apM5, splice_get _ _ _ _ (by rw [apM2_len c k2 h2, apF_len]; omega), if_neg (by rw [apF_len]; omega), apM2,
    splice_get _ _ _ _ (by rw [liveM_len]; simp; omega), if_pos (by simp; omega)]
  rcases hi with rfl | rfl
  · rw [show k2 * 512 + 510 - (k2 * 512 + 510) = 0 by omega]; rfl
  · rw [show k2 * 512 + 511 - (k2 * 512 + 510) = 1 by omega]; rfl
/-! ### append of ints that tells of the elder row -/
theorem Kp.back {w : World} {S : List Nat} {x : Nat × Obj} {R : List (Nat × Obj)} (h : Kp w S (x :: R)) : Kp w S (R ++ [x]) := by
  have hp : (R ++ [x]).Perm (x :: R) := List.perm_append_comm
  exact ⟨fun p hp' => h.all p (hp.mem_iff.1 hp'), fun p hp' => h.out p (hp.mem_iff.1 hp'), (hp.map Prod.fst).nodup_iff.2 h.nd⟩
theorem Kp.mem {w : World} {S : List Nat} {R : List (Nat × Obj)} (h : Kp w S R) {k : Nat} {o : Obj} (hm : (k, o) ∈ R) : w.heap[k]? = some o := h.all _ hm
theorem Kp.grown {w w' : World} {S : List Nat} {R : List (Nat × Obj)} (h : Kp w S R) (i : Nat) {k : Nat} {o o' : Obj} (hi : R[i]? = some (k, o)) (hg : w.grownBy w' (some k)) (ho : w'.heap[k]? = some o') : Kp w' S (R.set i (k, o')) :=
  h.upd i hi ⟨hg.os, hg.tape, hg.output, hg.size, fun j hj hn => hg.block j hj (fun e => hn (by injection e with e; simp [e]))⟩ ho
section
variable {ops : Array Oper} {rest : List Oper} {o : Oper} {a : Act} {Q : Exit → Act → World → Prop}
end
section
variable {w0 w w' : World} {b g : Nat} {vc : Value} {D : DS} {R : List (Nat × Obj)}
theorem St.cons (h : St w0 w b g vc D R) {k : Nat} {o : Obj} (hne : ∀ p ∈ R, p.1 ≠ k) (hS : k ∉ dvS b g vc) (hge : w0.heap.size ≤ k) (ho : w.heap[k]? = some o) : St w0 w b g vc D ((k, o) :: R) := by
  refine ⟨h.dv, ⟨fun p hp => ?_, fun p hp => ?_, ?_⟩, h.bl, h.sl, fun p hp => ?_⟩
  · rcases List.mem_cons.1 hp with rfl | hp
    · exact ho
    · exact h.kp.all p hp
  · rcases List.mem_cons.1 hp with rfl | hp
    · exact hS
    · exact h.kp.out p hp
  · rw [List.map_cons, List.nodup_cons]
    refine ⟨fun hm => ?_, h.kp.nd⟩
    obtain ⟨p, hp, he⟩ := List.mem_map.1 hm
    exact hne p hp he
  · rcases List.mem_cons.1 hp with rfl | hp
    · exact hge
    · exact h.rl p hp
theorem St.growH {R0 : List (Nat × Obj)} {k kh : Nat} {o oh op : Obj} (h : St w0 w b g vc D (R0 ++ [(k, o)])) (hO : Only [k] w w') (hop : w'.heap[k]? = some op) (hoh : w'.heap[kh]? = some oh) (hc : (kh = k ∧ oh = op) ∨ w.heap.size ≤ kh) :
    ∃ Rh, St w0 w' b g vc D (R0 ++ Rh) ∧ (kh, oh) ∈ Rh ∧ (k, op) ∈ Rh := by
  have h1 := h.upd R0.length (by rw [List.getElem?_append_right (Nat.le_refl _), Nat.sub_self]; rfl) hO hop
  rw [List.set_append_right _ _ (Nat.le_refl _), Nat.sub_self, List.set_cons_zero] at h1
  rcases hc with ⟨rfl, rfl⟩ | hc
  · exact ⟨_, h1, by simp, by simp⟩
  · have h2 := (h1.cons (k := kh) (fun p hp e => by
      rcases List.mem_append.1 hp with hp | hp
      · have h3 := lt_of_block (h.kp.all p (List.mem_append_left _ hp)); omega
      · rw [List.mem_singleton.1 hp] at e
        have h3 := lt_of_block (h.kp.all (k, o) (by simp))
        have h4 : k = kh := e
        have h5 : k < w.heap.size := h3
        omega) (fun hm => by have := h.dv.lt kh hm; omega) (Nat.le_trans h.bl.size hc) hoh).back
    rw [List.append_assoc] at h2
    exact ⟨_, h2, by simp, by simp⟩
variable {c : UInt8} {k k2 rd : Nat}
theorem ap_Read2 (hrd : rd < 100) (hk : k < 64) (h : St w0 w b g vc (apD2 c k k2 rd) R) :
    Calls Try.prog 49 #[.pointer (some ⟨b, 0, none⟩), .int .i64 k] w fun e w' => ∃ j o, e = .returned (.tuple #[.slice (some ⟨j, 0, none⟩) 512 512, .int .i64 0]) ∧ RowB o 512 512 (apF c) ∧ St w0 w' b g vc (apD2 c k k2 (rd + 1)) ((j, o) :: R) := by
  have h1 := st_Read k h hk rfl (by show rd < 9223372036854775807; omega) (by show 1 ≤ 100000000000; omega)
  rw [ap_rd] at h1
  exact h1
theorem ap_Flush2 (h : St w0 w b g vc (apD2 c k k2 rd) R) :
    Calls Try.prog 52 #[.pointer (some ⟨b, 0, none⟩)] w fun e w' => e = .returned (.int .i64 0) ∧ ∃ vc', St w0 w' b g vc' (apD5 c k k2 rd) R := by
  have h1 := st_Flush h (by show 0 < 9223372036854775808; omega) (by show 1 ≤ 100000000000; omega) (by show 1 < 9223372036854775807; omega)
  rw [ap_fl] at h1
  exact h1
theorem ap_Medium5 (h : St w0 w b g vc (apD5 c k k2 rd) R) :
    Calls Try.prog 34 #[.pointer (some ⟨b, 0, none⟩)] w fun e w' => ∃ j q o, e = .returned (.slice (some ⟨j, 0, none⟩) 32768 q) ∧ RowB o 32768 q (apM5 c k k2) ∧ St w0 w' b g vc (apD5 c k k2 rd) ((j, o) :: R) := st_Medium h
theorem ap_Read5 (hrd : rd < 100) (hk : k < 64) (h2 : k2 < 64) (h : St w0 w b g vc (apD5 c k k2 rd) R) :
    Calls Try.prog 49 #[.pointer (some ⟨b, 0, none⟩), .int .i64 k] w fun e w' => ∃ j o, e = .returned (.tuple #[.slice (some ⟨j, 0, none⟩) 512 512, .int .i64 0]) ∧ RowB o 512 512 (apF c) ∧ St w0 w' b g vc (apD5 c k k2 (rd + 1)) ((j, o) :: R) := by
  have h1 := st_Read k h hk rfl (by show rd < 9223372036854775807; omega) (by show 0 ≤ 100000000000; omega)
  rw [ap_rd5 c k k2 rd hk h2] at h1
  exact h1
/-- append(a, y): a's row keeps its bytes -/
theorem St.appK {W W' : World} {i q n : Nat} {o : Obj} {l l2 : List UInt8} {m : Nat} {v1 : Value} (h : St w0 W b g vc D R) (hi : R[i]? = some (q, o)) (hO1 : Own W' 0 v1 m l2) (hm : 0 < m) (hO : Own W' 0 (.slice (some ⟨q, 0, none⟩) n k) n l) (hn : 0 < n) (hG : W.grownBy W' (some q)) :
    ∃ A c1 o', v1 = .slice A m c1 ∧ RowB o' n k l ∧ St w0 W' b g vc D (R.set i (q, o')) := by
  obtain ⟨q', c', o', e, _, ho, hr⟩ := hO.row_of hn
  injection e with e1 e2 e3
  injection e1 with e1
  injection e1 with e1
  subst e1 e3
  obtain ⟨g1, c1, rfl, _⟩ := hO1.form hm
  exact ⟨_, c1, o', rfl, hr, h.grown i hi hG ho⟩
end
theorem fillO_step (M : List UInt8) (j : Nat) (x : UInt8) (h : j < M.length) : (List.replicate j x ++ M.drop j).set j x = List.replicate (j + 1) x ++ M.drop (j + 1) := by
  rw [List.set_append_right _ _ (by simp), List.length_replicate, Nat.sub_self, List.drop_eq_getElem_cons h, List.set_cons_zero, List.replicate_succ', List.append_assoc]
  rfl
theorem fillO_end (M : List UInt8) (x : UInt8) (n : Nat) (h : M.length = n) : List.replicate n x ++ M.drop n = List.replicate n x := by
  rw [List.drop_eq_nil_of_le (by omega), List.append_nil]
theorem rep_getD (n i : Nat) (x : UInt8) (h : i < n) : (List.replicate n x).getD i 0 = x := by
  rw [List.getD_eq_getElem?_getD, List.getElem?_replicate, if_pos h]; rfl
end Go.Proofs.Ytggoaelbglhehaa
/- The laws' own helpers over the device: block; append of fates. -/
set_option linter.unusedVariables false
set_option linter.unusedSimpArgs false
set_option maxRecDepth 100000
namespace Go.Proofs.Ytggoaelbglhehaa
open Go.RowKit
def opC (x : OpD) (vB vF : Value) : Array Value := #[.bool x.two, .int .i64 x.kind, .int .i64 x.blk, .int .i64 x.num, .int .i64 x.len, .int .u8 (x.fill.toNat : Int), vB, vF]
def opN (x : OpD) : Nat := (x.len % 1024).toNat
def blkL (N : Nat) (f : UInt8) : List UInt8 := if 100 < N then (((List.replicate N f).set 0 (f + 1)).set 100 (f + 2)).set (N - 1) (f + 3) else List.replicate N f
theorem blkL_len (N : Nat) (f : UInt8) : (blkL N f).length = N := by
  unfold blkL
  split <;> simp
theorem Own.cellAt {W : World} {base n g cap : Nat} {l : List UInt8} (h : Own W base (.slice (some ⟨g, 0, none⟩) n cap) n l) (j : Nat) (hj : j < n) : ∃ y, W.cell? ⟨g, j, none⟩ = some (.int .u8 y) := ⟨_, h.cell j hj⟩
theorem u8_mod (c : UInt8) (m : Nat) (hm : m < 256) : ((c.toNat : Int) + (m : Int)) % 256 = ((c + UInt8.ofNat m).toNat : Int) := by
  rw [UInt8.toNat_add, UInt8.toNat_ofNat', Nat.mod_eq_of_lt (show m < 2 ^ 8 by omega)]
  omega
end Go.Proofs.Ytggoaelbglhehaa
/- The laws' own helpers over the device: append of fates, play. -/
set_option linter.unusedVariables false
set_option linter.unusedSimpArgs false
set_option maxRecDepth 100000
namespace Go.Proofs.Ytggoaelbglhehaa
open Go.RowKit
theorem info_ft : (Try.prog.info? 99).map (fun i => (i.zero, i.size, i.bytes)) = some (some (.agg #[.int .i64 0, .int .i64 0]), 2, 16) := by kernel_rfl
def fv (l : List Ft) : List Value := l.flatMap fun f => [.int .i64 f.kind, .int .i64 f.at_]
theorem fv_len : ∀ l : List Ft, (fv l).length = l.length * 2
  | [] => rfl
  | f :: r => by
    have h := fv_len r
    unfold fv at h ⊢
    rw [List.flatMap_cons, List.length_append, h, List.length_cons]
    simp only [List.length_cons, List.length_nil]; omega
theorem fv_get : ∀ (l : List Ft) (i : Nat), i < l.length → (fv l)[i * 2]? = some (.int .i64 (l.getD i default).kind) ∧ (fv l)[i * 2 + 1]? = some (.int .i64 (l.getD i default).at_)
  | [], i, h => by simp at h
  | f :: r, 0, _ => ⟨rfl, rfl⟩
  | f :: r, i + 1, h => by
    have ih := fv_get r i (by simpa using h)
    unfold fv at ih ⊢
    rw [List.flatMap_cons, show (i + 1) * 2 = i * 2 + 1 + 1 by omega]
    simpa using ih
theorem run_appF {W : World} (ty : TypeId) {A : Option Addr} {n c : Nat} {l : List Ft} (HR : RdF W A n c l) (hn : n ≤ 8796093022207) :
    ∃ A' c' w1, (Builtin.append_ #[53, 53] ty #[.slice none 0 0, .slice A n c]).run Try.prog W = .ok (.slice A' n c') w1 ∧ RdF w1 A' n c' l ∧ Below W.heap.size W w1 ∧ (∀ p, A' = some p → W.heap.size ≤ p.block) := by
  obtain ⟨i0, hi, hzz⟩ := Option.map_eq_some_iff.1 info_ft
  simp only [Prod.mk.injEq] at hzz
  obtain ⟨hz0, hz1, hz2⟩ := hzz
  have ht := Try.underlying53
  rcases Nat.eq_zero_or_pos n with rfl | hp
  · obtain rfl : l = [] := List.eq_nil_of_length_eq_zero HR.len
    refine ⟨none, 0, W, ?_, RdF.nil W, Below.refl _ W, by simp⟩
    cases A <;> simp [Builtin.append_, run_underlying ht, sizeOf, typeInfo, hi, Builtin.lenOf, Builtin.firstCells, loadCells, loadCellsFrom]
  · obtain ⟨b, o, rfl, hc⟩ := HR.at_ hp
    have hl := HR.len
    have hr := run_append_nil (P := Try.prog) W 53 ty 99 i0 _ ht hi hz0 ⟨b, o, none⟩ n c (fv l) (by rw [fv_len, hl, hz1]) (fun j v hj => by
      have hj2 : j < l.length * 2 := by
        rcases Nat.lt_or_ge j (l.length * 2) with h | h
        · exact h
        · rw [List.getElem?_eq_none (by rw [fv_len]; exact h)] at hj; cases hj
      have hg := fv_get l (j / 2) (by omega)
      have hcc := hc (j / 2) (by omega)
      rw [Addr.add_mid]
      rcases (by omega : j = j / 2 * 2 ∨ j = j / 2 * 2 + 1) with e | e
      · rw [e] at hj ⊢
        rw [hg.1] at hj; rw [← hj]; exact hcc.1
      · rw [e] at hj ⊢
        rw [hg.2] at hj; rw [← hj, ← Nat.add_assoc]; exact hcc.2) hp (by omega) (by rw [hz2]; omega)
    refine ⟨_, _, _, hr, ⟨hl, grownCap_ge _ _ _ _, by omega, fun _ => ⟨_, _, rfl, fun j hj => ?_⟩⟩, ((Below.refl _ W).drew).alloc (Nat.le_refl _) _, fun p hp => by injection hp with hp; rw [← hp]; exact Nat.le_refl _⟩
    have hg := fv_get l j (by omega)
    have hfl := fv_len l
    have hnew := heap_alloc_new W.drew (.cells ((fv l).toArray ++ Builtin.zeroCells (Value.agg #[Value.int IntKind.i64 0, Value.int IntKind.i64 0]).cells (grownCap W n 0 99 - n)) 99)
    have key : ∀ i v, (fv l)[i]? = some v → (W.drew.alloc (.cells ((fv l).toArray ++ Builtin.zeroCells (Value.agg #[Value.int IntKind.i64 0, Value.int IntKind.i64 0]).cells (grownCap W n 0 99 - n)) 99)).cell? ⟨W.heap.size, i, none⟩ = some v := fun i v hv => by
      rw [cell_of_row _ _ _ _ _ _ (show (W.drew.alloc _).heap[W.heap.size]? = _ from hnew)]
      have hi : i < (fv l).length := (List.getElem?_eq_some_iff.1 hv).1
      rw [Array.getElem?_append_left (by simpa using hi)]
      simpa using hv
    rw [Nat.zero_add]
    exact ⟨key _ _ hg.1, key _ _ hg.2⟩
section
variable {ops : Array Oper} {rest : List Oper} {o : Oper} {a : Act} {Q : Exit → Act → World → Prop}
theorem wp_appF {W : World} {A : Option Addr} {n c : Nat} {l : List Ft} (HR : RdF W A n c l) (hn : n ≤ 8796093022207) (s x : Operand) (hgd : o.guard = none)
    (ho : o.op = .call { callee := .builtin .append, args := #[s, x], argTypes := #[53, 53] }) (hs : a.eval s = .slice none 0 0) (hx : a.eval x = .slice A n c)
    (h : ∀ A' c' w1, RdF w1 A' n c' l → Below W.heap.size W w1 → (∀ p, A' = some p → W.heap.size ≤ p.block) → wpList Try.prog ops Q rest (a.put o.dst (.slice A' n c')) w1) :
    wpList Try.prog ops Q (o :: rest) a W := by
  obtain ⟨A', c', w1, hr, h1, h2, h3⟩ := run_appF o.type HR hn
  refine wpList_plain hgd fun K hK => ?_
  unfold Oper.wp execOp
  simp only [ho, resolve, invoke, builtin, Sem.run_bind, Sem.run_pure, Result.andThen_ok, List.map_toArray, List.map_cons, List.map_nil, hs, hx, hr]
  exact hK _ _ (h A' c' w1 h1 h2 h3)
end
def plD (D : DS) (x : OpD) : Int × DS :=
  if x.kind = 3 then wrD D x.blk (blkL (opN x) x.fill) else if x.kind = 4 then flD D else if x.kind = 9 then edD D x.blk x.num x.B else if x.kind = 6 then armD D x.num else if x.kind = 8 then (0, crD D x.F) else (0, D)
/-- numbers that stay small -/
structure DS.le (D : DS) (m : Nat) : Prop where
  left : D.left < 9223372036854775808
  ca : D.C.length ≤ m
  wr : D.wr ≤ m
  fl : D.fl ≤ m
  rd : D.rd ≤ m
theorem plD_le {D : DS} {m : Nat} (x : OpD) (hx : x.ok) (h : D.le m) : (plD D x).2.le (m + 1) := by
  have ha : (actD D).2.left ≤ D.left ∧ (actD D).2.C = D.C ∧ (actD D).2.rd = D.rd ∧ (actD D).2.wr = D.wr ∧ (actD D).2.fl = D.fl := by
    have hk := actD_keeps D
    refine ⟨?_, hk.1, hk.2.2.2.1, hk.2.2.2.2.1, hk.2.2.2.2.2⟩
    unfold actD; split
    · exact Nat.le_refl _
    · split
      · exact Nat.le_refl _
      · split
        · exact Nat.sub_le _ _
        · exact Nat.le_refl _
  have h1 := h.left
  have h2 := h.ca
  have h3 := h.wr
  have h4 := h.fl
  have h5 := h.rd
  have hD : D.le (m + 1) := ⟨h1, by omega, by omega, by omega, by omega⟩
  have hA : (actD D).2.le (m + 1) := ⟨by omega, by rw [ha.2.1]; omega, by omega, by omega, by omega⟩
  unfold plD
  split
  · unfold wrD; split
    · exact hD
    · split
      · exact hD
      · split
        · exact ⟨by show (actD D).2.left < _; omega, by show ((actD D).2.C ++ _).length ≤ _; rw [ha.2.1, List.length_append]; simp; omega, by show (actD D).2.wr + 1 ≤ _; omega, hA.fl, hA.rd⟩
        · exact hA
  · split
    · unfold flD; split
      · exact ⟨by show (actD D).2.left < _; omega, Nat.zero_le _, hA.wr, by show (actD D).2.fl + 1 ≤ _; omega, hA.rd⟩
      · exact hA
    · split
      · unfold edD; split
        · exact hD
        · split
          · exact hD
          · exact ⟨hD.left, hD.ca, hD.wr, hD.fl, hD.rd⟩
      · split
        · unfold armD; split
          · exact hD
          · split
            · exact hD
            · have := hx.2.2.1.2
              exact ⟨by show x.num.toNat < _; omega, hD.ca, hD.wr, hD.fl, hD.rd⟩
        · split
          · exact ⟨by show 0 < _; omega, Nat.zero_le _, hD.wr, hD.fl, hD.rd⟩
          · exact hD
end Go.Proofs.Ytggoaelbglhehaa
/- The laws' own helpers over the device: play. -/
set_option linter.unusedVariables false
set_option linter.unusedSimpArgs false
set_option maxRecDepth 100000
namespace Go.Proofs.Ytggoaelbglhehaa
open Go.RowKit
end Go.Proofs.Ytggoaelbglhehaa
/- The device's Counts. -/
set_option linter.unusedVariables false
set_option linter.unusedSimpArgs false
set_option maxRecDepth 100000
namespace Go.Proofs.Ytggoaelbglhehaa
open Go.RowKit
theorem sz_cnt : (Try.prog.info? 63).map (·.size) = some 3 := by kernel_rfl
def cntV (D : DS) : Value := .agg #[.int .i64 D.rd, .int .i64 D.wr, .int .i64 D.fl]
theorem dv_Counts (w : World) (b g : Nat) (vc : Value) (D : DS) (h : IsV w b g vc D) :
    Calls Try.prog 32 #[.pointer (some ⟨b, 0, none⟩)] w fun e w' => e = .returned (cntV D) ∧ Below w.heap.size w w' := by
  have hb : b < w.heap.size := lt_of_block h.dev.st
  have c5 : w.cell? ⟨b, 5, none⟩ = some (.int .i64 (D.rd : Int)) := h.dev.cell 5
  have c6 : w.cell? ⟨b, 6, none⟩ = some (.int .i64 (D.wr : Int)) := h.dev.cell 6
  have c7 : w.cell? ⟨b, 7, none⟩ = some (.int .i64 (D.fl : Int)) := h.dev.cell 7
  clear h
  go_enter Try.func32, Try.ntmps32
  go_wp2
  (try simp only [Exit.inBlock, Exit.then])
  exact bodyPost_ret (results_cell_row rfl _ _ w.heap.size 63 _ (0, 0) _ rfl (heap_alloc_new w _) Try.underlying63 rfl sz_cnt) rfl ⟨rfl, (Below.refl _ w).alloc (Nat.le_refl _) _⟩
/-- a refused step changes neither medium nor cache nor counts -/
theorem plD_refused (D : DS) (x : OpD) (h : (plD D x).1 ≠ 0) : (plD D x).2.M = D.M ∧ (plD D x).2.C = D.C ∧ (plD D x).2.rd = D.rd ∧ (plD D x).2.wr = D.wr ∧ (plD D x).2.fl = D.fl := by
  have hk := actD_keeps D
  have hA : (actD D).2.M = D.M ∧ (actD D).2.C = D.C ∧ (actD D).2.rd = D.rd ∧ (actD D).2.wr = D.wr ∧ (actD D).2.fl = D.fl := ⟨hk.2.1, hk.1, hk.2.2.2.1, hk.2.2.2.2.1, hk.2.2.2.2.2⟩
  revert h
  unfold plD
  split
  · unfold wrD; split
    · exact fun _ => ⟨rfl, rfl, rfl, rfl, rfl⟩
    · split
      · exact fun _ => ⟨rfl, rfl, rfl, rfl, rfl⟩
      · split
        · exact fun h => absurd rfl h
        · exact fun _ => hA
  · split
    · unfold flD; split
      · exact fun h => absurd rfl h
      · exact fun _ => hA
    · split
      · unfold edD; split
        · exact fun _ => ⟨rfl, rfl, rfl, rfl, rfl⟩
        · split
          · exact fun _ => ⟨rfl, rfl, rfl, rfl, rfl⟩
          · exact fun h => absurd rfl h
      · split
        · unfold armD; split
          · exact fun _ => ⟨rfl, rfl, rfl, rfl, rfl⟩
          · split
            · exact fun _ => ⟨rfl, rfl, rfl, rfl, rfl⟩
            · exact fun h => absurd rfl h
        · split
          · exact fun h => absurd rfl h
          · exact fun _ => ⟨rfl, rfl, rfl, rfl, rfl⟩
theorem actD_n (D : DS) : (actD D).2.n = D.n := (actD_keeps D).2.2.1
theorem plD_n (D : DS) (x : OpD) : (plD D x).2.n = D.n := by
  unfold plD
  split
  · unfold wrD; split
    · rfl
    · split
      · rfl
      · split
        · exact actD_n D
        · exact actD_n D
  · split
    · unfold flD; split
      · exact actD_n D
      · exact actD_n D
    · split
      · unfold edD; split
        · rfl
        · split <;> rfl
      · split
        · unfold armD; split
          · rfl
          · split <;> rfl
        · split <;> rfl
theorem liveD_le : liveD.le 1 := ⟨by decide, by decide, by decide, by decide, by decide⟩
theorem DS.le.mono {D : DS} {m m' : Nat} (h : D.le m) (hm : m ≤ m') : D.le m' := ⟨h.left, Nat.le_trans h.ca hm, Nat.le_trans h.wr hm, Nat.le_trans h.fl hm, Nat.le_trans h.rd hm⟩
end Go.Proofs.Ytggoaelbglhehaa
/- What layings do to a block: the plain part of DevStays, DevLeaves. -/
set_option linter.unusedVariables false
set_option linter.unusedSimpArgs false
set_option maxRecDepth 100000
namespace Go.Proofs.Ytggoaelbglhehaa
open Go.RowKit
theorem blkM_splice_out (M X : List UInt8) (off k : Nat) (h : off + X.length ≤ M.length) (ho : off + X.length ≤ k * 512 ∨ k * 512 + 512 ≤ off) : blkM (splice M off X) k = blkM M k := by
  apply List.ext_getElem?
  intro i
  by_cases hi : i < 512
  · rw [blkM_get _ _ _ hi, blkM_get _ _ _ hi, splice_get _ _ _ _ h, if_neg (by omega)]
  · have h1 : ∀ M : List UInt8, (blkM M k)[i]? = none := fun M => List.getElem?_eq_none (by unfold blkM; rw [List.length_take]; omega)
    rw [h1, h1]
theorem layP_other {M : List UInt8} {x : Pd} {m N k : Nat} (hM : M.length = N * 512) (h1 : x.num < N) (h2 : x.data.length = 512) (hne : x.num ≠ k) : blkM (layP M x m) k = blkM M k := by
  have h3 : (x.data.take m).length ≤ 512 := by rw [List.length_take]; omega
  refine blkM_splice_out M (x.data.take m) (x.num * 512) k (by omega) ?_
  rcases (by omega : x.num < k ∨ k < x.num) with h | h
  · left; omega
  · right; omega
theorem layP_same {M : List UInt8} {x : Pd} {m N : Nat} (hM : M.length = N * 512) (h1 : x.num < N) (h2 : x.data.length = 512) : blkM (layP M x m) x.num = x.data.take m ++ (blkM M x.num).drop m := by
  have h3 : (x.data.take m).length = min m 512 := by rw [List.length_take, h2]
  have hb : ∀ M : List UInt8, M.length = N * 512 → (blkM M x.num).length = 512 := fun M h => blkM_len M x.num (by rw [h]; have : (x.num + 1) * 512 ≤ N * 512 := Nat.mul_le_mul_right _ h1; omega)
  apply List.ext_getElem?
  intro i
  by_cases hi : i < 512
  · rw [blkM_get _ _ _ hi, layP, splice_get _ _ _ _ (by omega)]
    by_cases him : i < m
    · rw [if_pos (by omega), List.getElem?_append_left (by omega)]
      congr 1; omega
    · rw [if_neg (by omega), List.getElem?_append_right (by omega), List.getElem?_drop, h3, blkM_get _ _ _ (by omega)]
      congr 1; omega
  · rw [List.getElem?_eq_none (by rw [hb _ (layP_len hM h1 h2)]; omega), List.getElem?_eq_none (by rw [List.length_append, List.length_drop, hb M hM]; omega)]
theorem layA_len {f : Nat → Nat} {N : Nat} : ∀ (i : Nat) (C : List Pd) (M : List UInt8), PdOk N C → M.length = N * 512 → (layA f i C M).length = N * 512
  | i, [], M, _, h => h
  | i, x :: r, M, hc, h => by
    rw [layA]
    exact layA_len (i + 1) r _ (fun y hy => hc y (by simp [hy])) (layP_len h (hc x (by simp)).1 (hc x (by simp)).2)
theorem layA_other {f : Nat → Nat} {N k : Nat} : ∀ (i : Nat) (C : List Pd) (M : List UInt8), PdOk N C → M.length = N * 512 → (∀ x ∈ C, x.num ≠ k) → blkM (layA f i C M) k = blkM M k
  | i, [], M, _, _, _ => rfl
  | i, x :: r, M, hc, h, hne => by
    have hx := hc x (by simp)
    rw [layA, layA_other (i + 1) r _ (fun y hy => hc y (by simp [hy])) (layP_len h hx.1 hx.2) (fun y hy => hne y (by simp [hy])), layP_other h hx.1 hx.2 (hne x (by simp))]
theorem layA_full {N k : Nat} : ∀ (i : Nat) (C : List Pd) (M : List UInt8), PdOk N C → M.length = N * 512 → blkM (layA (fun _ => 512) i C M) k = rdC C k (blkM M k)
  | i, [], M, _, _ => rfl
  | i, x :: r, M, hc, h => by
    have hx := hc x (by simp)
    rw [layA, layA_full (i + 1) r _ (fun y hy => hc y (by simp [hy])) (layP_len h hx.1 hx.2), rdC]
    by_cases he : x.num = k
    · subst he
      rw [if_pos rfl, layP_same h hx.1 hx.2, List.take_of_length_le (by omega), List.drop_eq_nil_of_le (by unfold blkM; rw [List.length_take]; omega), List.append_nil]
    · rw [if_neg he, layP_other h hx.1 hx.2 he]
/-- a step that neither writes nor edits block k -/
def offK (x : OpD) (k : Nat) : Prop := ¬ ((x.kind = 3 ∨ x.kind = 9) ∧ x.blk = (k : Int))
theorem plD_keep {D : DS} {k : Nat} (x : OpD) (hM : D.M.length = D.n * 512) (hC : PdOk D.n D.C) (hk : k < D.n) (hne : ∀ y ∈ D.C, y.num ≠ k) (hs : offK x k) : (∀ y ∈ (plD D x).2.C, y.num ≠ k) ∧ blkM (plD D x).2.M k = blkM D.M k := by
  have ha := actD_keeps D
  have hA : (∀ y ∈ (actD D).2.C, y.num ≠ k) ∧ blkM (actD D).2.M k = blkM D.M k := by rw [ha.1, ha.2.1]; exact ⟨hne, rfl⟩
  unfold plD
  split
  · rename_i h3
    unfold wrD; split
    · exact ⟨hne, rfl⟩
    · split
      · exact ⟨hne, rfl⟩
      · split
        · refine ⟨fun y hy => ?_, hA.2⟩
          rcases List.mem_append.1 hy with hy | hy
          · exact hA.1 y hy
          · rw [List.mem_singleton.1 hy]
            intro e
            have e2 : x.blk.toNat = k := e
            exact hs ⟨.inl h3, by omega⟩
        · exact hA
  · split
    · unfold flD; split
      · refine ⟨by simp, ?_⟩
        show blkM (layA (fun _ => 512) 0 (actD D).2.C (actD D).2.M) k = _
        rw [ha.1, ha.2.1]
        exact layA_other 0 D.C D.M hC hM hne
      · exact hA
    · split
      · rename_i h9
        unfold edD; split
        · exact ⟨hne, rfl⟩
        · split
          · exact ⟨hne, rfl⟩
          · rename_i h1 h2
            refine ⟨hne, ?_⟩
            have h10 : x.blk ≠ (k : Int) := fun e => hs ⟨.inr h9, e⟩
            have h11 : 0 ≤ x.blk ∧ x.blk < (D.n : Int) := by omega
            have h12 : (x.blk.toNat + 1) * 512 ≤ D.n * 512 := Nat.mul_le_mul_right _ (by omega)
            have h13 : x.num.toNat + x.B.length ≤ 512 := by omega
            refine blkM_splice_out D.M x.B _ k (by omega) ?_
            rcases (by omega : x.blk.toNat < k ∨ k < x.blk.toNat) with h | h
            · left; omega
            · right; omega
      · split
        · unfold armD; split
          · exact ⟨hne, rfl⟩
          · split <;> exact ⟨hne, rfl⟩
        · split
          · refine ⟨by simp [crD], ?_⟩
            exact layA_other 0 D.C D.M hC hM hne
          · exact ⟨hne, rfl⟩
theorem fl_stays {D : DS} {k : Nat} (hM : D.M.length = D.n * 512) (hC : PdOk D.n D.C) (hf : (flD D).1 = 0) : (∀ y ∈ (flD D).2.C, y.num ≠ k) ∧ blkM (flD D).2.M k = rdB D k := by
  have ha := actD_keeps D
  revert hf
  unfold flD; split
  · intro _
    refine ⟨by simp, ?_⟩
    show blkM (layA (fun _ => 512) 0 (actD D).2.C (actD D).2.M) k = _
    rw [ha.1, ha.2.1]
    exact layA_full 0 D.C D.M hC hM
  · intro h; exact absurd h (by show ¬ ((6 : Int) = 0); decide)
theorem fl_down (D : DS) (hf : (flD D).1 ≠ 0) : (flD D).2.down = true := by
  revert hf
  unfold flD; split
  · intro h; exact absurd rfl h
  · rename_i h
    intro _
    revert h
    unfold actD; split
    · intro _; rfl
    · split
      · intro _; assumption
      · split <;> (intro h; exact absurd rfl h)
theorem flD_le {D : DS} {m : Nat} (h : D.le m) : (flD D).2.le (m + 1) := plD_le (D := D) ⟨false, 4, 0, 0, 0, 0, [], []⟩ ⟨by unfold i64B; simp, by unfold i64B; simp, by unfold i64B; simp, by unfold i64B; simp, by simp, by simp⟩ h
theorem flD_n (D : DS) : (flD D).2.n = D.n := plD_n D ⟨false, 4, 0, 0, 0, 0, [], []⟩
theorem crD_le {D : DS} {m : Nat} (l : List Ft) (h : D.le m) : (crD D l).le m := ⟨by show 0 < _; omega, Nat.zero_le _, h.wr, h.fl, h.rd⟩
end Go.Proofs.Ytggoaelbglhehaa
