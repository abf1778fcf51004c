/- The device's Crash: fates, and what each write leaves. -/
import Derived.Test.YtjbffahmjhbpjaaKd
import Derived.Deep.RegionHeld3
set_option linter.unusedVariables false
set_option linter.unusedSimpArgs false
set_option maxRecDepth 100000
namespace Go.Proofs.Ytjbffahmjhbpjaa
open Go.RowKit
structure Ft where
  kind : Int
  at_ : Int
instance : Inhabited Ft := ⟨⟨0, 0⟩⟩
/-- The cells of a slice of fates hold the list l. -/
structure RdF (w : World) (A : Option Addr) (n c : Nat) (l : List Ft) : Prop where
  len : l.length = n
  cap : n ≤ c
  max : n ≤ 140737488355328
  at_ : 0 < n → ∃ b o, A = some ⟨b, o, none⟩ ∧ ∀ j, j < n → w.cell? ⟨b, o + j * 2, none⟩ = some (.int .i64 (l.getD j default).kind) ∧ w.cell? ⟨b, o + j * 2 + 1, none⟩ = some (.int .i64 (l.getD j default).at_)
theorem RdF.nil (w : World) : RdF w none 0 0 [] := ⟨rfl, Nat.le_refl _, by omega, fun hp => absurd hp (by omega)⟩
theorem RdF.only {S : List Nat} {w w' : World} {A : Option Addr} {n c : Nat} {l : List Ft} (h : RdF w A n c l) (hw : Only S w w') (hx : 0 < n → ∀ p, A = some p → p.block ∉ S) : RdF w' A n c l :=
  ⟨h.len, h.cap, h.max, fun hn => by
    obtain ⟨b, o, e, hc⟩ := h.at_ hn
    have hb := hx hn _ e
    refine ⟨b, o, e, fun j hj => ?_⟩
    have h1 := hc j hj
    have hlt := World.block_lt_of_cell? w _ h1.1
    have h2 := hw.blk b hlt hb
    exact ⟨(World.cell?_of_block (w := w) (a := ⟨b, o + j * 2, none⟩) h2).trans h1.1, (World.cell?_of_block (w := w) (a := ⟨b, o + j * 2 + 1, none⟩) h2).trans h1.2⟩⟩
theorem RdF.ext {w w' : World} {A : Option Addr} {n c : Nat} {l : List Ft} (h : RdF w A n c l) (hb : Below w.heap.size w w') : RdF w' A n c l := h.only (Only.of_below [] hb) (by simp)
def ftN (f : Ft) : Nat := if f.kind = 1 then 512 else if f.kind = 2 then (min (max f.at_ 0) 512).toNat else 0
def ftS (f : Ft) : Bool := decide (f.kind = 1 ∨ f.kind = 2)
def crN (l : List Ft) (i : Nat) : Nat := if i < l.length then ftN (l.getD i default) else 0
def crS (l : List Ft) (i : Nat) : Bool := if i < l.length then ftS (l.getD i default) else false
def crT (l : List Ft) : Nat → Nat
  | 0 => 0
  | n + 1 => crT l n + (if crS l n then 1 else 0)
theorem crN_le (l : List Ft) (i : Nat) : crN l i ≤ 512 := by
  unfold crN ftN
  split
  · split
    · omega
    · split <;> omega
  · omega
theorem crT_le (l : List Ft) : ∀ n, crT l n ≤ n
  | 0 => Nat.le_refl _
  | n + 1 => by
    have := crT_le l n
    rw [crT]; split <;> omega
theorem dv_crash1 (w : World) (q : Nat) (A : Option Addr) (n c : Nat) (l : List Ft) (i : Nat) (hi : i ≤ 100000000000) (hq : w.cell? ⟨q, 0, none⟩ = some (.slice A n c)) (hr : RdF w A n c l) :
    Calls Try.prog 40 #[.int .i64 i, .pointer (some ⟨q, 0, none⟩)] w fun e w' => e = .returned (.tuple #[.int .i64 (crN l i : Nat), .bool (crS l i)]) ∧ Below w.heap.size w w' := by
  have hlen := hr.len
  have hmx := hr.max
  by_cases h : i < n
  · obtain ⟨bb, oo, rfl, hc⟩ := hr.at_ (by omega)
    obtain ⟨h1, h2⟩ := hc i h
    obtain ⟨f, hf⟩ : ∃ f, f = l.getD i default := ⟨_, rfl⟩
    have HCN := Lib.hid (show crN l i = ftN f by rw [crN, if_pos (by omega), hf])
    have HCS := Lib.hid (show crS l i = ftS f by rw [crS, if_pos (by omega), hf])
    rw [← hf] at h1 h2
    rw [HCN.out, HCS.out]
    have hii : (0 : Int) ≤ (i : Int) ∧ (i : Int) < (n : Int) := by omega
    obtain ⟨kd, at_⟩ := f
    have hb := World.block_lt_of_cell? w _ h1
    clear hc hr hlen hf
    by_cases hk1 : kd = 1
    · subst hk1
      go_enter Try.func40, Try.ntmps40
      go_wp2
      go_ret2
      exact ⟨rfl, by first | exact ((Below.refl _ w).alloc (Nat.le_refl _) _) | exact (((Below.refl _ w).alloc (Nat.le_refl _) _).setCell (by simp) _).setCell (by simp) _⟩
    · by_cases hk2 : kd = 2
      · subst hk2
        rw [show ftS ⟨2, at_⟩ = true by rw [ftS, decide_eq_true]; simp]
        have HN := Lib.hid (show ftN ⟨2, at_⟩ = (min (max at_ 0) 512).toNat by rw [ftN, if_neg (by show ¬ ((2 : Int) = 1); decide), if_pos rfl])
        rcases (by omega : at_ < 0 ∨ (0 ≤ at_ ∧ at_ ≤ 512) ∨ 512 < at_) with h3 | ⟨h3, h4⟩ | h3
        · rw [show ((ftN ⟨2, at_⟩ : Nat) : Int) = 0 by rw [HN.out]; omega]
          go_enter Try.func40, Try.ntmps40
          go_wp2
          go_ret2
          exact ⟨rfl, by first | exact ((Below.refl _ w).alloc (Nat.le_refl _) _) | exact (((Below.refl _ w).alloc (Nat.le_refl _) _).setCell (by simp) _).setCell (by simp) _⟩
        · rw [show ((ftN ⟨2, at_⟩ : Nat) : Int) = at_ by rw [HN.out]; omega]
          go_enter Try.func40, Try.ntmps40
          go_wp2
          go_ret2
          exact ⟨rfl, by first | exact ((Below.refl _ w).alloc (Nat.le_refl _) _) | exact (((Below.refl _ w).alloc (Nat.le_refl _) _).setCell (by simp) _).setCell (by simp) _⟩
        · rw [show ((ftN ⟨2, at_⟩ : Nat) : Int) = 512 by rw [HN.out]; omega]
          go_enter Try.func40, Try.ntmps40
          go_wp2
          go_ret2
          exact ⟨rfl, by first | exact ((Below.refl _ w).alloc (Nat.le_refl _) _) | exact (((Below.refl _ w).alloc (Nat.le_refl _) _).setCell (by simp) _).setCell (by simp) _⟩
      · have e1 : (kd == 1) = false := by simp [hk1]
        have e2 : (kd == 2) = false := by simp [hk2]
        have HF := Lib.hid (show ftN ⟨kd, at_⟩ = 0 by rw [ftN, if_neg hk1, if_neg hk2])
        have HG := Lib.hid (show ftS ⟨kd, at_⟩ = false by rw [ftS, decide_eq_false]; simp [hk1, hk2])
        rw [HF.out, HG.out]
        clear hk1 hk2
        go_enter Try.func40, Try.ntmps40
        go_wp2
        go_ret2
        exact ⟨rfl, by first | exact ((Below.refl _ w).alloc (Nat.le_refl _) _) | exact (((Below.refl _ w).alloc (Nat.le_refl _) _).setCell (by simp) _).setCell (by simp) _⟩
  · rw [crN, crS, if_neg (by omega), if_neg (by omega)]
    clear hr hlen
    go_enter Try.func40, Try.ntmps40
    go_wp2
    go_ret2
    exact ⟨rfl, Below.refl _ _⟩
theorem splice_lenS {α : Type} (M X : List α) (off : Nat) (h : off + X.length ≤ M.length) : (splice M off X).length = M.length := by
  simp [splice]; omega
theorem dv_settleC (w : World) (b g : Nat) (vc : Value) (D : DS) (q n c : Nat) (A : Option Addr) (l : List Ft) (h : IsV w b g vc D) (hq : D.C.length ≤ 100000000000) (hcq : w.cell? ⟨q, 0, none⟩ = some (.slice A n c)) (hqS : q ∉ dvS b g vc) (hr : RdF w A n c l) (hx : 0 < n → ∀ p, A = some p → p.block ∉ dvS b g vc) :
    Calls Try.prog 37 #[.pointer (some ⟨b, 0, none⟩), .func (.func 40) #[] #[.pointer (some ⟨q, 0, none⟩)]] w fun e w' => e = .returned (.int .i64 (crT l D.C.length : Nat)) ∧
      IsV w' b g (.slice none 0 0) { D with C := [], M := layA (crN l) 0 D.C D.M } ∧ Fr (dvS b g vc) (dvS b g (.slice none 0 0)) w w' := by
  have c1 : w.cell? ⟨b, 1, none⟩ = some vc := h.dev.cell 1
  have HV := Lib.hid h
  obtain ⟨Ac, cc, rfl⟩ := h.ca.slice
  have hbg := h.dev.ne
  have HQ := Lib.hid (And.intro hcq (And.intro (show q ∉ [g] from fun hm => hqS (by simp at hm; simp [dvS, hm])) (And.intro hr (show 0 < n → ∀ p, A = some p → p.block ∉ [g] from fun h0 p hp hm => hx h0 p hp (by simp at hm; simp [dvS, hm])))))
  clear h hcq hqS hr hx
  go_enter Try.func37, Try.ntmps37
  go_wp2_with fail
  clear c1
  go_loopw [5, 6, 7, 8, 9, 15] (fun vt _ _ _ _ x wx => ∃ j : Nat, j ≤ D.C.length ∧ x = .int .i64 j ∧ vt = .int .i64 (crT l j : Nat) ∧ IsV wx b g (.slice Ac D.C.length cc) { D with M := layA (crN l) 0 (D.C.take j) D.M } ∧ Only [g] w wx) (fun _ _ _ _ _ x _ => D.C.length - (intOf x).toNat)
  case atStart => exact ⟨0, Nat.zero_le _, rfl, rfl, HV.out, Only.refl _ _⟩
  case round =>
    obtain ⟨j, hj, rfl, rfl, hI, hO⟩ := hrel
    have HI := Lib.hid hI
    have HO := Lib.hid hO
    have c1 : wr.cell? ⟨b, 1, none⟩ = some (.slice Ac D.C.length cc) := hI.dev.cell 1
    have c0 := hI.dev.c0
    have hsm := hI.dev.small
    have hml := hI.dev.len
    by_cases hjn : j < D.C.length
    · obtain ⟨gc, cc2, hvc⟩ := hI.ca.form (by show 0 < D.C.length; omega)
      injection hvc with hv1 hv2 hv3
      subst hv1 hv3
      have hat := hI.ca.at_ j hjn
      have hpd := hI.ca.1.get j hjn
      obtain ⟨x, hxx⟩ : ∃ x, x = D.C.getD j default := ⟨_, rfl⟩
      have hn2 : wr.cell? ⟨gc, j * 513, none⟩ = some (.int .i64 ((x.num : Nat) : Int)) := by rw [hxx]; exact hat.1
      have hrg : wr.rangeAt gc (j * 513 + 1) (bv x.data) := by rw [hxx]; exact hat.2
      have hpd1 : x.num < D.n := by rw [hxx]; exact hpd.1
      have hpd2 : x.data.length = 512 := by rw [hxx]; exact hpd.2
      obtain ⟨M, hM⟩ : ∃ M, M = layA (crN l) 0 (D.C.take j) D.M := ⟨_, rfl⟩
      have HST := Lib.hid (show layA (crN l) 0 (D.C.take (j + 1)) D.M = splice M (x.num * 512) (x.data.take (crN l j)) by
        rw [takeP_snoc D.C j hjn, layA_snoc, ← hxx, ← hM]
        unfold layP
        rw [List.length_take, Nat.min_eq_left (by omega), Nat.zero_add])
      obtain ⟨N, hN⟩ : ∃ N, N = crN l j := ⟨_, rfl⟩
      have hN2 : N ≤ 512 := by rw [hN]; exact crN_le l j
      rw [← hN] at HST
      have hctj := crT_le l j
      have HCT := Lib.hid (show crT l (j + 1) = crT l j + (if crS l j then 1 else 0) from rfl)
      have HCR := Lib.hid (dv_crash1 wr q A n c l j (by omega) ((World.cell?_of_block (w := w) (a := ⟨q, 0, none⟩) (hO.blk q (World.block_lt_of_cell? w _ HQ.out.1) HQ.out.2.1)).trans HQ.out.1) (HQ.out.2.2.1.only hO HQ.out.2.2.2))
      rw [← hN] at HCR
      have hml2 : M.length = D.n * 512 := by rw [hM]; exact hml
      rw [← hM] at HI
      have HMD := Lib.hid HI.out.dev.med
      have hjj : (0 : Int) ≤ (j : Int) ∧ (j : Int) < ((D.C.length : Nat) : Int) ∧ ((D.C.length : Nat) : Int) ≤ 100000000000 := by omega
      have hxn : (0 : Int) ≤ (x.num : Int) ∧ (x.num : Int) < (D.n : Int) := by omega
      have hgne : gc ≠ g := (HI.out.nb gc rfl).2
      have hbne : b ≠ g := HI.out.dev.ne
      have HXX := Lib.hid hxx
      clear hI hO hat hpd hxx hM hml hN
      go_wp2_with fail
      refine HCR.out.mono ?_
      rintro e w2 ⟨rfl, hB2⟩
      have HIw := Lib.hid (HI.out.ext hB2)
      have HOw := Lib.hid (HO.out.trans (Only.of_below [g] hB2))
      have c0 := HIw.out.dev.c0
      have hn2 : w2.cell? ⟨gc, j * 513, none⟩ = some (.int .i64 ((x.num : Nat) : Int)) := cell_ext hB2 hn2
      have HMD := Lib.hid HIw.out.dev.med
      have hrg : w2.rangeAt gc (j * 513 + 1) (bv x.data) := fun i v hv => cell_ext hB2 (hrg i v hv)
      clear hB2
      go_wp2_with fail
      have HSRC := Lib.hid (show ∀ k v, (bv (x.data.take N))[k]? = some v → w2.drew.cell? ((⟨gc, j * 513 + 1, none⟩ : Addr).add k) = some v from fun k v hv => by
        rw [Addr.add_mid]
        refine hrg k v ?_
        have hk9 : k < N := by
          rcases Nat.lt_or_ge k N with h | h
          · exact h
          · rw [List.getElem?_eq_none (by rw [bv_length, List.length_take]; omega)] at hv; cases hv
        rw [← hv, bv, bv, List.getElem?_map, List.getElem?_map, List.getElem?_take, if_pos hk9])
      have hN3 : (0 : Int) ≤ (N : Int) ∧ (N : Int) ≤ 512 := by omega
      have HMD2 := Lib.hid (show w2.drew.heap[g]? = some (.cells (bv M).toArray 78 (0, 0)) from HMD.out)
      clear hrg
      go_region_held3 (fun w' => w'.cell? ⟨b, 0, none⟩ = some (.slice (some ⟨g, 0, none⟩) D.n D.n) ∧ w'.cell? ⟨gc, j * 513, none⟩ = some (.int .i64 ((x.num : Nat) : Int)) ∧ Only [g] w2 w')
        (first | exact ⟨f0, f1, fO⟩ | exact ⟨c0, hn2, (Only.refl _ _).drew⟩)
        (first | (refine step_copy_only rfl (.tmp 39) (.tmp 44) 29 29 rfl 5 Try.underlying29 sz_u8 g (x.num * 512) 512 512 ⟨gc, j * 513 + 1, none⟩ N 512 rfl rfl (bv M) 78 HMD2.out (bv (x.data.take N)) ?q3 HSRC.out ?q5 (bv_one _) ?_
                  (case q3 => (rw [bv_length, List.length_take, hpd2, Nat.min_eq_left hN2]; exact (Nat.min_eq_left hN2).symm))
                  (case q5 => (rw [bv_length, bv_length, hml2, List.length_take]; omega))
                  intro w3 hg3 ho3
                  rw [splice_bv] at hg3
                  have fO : Only [g] w2 w3 := ((Only.refl [g] w2).drew).trans ho3
                  have HP := Lib.hid (HIw.out.setMed fO hg3 (by rw [splice_lenS _ _ _ (by rw [hml2, List.length_take]; omega)]))
                  have f0 := HP.out.1.dev.c0
                  have f1 := (HP.out.1.ca.at_ j hjn).1
                  rw [← HXX.out] at f1
                  clear ho3 hg3))
      rename_i hHeld
      clear hHeld
      cases hcs : crS l j with
      | true =>
        have HC2 := Lib.hid (show ((crT l (j + 1) : Nat) : Int) = (crT l j : Int) + 1 by rw [HCT.out, hcs]; simp)
        clear hcs HCT
        go_wp2
        go_roundw
        case rel => exact ⟨j + 1, by omega, by go_num, by rw [HC2.out]; try go_num, by rw [HST.out]; exact HP.out.1, HOw.out.trans fO⟩
        case measure => simp [intOf]; omega
      | false =>
        have HC2 := Lib.hid (show ((crT l (j + 1) : Nat) : Int) = (crT l j : Int) by rw [HCT.out, hcs]; simp)
        clear hcs HCT
        go_wp2
        go_roundw
        case rel => exact ⟨j + 1, by omega, by go_num, by rw [HC2.out], by rw [HST.out]; exact HP.out.1, HOw.out.trans fO⟩
        case measure => simp [intOf]; omega
    · obtain rfl : D.C.length = j := by omega
      have HT := Lib.hid (show layA (crN l) 0 (D.C.take D.C.length) D.M = layA (crN l) 0 D.C D.M by rw [List.take_length])
      have f1 := frozen_of_row wr b 1 _ _ hI.dev.st
      rw [HT.out] at hI
      have HD := Lib.hid hI.noCache
      clear hI HI
      go_wp2
      go_ret
      exact ⟨by simp, HD.out.1, (Fr.of_med hbg HO.out).trans HD.out.2⟩
def crD (D : DS) (l : List Ft) : DS := { D with C := [], M := layA (crN l) 0 D.C D.M, down := false, armed := false, left := 0 }
theorem dv_Crash (w : World) (b g : Nat) (vc : Value) (D : DS) (n c : Nat) (A : Option Addr) (l : List Ft) (h : IsV w b g vc D) (hq : D.C.length ≤ 100000000000) (hr : RdF w A n c l) (hx : 0 < n → ∀ p, A = some p → p.block ∉ dvS b g vc) :
    Calls Try.prog 25 #[.pointer (some ⟨b, 0, none⟩), .slice A n c] w fun e w' => e = .returned (.int .i64 (crT l D.C.length : Nat)) ∧ IsV w' b g (.slice none 0 0) (crD D l) ∧ Fr (dvS b g vc) (dvS b g (.slice none 0 0)) w w' := by
  have hB : Below w.heap.size w (w.alloc (.cells #[.slice A n c] 45)) := (Below.refl _ w).alloc (Nat.le_refl _) _
  have HB := Lib.hid hB
  have HS := Lib.hid (dv_settleC (w.alloc (.cells #[.slice A n c] 45)) b g vc D w.heap.size n c A l (h.ext hB) hq (by rw [cell_of_row _ _ _ _ _ _ (heap_alloc_new w _)]; rfl) (fun hm => by have := h.lt _ hm; omega) (hr.ext hB) hx)
  clear h hq hr hx hB
  go_enter Try.func25, Try.ntmps25
  go_wp2_with fail
  refine HS.out.mono ?_
  rintro e w1 ⟨rfl, hV, hF⟩
  have c2 : w1.cell? ⟨b, 2, none⟩ = some (.int .i64 (D.left : Int)) := hV.dev.cell 2
  have c3 : w1.cell? ⟨b, 3, none⟩ = some (.bool D.armed) := hV.dev.cell 3
  have c4 : w1.cell? ⟨b, 4, none⟩ = some (.bool D.down) := hV.dev.cell 4
  have f2 := frozen_of_row w1 b 2 _ _ hV.dev.st
  have f3 := frozen_of_row w1 b 3 _ _ hV.dev.st
  have f4 := frozen_of_row w1 b 4 _ _ hV.dev.st
  have S1 := hV.store 4 (.bool false) { D with C := [], M := layA (crN l) 0 D.C D.M, down := false } rfl rfl rfl rfl
  have S2 := S1.1.store 3 (.bool false) { D with C := [], M := layA (crN l) 0 D.C D.M, down := false, armed := false } rfl rfl rfl rfl
  have S3 := S2.1.store 2 (.int .i64 0) (crD D l) rfl rfl rfl rfl
  have HE := Lib.hid (And.intro S3.1 (((Fr.below _ HB.out).trans hF).trans ((S1.2.trans S2.2).trans S3.2)))
  clear hV hF S1 S2 S3 HS
  go_wp2
  go_ret
  exact ⟨rfl, HE.out.1, HE.out.2⟩
end Go.Proofs.Ytjbffahmjhbpjaa
