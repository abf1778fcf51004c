/- The device's Read, through the cache. -/
import Derived.Test.YtjbffahmjhbpjaaDv8
set_option linter.unusedVariables false
set_option linter.unusedSimpArgs false
set_option maxRecDepth 100000
namespace Go.Proofs.Ytjbffahmjhbpjaa
open Go.RowKit
/-- a block's bytes with the writes of a list over them -/
def rdC : List Pd → Nat → List UInt8 → List UInt8
  | [], _, d => d
  | x :: r, k, d => rdC r k (if x.num = k then x.data else d)
theorem rdC_snoc (k : Nat) (x : Pd) : ∀ (l : List Pd) (d : List UInt8), rdC (l ++ [x]) k d = if x.num = k then x.data else rdC l k d
  | [], d => rfl
  | y :: r, d => by rw [List.cons_append, rdC, rdC_snoc k x r, rdC]
theorem rdC_len {n : Nat} (k : Nat) : ∀ (l : List Pd) (d : List UInt8), PdOk n l → d.length = 512 → (rdC l k d).length = 512
  | [], d, _, h => h
  | y :: r, d, ho, h => by
    rw [rdC]
    refine rdC_len k r _ (fun x hx => ho x (by simp [hx])) ?_
    split
    · exact (ho y (by simp)).2
    · exact h
theorem takeP_snoc (l : List Pd) (k : Nat) (h : k < l.length) : l.take (k + 1) = l.take k ++ [l.getD k default] := by
  rw [List.take_succ_eq_append_getElem h, List.getD_eq_getElem?_getD, List.getElem?_eq_getElem h]; rfl
theorem OwnP.form {w : World} {base n q : Nat} {v : Value} {C : List Pd} (h : OwnP w base n v q C) (hp : 0 < q) : ∃ g c, v = .slice (some ⟨g, 0, none⟩) q c := by
  rcases h.2.2 with ⟨_, h0⟩ | ⟨g, cap, cur, rfl, _⟩
  · omega
  · exact ⟨g, cap, rfl⟩
theorem OwnP.len {w : World} {base n q : Nat} {v : Value} {C : List Pd} (h : OwnP w base n v q C) : C.length = q := by
  have h1 := h.2.1
  rw [pcs_length h.1] at h1; omega
theorem OwnP.at_ {w : World} {base n q g c : Nat} {C : List Pd} (h : OwnP w base n (.slice (some ⟨g, 0, none⟩) q c) q C) (j : Nat) (hj : j < q) :
    w.cell? ⟨g, j * 513, none⟩ = some (.int .i64 (((C.getD j default).num : Nat) : Int)) ∧ w.rangeAt g (j * 513 + 1) (bv (C.getD j default).data) := by
  have hl := h.len
  have key : ∀ i u, i < 513 → (pc (C.getD j default))[i]? = some u → w.cell? ⟨g, j * 513 + i, none⟩ = some u := fun i u hi hu => by
    have := World.ownsRow.cells h.2 (g := g) rfl (j * 513 + i) u (by rw [pcs_get C j i h.1 (by omega) hi, hu])
    rwa [Addr.add_mid, Nat.zero_add] at this
  have hd := (h.1.get j (by omega)).2
  refine ⟨key 0 _ (by omega) rfl, fun i u hu => ?_⟩
  have hi : i < 512 := by
    rcases Nat.lt_or_ge i 512 with h | h
    · exact h
    · rw [List.getElem?_eq_none (by rw [bv_length, hd]; exact h)] at hu; cases hu
  rw [Nat.add_assoc, Nat.add_comm 1 i]
  exact key (i + 1) u (by omega) (by simpa [pc] using hu)
def rdB (D : DS) (k : Nat) : List UInt8 := rdC D.C k (blkM D.M k)
theorem dv_Read (w : World) (b g : Nat) (vc : Value) (D : DS) (k : Nat) (h : IsV w b g vc D) (hk : k < D.n) (hd : D.down = false) (hrd : D.rd < 9223372036854775807) (hq : D.C.length ≤ 100000000000) :
    Calls Try.prog 19 #[.pointer (some ⟨b, 0, none⟩), .int .i64 k] w fun e w' => ∃ u, e = .returned (.tuple #[u, .int .i64 0]) ∧ (∃ j, u = .slice (some ⟨j, 0, none⟩) 512 512) ∧ Own w' w.heap.size u 512 (rdB D k) ∧ IsV w' b g vc { D with rd := D.rd + 1 } ∧ Fr (dvS b g vc) (dvS b g vc) w w' := by
  have HH := Lib.hid (dv_has w b g vc D k h)
  rw [decide_eq_true (show 0 ≤ (k : Int) ∧ (k : Int) < (D.n : Int) by omega)] at HH
  have c4 : w.cell? ⟨b, 4, none⟩ = some (.bool D.down) := h.dev.cell 4
  rw [hd] at c4
  have c5 : w.cell? ⟨b, 5, none⟩ = some (.int .i64 (D.rd : Int)) := h.dev.cell 5
  have f5 := frozen_of_row w b 5 _ _ h.dev.st
  have hw5 : (0 : Int) ≤ (D.rd : Int) ∧ (D.rd : Int) < 9223372036854775807 := by omega
  have HS := Lib.hid (h.store 5 (.int .i64 ((D.rd : Int) + 1)) { D with rd := D.rd + 1 } rfl rfl rfl (by simp))
  obtain ⟨W, hW⟩ : ∃ W, W = w.setCell ⟨b, 5, none⟩ (.int .i64 ((D.rd : Int) + 1)) := ⟨_, rfl⟩
  rw [← hW] at HS
  have hcw : W.cell? ⟨b, 1, none⟩ = some vc := HS.out.1.dev.cell 1
  clear h hd
  go_enter Try.func19, Try.ntmps19
  go_wp2_with fail
  refine HH.out.mono ?_
  rintro e w1 ⟨rfl, rfl⟩
  rw [hW] at hcw
  obtain ⟨Ac, cc, rfl⟩ := HS.out.1.ca.slice
  go_wp2_with fail
  rw [← hW]
  rw [← hW] at hcw
  have hmd := HS.out.1.med k hk
  have hlc := HS.out.1.ca.len
  have c0 := HS.out.1.dev.c0
  have hsm := HS.out.1.dev.small
  have HF := Lib.hid HS.out.2
  have HV := Lib.hid HS.out.1
  have HCP := Lib.hid (dv_copied W g (k * 512) (blkM D.M k) hmd.2 hmd.1)
  have hkk : (0 : Int) ≤ (k : Int) ∧ (k : Int) < (D.n : Int) := by omega
  have hzw : w1.heap.size ≤ W.heap.size := HF.out.only.size
  have HFin := Lib.hid (fun (u : Value) (R : List UInt8) (w2 : World) (hN : NewB W u R w2) => (show (∃ j, u = .slice (some ⟨j, 0, none⟩) 512 512) ∧ Own w2 w1.heap.size u 512 R ∧ IsV w2 b g (.slice Ac D.C.length cc) { D with rd := D.rd + 1 } ∧ Fr (dvS b g (.slice Ac D.C.length cc)) (dvS b g (.slice Ac D.C.length cc)) w1 w2 from by
    obtain ⟨j, e1, e2, e3⟩ := hN
    exact ⟨⟨j, e1⟩, e2.mono hzw, HV.out.ext e3, HF.out.trans (Fr.below _ e3)⟩))
  have HQ := Lib.hid hq
  clear c4 c5 f5 hW HH HS hmd hlc
  go_loop [6] (fun x => ∃ m : Nat, m ≤ D.C.length ∧ x = .int .i64 ((m : Int) - 1) ∧ rdB D k = rdC (D.C.take m) k (blkM D.M k)) (fun x => (intOf x + 1).toNat)
  case atStart => exact ⟨D.C.length, Nat.le_refl _, rfl, by rw [List.take_length]; rfl⟩
  case round =>
    obtain ⟨m, hm, rfl, hE⟩ := hrel
    have HE := Lib.hid hE
    clear hE
    rcases Nat.eq_zero_or_pos m with rfl | hp
    · go_wp2_with fail
      refine HCP.out.mono ?_
      rintro e w2 ⟨u, rfl, hN⟩
      have HN := Lib.hid (HFin.out u _ w2 hN)
      obtain ⟨j, rfl, _, _⟩ := hN
      go_wp2
      go_ret2
      refine ⟨_, rfl, HN.out.1, ?_, HN.out.2.2⟩
      rw [HE.out]
      exact HN.out.2.1
    · obtain ⟨j, rfl⟩ : ∃ j, m = j + 1 := ⟨m - 1, by omega⟩
      have hx : ((j + 1 : Nat) : Int) - 1 = (j : Int) := by omega
      rw [hx]
      obtain ⟨gc, cc2, hvc⟩ := HV.out.ca.form (by show 0 < D.C.length; omega)
      injection hvc with hv1 hv2 hv3
      subst hv1 hv3
      have hat := HV.out.ca.at_ j (by show j < D.C.length; omega)
      have hpd := HV.out.ca.1.get j (by show j < D.C.length; omega)
      have HCJ := Lib.hid (dv_copied W gc (j * 513 + 1) _ hpd.2 hat.2)
      have hn1 := hat.1
      have hts := takeP_snoc D.C j (by omega)
      obtain ⟨x, hxx⟩ : ∃ x, x = D.C.getD j default := ⟨_, rfl⟩
      have hn2 : W.cell? ⟨gc, j * 513, none⟩ = some (.int .i64 ((x.num : Nat) : Int)) := by rw [hxx]; exact hn1
      rw [← hxx] at hts
      have HST := Lib.hid (show rdB D k = if x.num = k then x.data else rdC (D.C.take j) k (blkM D.M k) by rw [HE.out, hts, rdC_snoc])
      have HXX := Lib.hid hxx
      have hjj : (0 : Int) ≤ (j : Int) ∧ (j : Int) < ((D.C.length : Nat) : Int) ∧ ((D.C.length : Nat) : Int) ≤ 100000000000 := by omega
      clear hat hpd hn1 hts hxx hx hp
      by_cases hnk : x.num = k
      · have e1 : (((x.num : Nat) : Int) == (k : Int)) = true := by simp [hnk]
        have HR := Lib.hid (show rdB D k = (D.C.getD j default).data by rw [HST.out, if_pos hnk, HXX.out])
        clear hnk
        go_wp2_with fail
        refine HCJ.out.mono ?_
        rintro e w2 ⟨u, rfl, hN⟩
        have HN := Lib.hid (HFin.out u _ w2 hN)
        obtain ⟨j2, rfl, _, _⟩ := hN
        go_wp2
        go_ret2
        refine ⟨_, rfl, HN.out.1, ?_, HN.out.2.2⟩
        rw [HR.out]
        exact HN.out.2.1
      · have e1 : (((x.num : Nat) : Int) == (k : Int)) = false := by simp; omega
        have HR := Lib.hid (show rdB D k = rdC (D.C.take j) k (blkM D.M k) by rw [HST.out, if_neg hnk])
        clear hnk
        go_wp2
        go_round
        case rel => exact ⟨j, by omega, rfl, HR.out⟩
        case measure => simp [intOf]
end Go.Proofs.Ytjbffahmjhbpjaa
