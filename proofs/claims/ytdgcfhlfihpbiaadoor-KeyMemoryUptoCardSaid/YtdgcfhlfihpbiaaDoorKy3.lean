/- Walks: Split, the reference's Make and Split. -/
import Derived.Test.YtdgcfhlfihpbiaaDoorKy2
set_option linter.unusedVariables false
set_option linter.unusedSimpArgs false
set_option maxRecDepth 100000
namespace Go.Proofs.YtdgcfhlfihpbiaaDoor
open Go.RowKit
theorem drop_consB (L : List UInt8) (k : Nat) (h : k < L.length) : L.drop k = L.getD k 0 :: L.drop (k + 1) := by
  rw [List.drop_eq_getElem_cons h, List.getD_eq_getElem?_getD, List.getElem?_eq_getElem h]; rfl
theorem bget (s : ByteArray) (k : Nat) (h : k < s.size) : s[k] = s.data.toList.getD k 0 := by
  have h' : k < s.data.toList.length := by rw [str_len]; exact h
  rw [List.getD_eq_getElem?_getD, List.getElem?_eq_getElem h']
  rfl
def SpPost (r : List ByteArray × Int) (w : World) (e : Ending) (w' : World) : Prop :=
  ∃ u, e = .returned (.tuple #[u, .int .i64 r.2]) ∧ OwnT w' w.heap.size u r.1.length r.1 ∧ Below w.heap.size w w'
/-- what Split holds at a byte -/
structure SI (w : World) (l : List UInt8) (i np nc : Nat) (P : List ByteArray) (C : List UInt8) (vp vc : Value) (wx : World) : Prop where
  op : OwnT wx w.heap.size vp np P
  oc : Own wx w.heap.size vc nc C
  ne : ∀ k, vp.ownBlock = some k → vc.ownBlock = some k → False
  below : Below w.heap.size w wx
  sum : 2 * np + nc ≤ i
theorem SI.app {w wx w1 : World} {l : List UInt8} {i j np nc : Nat} {P : List ByteArray} {C D : List UInt8} {vp vc v1 : Value} (h : SI w l i np nc P C vp vc wx) (o : Obj) {m : Nat}
    (h1 : Own w1 w.heap.size v1 (nc + m) D) (hg : (wx.alloc o).grownBy w1 vc.ownBlock) (ha : v1.ownBlock = vc.ownBlock ∨ Blk v1 (wx.alloc o).heap.size w1.heap.size) (hj : i + m ≤ j) : SI w l j np (nc + m) P D vp v1 w1 := by
  have hO : Only vc.ownBlock.toList wx w1 := ((Only.refl _ wx).alloc o).grown hg (fun k hk => .inl (by simp [hk]))
  refine ⟨h.op.keep hO (fun k hk hm => h.ne k hk (by simpa using hm)), h1, fun k h2 h3 => ?_, (h.below.alloc h.below.size o).grown hg (by have := h.below.size; simp; omega) (fun k hk => (h.oc.blk k hk).1), by have := h.sum; omega⟩
  rcases ha with ha | ha
  · rw [ha] at h3; exact h.ne k h2 h3
  · have := (ha k h3).1
    have := (h.op.blk k h2).2
    simp at *; omega
theorem SI.push {w wx w1 : World} {l : List UInt8} {i j np nc : Nat} {P Q : List ByteArray} {C : List UInt8} {vp vc v1 : Value} (h : SI w l i np nc P C vp vc wx) (o : Obj)
    (h1 : OwnT w1 w.heap.size v1 (np + 1) Q) (hg : (wx.alloc o).grownBy w1 vp.ownBlock) (hj : i + 2 ≤ j) : SI w l j (np + 1) 0 Q [] v1 (.slice none 0 0) w1 := by
  refine ⟨h1, Own.nil _ _, fun k _ h3 => by simp [Value.ownBlock] at h3, (h.below.alloc h.below.size o).grown hg (by have := h.below.size; simp; omega) (fun k hk => (h.op.blk k hk).1), by have := h.sum; omega⟩
set_option maxHeartbeats 2000000 in
theorem ky_Split (key : ByteArray) (w : World) (hk : key.size ≤ 1048576) :
    Calls Tryd.prog 14 #[.string key] w (SpPost (spA key.data.toList) w) := by
  have HL := Lib.hid (str_len key)
  have hg := fun k hk => bget key k hk
  have HG := Lib.hid hg
  obtain ⟨l, hl⟩ : ∃ l, l = key.data.toList := ⟨_, rfl⟩
  rw [← hl] at HL HG ⊢
  have HLE := Lib.hid hl
  clear hg hl
  go_enter Tryd.func14, Tryd.ntmps14
  go_wp2_with fail
  go_loopw [4, 5, 6] (fun vp vc x wx => ∃ (i np nc : Nat) (P : List ByteArray) (C : List UInt8), i ≤ key.size ∧ x = .int .i64 i ∧ sp l [] [] = sp (l.drop i) C P ∧ SI w l i np nc P C vp vc wx) (fun _ _ x _ => key.size + 1 - (intOf x).toNat)
  case atStart => exact ⟨0, 0, 0, [], [], by omega, rfl, by simp, OwnT.nil _ _, Own.nil _ _, fun k h => by simp [Value.ownBlock] at h, Below.refl _ _, by omega⟩
  case round =>
    obtain ⟨i, np, nc, P, C, hi, rfl, hE, hI⟩ := hrel
    have HI := Lib.hid hI
    have HE := Lib.hid hE
    have hsum := hI.sum
    clear hI hE
    by_cases hin : i < key.size
    · obtain ⟨x, hx⟩ : ∃ x, x = key[i] := ⟨_, rfl⟩
      have hxl : x = l.getD i 0 := by rw [hx]; exact HG.out i hin
      have hd := drop_consB l i (by rw [HL.out]; exact hin)
      rw [← hxl] at hd
      have HE1 := HE.out
      rw [hd] at HE1
      have HX := Lib.hid hx
      by_cases h0 : x = 0
      · have hx0 : key[i] = 0 := by rw [← hx]; exact h0
        have hx1 : ((key[i].toNat : Int) != 0) = false := by rw [hx0]; rfl
        rw [h0] at HE1
        clear hx hd hxl h0 HX
        by_cases hi2 : i + 1 < key.size
        · obtain ⟨y, hy⟩ : ∃ y, y = key[i + 1] := ⟨_, rfl⟩
          have hyl : y = l.getD (i + 1) 0 := by rw [hy]; exact HG.out (i + 1) hi2
          have hd2 := drop_consB l (i + 1) (by rw [HL.out]; exact hi2)
          rw [← hyl] at hd2
          rw [hd2] at HE1
          have hwi : (i : Int) + 1 < (key.size : Int) := by omega
          have hwt : ((i : Int) + 1).toNat = i + 1 := by omega
          by_cases h255 : y = 255
          · have hy1 : ((key[i + 1].toNat : Int) == 255) = true := by rw [← hy, h255]; rfl
            rw [h255, sp_255] at HE1
            have HE2 := Lib.hid HE1
            clear HE1 hy hyl hd2 h255
            go_wp2_with (at_builtin; refine wp_appB w.heap.size (HI.out.oc.alloc _) (Rd.lit wr [0] 1 rfl (by omega)) (by have := HI.out.below.size; simp; omega) (by omega) _ _ rfl rfl rfl rfl ?_; intro v1 w1 hO1 hG1 hA1; have HI1 := Lib.hid (HI.out.app (j := i + 2) _ hO1 hG1 hA1 (by omega)); clear hO1 hG1 hA1)
            go_roundw
            case rel => exact ⟨i + 2, np, nc + 1, P, C ++ [0], by omega, by go_num, HE2.out, HI1.out⟩
            case measure => simp [intOf]; omega
          · have hy1 : ((key[i + 1].toNat : Int) == 255) = false := by
              rw [← hy]
              simp only [beq_eq_false_iff_ne, ne_eq]
              intro h; exact h255 (UInt8.toNat_inj.1 (by have : (255 : UInt8).toNat = 255 := rfl; omega))
            by_cases h1 : y = 1
            · have hy2 : ((key[i + 1].toNat : Int) == 1) = true := by rw [← hy, h1]; rfl
              rw [h1, sp_1] at HE1
              have HE2 := Lib.hid HE1
              clear HE1 hy hyl hd2 h255 h1
              obtain ⟨A5, c5, he5, hR5⟩ := HI.out.oc.rd (by omega)
              subst he5
              have hstr := hR5.str
              have HSTR := Lib.hid hstr
              go_wp2_with (at_builtin; refine wp_appT1 w.heap.size (bstr C) HI.out.op HI.out.below.size (by omega) _ _ rfl rfl rfl rfl ?_; intro v1 w1 hO1 hG1 hA1; have HI1 := Lib.hid (HI.out.push (j := i + 2) _ hO1 hG1 (by omega)); clear hO1 hG1 hA1)
              go_roundw
              case rel => exact ⟨i + 2, np + 1, 0, P ++ [bstr C], [], by omega, by go_num, HE2.out, HI1.out⟩
              case measure => simp [intOf]; omega
            · have hy2 : ((key[i + 1].toNat : Int) == 1) = false := by
                rw [← hy]
                simp only [beq_eq_false_iff_ne, ne_eq]
                intro h; exact h1 (UInt8.toNat_inj.1 (by have : (1 : UInt8).toNat = 1 := rfl; omega))
              rw [sp_bad h255 h1] at HE1
              clear hy hyl hd2 h255 h1
              have HRS := Lib.hid (show spA l = ([], 2) by unfold spA; rw [HE1]; rfl)
              clear HE1
              go_wp2
              go_ret2
              refine ⟨.slice none 0 0, ?_, ?_, HI.out.below⟩
              · rw [HRS.out]; rfl
              · rw [HRS.out]; exact OwnT.nil _ _
        · have hik : i + 1 = key.size := by omega
          have hwi : ¬ (i : Int) + 1 < (key.size : Int) := by omega
          have hdn : l.drop (i + 1) = [] := List.drop_eq_nil_of_le (by rw [HL.out]; omega)
          rw [hdn] at HE1
          rw [sp_end] at HE1
          have HRS := Lib.hid (show spA l = ([], 2) by unfold spA; rw [HE1]; rfl)
          clear HE1
          go_wp2
          go_ret2
          refine ⟨.slice none 0 0, ?_, ?_, HI.out.below⟩
          · rw [HRS.out]; rfl
          · rw [HRS.out]; exact OwnT.nil _ _
      · have hx1 : ((key[i].toNat : Int) != 0) = true := by
          rw [← hx]
          simp only [bne_iff_ne, ne_eq]
          intro h; exact h0 (UInt8.toNat_inj.1 (by simp; omega))
        rw [sp_ne h0] at HE1
        have HE2 := Lib.hid HE1
        clear HE1 hd hxl h0
        subst hx
        go_wp2_with (at_builtin; refine wp_appB w.heap.size (HI.out.oc.alloc _) (Rd.lit wr [key[i]] 1 rfl (by omega)) (by have := HI.out.below.size; simp; omega) (by omega) _ _ rfl rfl rfl rfl ?_; intro v1 w1 hO1 hG1 hA1; have HI1 := Lib.hid (HI.out.app (j := i + 1) _ hO1 hG1 hA1 (by omega)); clear hO1 hG1 hA1)
        go_roundw
        case rel => exact ⟨i + 1, np, nc + 1, P, C ++ [key[i]], by omega, by go_num, HE2.out, HI1.out⟩
        case measure => simp [intOf]; omega
    · obtain rfl : key.size = i := by omega
      have hdn : l.drop key.size = [] := List.drop_eq_nil_of_le (by rw [HL.out]; exact Nat.le_refl _)
      have HE1 := HE.out
      rw [hdn, sp] at HE1
      have hpl : P.length = np := HI.out.op.len
      have hcl : C.length = nc := HI.out.oc.len
      have hR : spA l = if 0 < nc ∨ np = 0 ∨ 8 < np ∨ 120 < key.size then ([], 2) else (P, 0) := by
        unfold spA; rw [HE1]; unfold spF; simp only; rw [hpl, hcl, HL.out]
      have HRS := Lib.hid hR
      obtain ⟨A5, c5, he5⟩ := HI.out.oc.slice
      subst he5
      obtain ⟨A4, c4, he4⟩ := HI.out.op.slice
      subst he4
      have HPL := Lib.hid hpl
      clear HE1 hdn hR hpl hcl
      by_cases hb : 0 < nc ∨ np = 0 ∨ 8 < np ∨ 120 < key.size
      · have HR2 := Lib.hid (show spA l = ([], 2) by rw [HRS.out, if_pos hb])
        have fin : ∀ P : Prop, P → SpPost (spA l) w (.returned (.tuple #[.slice none 0 0, .int .i64 2])) wr := fun _ _ => by
          rw [HR2.out]; exact ⟨_, rfl, OwnT.nil _ _, HI.out.below⟩
        have FIN := Lib.hid (fin True trivial)
        clear fin
        rcases (show 0 < nc ∨ (nc = 0 ∧ np = 0) ∨ (nc = 0 ∧ np ≠ 0 ∧ 8 < np) ∨ (nc = 0 ∧ np ≠ 0 ∧ ¬ 8 < np ∧ 120 < key.size) by omega) with h1 | ⟨h1, h2⟩ | ⟨h1, h2, h3⟩ | ⟨h1, h2, h3, h4⟩
        · have e1 : (0 : Int) < (nc : Int) := by omega
          have e2 : decide ((0 : Int) < (nc : Int)) = true := decide_eq_true e1
          clear hb h1
          go_wp2
          go_ret2
          exact FIN.out
        · have e1 : ¬ (0 : Int) < (nc : Int) := by omega
          have e2 : decide ((0 : Int) < (nc : Int)) = false := decide_eq_false e1
          have e3 : ((np : Int) == 0) = true := by simp; omega
          clear hb h1 h2
          go_wp2
          go_ret2
          exact FIN.out
        · have e1 : ¬ (0 : Int) < (nc : Int) := by omega
          have e2 : decide ((0 : Int) < (nc : Int)) = false := decide_eq_false e1
          have e3 : ((np : Int) == 0) = false := by simp; omega
          have e4 : (8 : Int) < (np : Int) := by omega
          have e5 : decide ((8 : Int) < (np : Int)) = true := decide_eq_true e4
          clear hb h1 h2 h3
          go_wp2
          go_ret2
          exact FIN.out
        · have e1 : ¬ (0 : Int) < (nc : Int) := by omega
          have e2 : decide ((0 : Int) < (nc : Int)) = false := decide_eq_false e1
          have e3 : ((np : Int) == 0) = false := by simp; omega
          have e4 : ¬ (8 : Int) < (np : Int) := by omega
          have e5 : decide ((8 : Int) < (np : Int)) = false := decide_eq_false e4
          have e6 : (120 : Int) < (key.size : Int) := by omega
          have e7 : decide ((120 : Int) < (key.size : Int)) = true := decide_eq_true e6
          clear hb h1 h2 h3 h4
          go_wp2
          go_ret2
          exact FIN.out
      · have HR2 := Lib.hid (show spA l = (P, 0) by rw [HRS.out, if_neg hb])
        have e1 : ¬ (0 : Int) < (nc : Int) := by omega
        have e2 : decide ((0 : Int) < (nc : Int)) = false := decide_eq_false e1
        have e3 : ((np : Int) == 0) = false := by simp; omega
        have e4 : ¬ (8 : Int) < (np : Int) := by omega
        have e5 : decide ((8 : Int) < (np : Int)) = false := decide_eq_false e4
        have e6 : ¬ (120 : Int) < (key.size : Int) := by omega
        have e7 : decide ((120 : Int) < (key.size : Int)) = false := decide_eq_false e6
        clear hb
        go_wp2
        go_ret2
        unfold SpPost
        rw [HR2.out]
        refine ⟨_, rfl, ?_, HI.out.below⟩
        dsimp only
        rw [HPL.out]; exact HI.out.op
end Go.Proofs.YtdgcfhlfihpbiaaDoor
