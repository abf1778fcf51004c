/- Between: the plain law, and the walks of the program's and the reference's. -/
import Derived.Test.YtdgcfhlfihpbiaaDoorKyN2
import Derived.Deep.QuietTactic
import Derived.BigQuiet
import Derived.Laws.Cover1
set_option linter.unusedVariables false
set_option linter.unusedSimpArgs false
set_option maxRecDepth 100000
namespace Go.Proofs.YtdgcfhlfihpbiaaDoor
open Go.RowKit
/-- how much two texts share at the front -/
def cp : List UInt8 → List UInt8 → Nat
  | a :: l, b :: m => if a = b then cp l m + 1 else 0
  | _, _ => 0
def btL (l m : List UInt8) : List UInt8 := if cp l m = l.length then l ++ [0] else l.take (cp l m) ++ [l.getD (cp l m) 0 + 1]
def btA (a b : ByteArray) : ByteArray × Int := if ltS a b then (bstr (btL a.data.toList b.data.toList), 0) else (⟨#[]⟩, 1)
theorem cp_cases : ∀ l m : List UInt8, Op.bytesLess l m = true → ∃ p b m', m = p ++ b :: m' ∧ p.length = cp l m ∧ (l = p ∨ ∃ a l', l = p ++ a :: l' ∧ a.toNat < b.toNat)
  | l, [], h => by rw [bl_nil] at h; cases h
  | [], b :: m, _ => ⟨[], b, m, rfl, rfl, .inl rfl⟩
  | a :: l, b :: m, h => by
    by_cases e : a = b
    · subst e
      rw [bl_eq] at h
      obtain ⟨p, c, m', h1, h2, h3⟩ := cp_cases l m h
      refine ⟨a :: p, c, m', by rw [h1]; rfl, by rw [List.length_cons, h2, cp, if_pos rfl], ?_⟩
      rcases h3 with h3 | ⟨d, l', h3, h4⟩
      · exact .inl (by rw [h3])
      · exact .inr ⟨d, l', by rw [h3]; rfl, h4⟩
    · rw [bl_ne e] at h
      exact ⟨[], b, m, rfl, by rw [cp, if_neg e]; rfl, .inr ⟨a, l, rfl, UInt8.lt_iff_toNat_lt.1 (of_decide_eq_true h)⟩⟩
theorem dropG (l : List UInt8) (k : Nat) (h : k < l.length) : l.drop k = l.getD k 0 :: l.drop (k + 1) := by
  rw [List.drop_eq_getElem_cons h, List.getD_eq_getElem?_getD, List.getElem?_eq_getElem h]; rfl
theorem cp_step {l m : List UInt8} {k : Nat} (h1 : k < l.length) (h2 : k < m.length) (h : l.getD k 0 = m.getD k 0) : cp (l.drop k) (m.drop k) = cp (l.drop (k + 1)) (m.drop (k + 1)) + 1 := by
  rw [dropG l k h1, dropG m k h2, cp, if_pos h]
theorem cp_ne {l m : List UInt8} {k : Nat} (h1 : k < l.length) (h2 : k < m.length) (h : l.getD k 0 ≠ m.getD k 0) : cp (l.drop k) (m.drop k) = 0 := by
  rw [dropG l k h1, dropG m k h2, cp, if_neg h]
theorem cp_end1 {l m : List UInt8} {k : Nat} (h1 : l.length ≤ k) : cp (l.drop k) (m.drop k) = 0 := by
  rw [List.drop_eq_nil_of_le h1]; cases m.drop k <;> rfl
theorem cp_end2 {l m : List UInt8} {k : Nat} (h1 : m.length ≤ k) : cp (l.drop k) (m.drop k) = 0 := by
  rw [List.drop_eq_nil_of_le h1]; cases l.drop k <;> rfl
theorem bt_str (v : Int) (c : UInt8) (h : v = (c.toNat : Int)) (W : World) : (convert 42 9 (.slice (some ⟨W.heap.size, 0, none⟩) 1 1)).run Tryd.prog (W.alloc (.cells #[.int .u8 v] 5)) = .ok (.string (bstr [c])) (W.alloc (.cells #[.int .u8 v] 5)) := by
  have h1 := (Rd.lit W [c] 1 rfl (by omega)).str
  rw [h]
  exact h1
theorem ext_take (a : ByteArray) (k : Nat) (c : UInt8) : a.extract 0 k ++ bstr [c] = bstr (a.data.toList.take k ++ [c]) := by
  apply data_inj
  rw [ByteArray.data_append, ByteArray.data_extract]
  unfold bstr
  simp
theorem add_zero (a : ByteArray) : a ++ ⟨#[0]⟩ = bstr (a.data.toList ++ [0]) := by
  apply data_inj
  rw [ByteArray.data_append]
  unfold bstr
  simp
def BtPost (a b : ByteArray) (w : World) (e : Ending) (w' : World) : Prop := e = .returned (.tuple #[.string (btA a b).1, .int .i64 (btA a b).2]) ∧ Below w.heap.size w w'
set_option maxHeartbeats 2000000 in
theorem ky_Between (a b : ByteArray) (w : World) (ha : a.size ≤ 140737488351232) (hb : b.size ≤ 140737488351232) : Calls Tryd.prog 29 #[.string a, .string b] w (BtPost a b w) := by
  cases h : ltS a b with
  | false =>
    have HA := Lib.hid (show btA a b = (⟨#[]⟩, 1) by unfold btA; rw [h]; rfl)
    have h1 : Op.bytesLess a.toList b.toList = false := h
    clear h
    go_enter Tryd.func29, Tryd.ntmps29
    go_wp2
    go_ret2
    exact ⟨by rw [HA.out]; rfl, Below.refl _ _⟩
  | true =>
    have h1 : Op.bytesLess a.toList b.toList = true := h
    have hla := str_len a
    have hlb := str_len b
    have hcp : cp a.data.toList b.data.toList < b.size ∧ (cp a.data.toList b.data.toList = a.size ∨ (cp a.data.toList b.data.toList < a.size ∧ (a.data.toList.getD (cp a.data.toList b.data.toList) 0).toNat < 255)) := by
      have h2 : Op.bytesLess a.data.toList b.data.toList = true := by rw [ltS_data]; exact h
      obtain ⟨p, c, m', e1, e2, e3⟩ := cp_cases _ _ h2
      rw [← e2, ← hla, ← hlb]
      refine ⟨by rw [e1]; simp, ?_⟩
      rcases e3 with e3 | ⟨d, l', e3, e4⟩
      · exact .inl (by rw [e3])
      · refine .inr ⟨by rw [e3]; simp, ?_⟩
        have := c.toNat_lt
        have h5 : a.data.toList.getD p.length 0 = d := by rw [e3]; simp [List.getD_eq_getElem?_getD]
        rw [h5]; omega
    have HA := Lib.hid (show btA a b = (bstr (btL a.data.toList b.data.toList), 0) by unfold btA; rw [h]; rfl)
    obtain ⟨l, hl⟩ : ∃ l, l = a.data.toList := ⟨_, rfl⟩
    obtain ⟨m, hm⟩ : ∃ m, m = b.data.toList := ⟨_, rfl⟩
    have HGA := Lib.hid (fun k hk => bget a k hk)
    have HGB := Lib.hid (fun k hk => bget b k hk)
    rw [← hl] at hla HGA
    rw [← hm] at hlb HGB
    rw [← hl, ← hm] at hcp HA
    obtain ⟨q, hq⟩ : ∃ q, q = cp l m := ⟨_, rfl⟩
    rw [← hq] at hcp
    have HL := Lib.hid hla
    have HM := Lib.hid hlb
    have HQ := Lib.hid hq
    have HLE := Lib.hid hl
    have HCP := Lib.hid hcp
    clear h hla hlb hcp hl hm hq
    go_enter Tryd.func29, Tryd.ntmps29
    go_wp2_with fail
    go_loopw [6] (fun x wx => ∃ k : Nat, k ≤ a.size ∧ k ≤ b.size ∧ x = .int .i64 k ∧ q = k + cp (l.drop k) (m.drop k) ∧ Below w.heap.size w wx) (fun x _ => a.size - (intOf x).toNat)
    case atStart => exact ⟨0, by omega, by omega, rfl, by simpa using HQ.out, Below.refl _ _⟩
    case round =>
      obtain ⟨k, hka, hkb, rfl, hE, hB⟩ := hrel
      have HE := Lib.hid hE
      have HB := Lib.hid hB
      clear hE hB
      have hcase : (k < a.size ∧ k < b.size ∧ l.getD k 0 = m.getD k 0) ∨ (k < a.size ∧ k < b.size ∧ l.getD k 0 ≠ m.getD k 0 ∧ k = q) ∨ (k = a.size ∧ k = q) := by
        have hcp := HCP.out
        by_cases h2 : k < a.size
        · by_cases h3 : k < b.size
          · by_cases h4 : l.getD k 0 = m.getD k 0
            · exact .inl ⟨h2, h3, h4⟩
            · have h5 := cp_ne (l := l) (m := m) (k := k) (by rw [HL.out]; exact h2) (by rw [HM.out]; exact h3) h4
              have h6 := HE.out
              exact .inr (.inl ⟨h2, h3, h4, by omega⟩)
          · exfalso
            have h5 := cp_end2 (l := l) (m := m) (k := k) (by rw [HM.out]; omega)
            have h6 := HE.out
            omega
        · have h5 := cp_end1 (l := l) (m := m) (k := k) (by rw [HL.out]; omega)
          have h6 := HE.out
          exact .inr (.inr ⟨by omega, by omega⟩)
      rcases hcase with ⟨h2, h3, h4⟩ | ⟨h2, h3, h4, rfl⟩ | ⟨rfl, hq2⟩
      · have hst := cp_step (l := l) (m := m) (k := k) (by rw [HL.out]; exact h2) (by rw [HM.out]; exact h3) h4
        have HST := Lib.hid (show q = k + 1 + cp (l.drop (k + 1)) (m.drop (k + 1)) by have := HE.out; omega)
        have e1 : (k : Int) < (a.size : Int) := by omega
        have e2 : (k : Int) < (b.size : Int) := by omega
        have e3 : ((((a[k]'h2).toNat : Nat) : Int) == (((b[k]'h3).toNat : Nat) : Int)) = true := by rw [HGA.out k h2, HGB.out k h3, h4]; simp
        clear hst h4
        go_wp2_with fail
        go_quiet ((fail))
        go_wp2
        go_roundw
        case rel => exact ⟨k + 1, by omega, by omega, by go_num, HST.out, below_drewN HB.out _⟩
        case measure => simp [intOf]; omega
      · have e1 : (k : Int) < (a.size : Int) := by omega
        have e2 : (k : Int) < (b.size : Int) := by omega
        have e3 : ((((a[k]'h2).toNat : Nat) : Int) == (((b[k]'h3).toNat : Nat) : Int)) = false := by
          rw [HGA.out k h2, HGB.out k h3]
          simp only [beq_eq_false_iff_ne, ne_eq]
          intro h5; exact h4 (UInt8.toNat_inj.1 (by omega))
        have e4 : ((k : Int) == (a.size : Int)) = false := by simp; omega
        have hc255 : (a[k]'h2).toNat < 255 := by
          rw [HGA.out k h2]
          rcases HCP.out.2 with h5 | h5
          · omega
          · exact h5.2
        have HR := Lib.hid (show btL l m = l.take k ++ [l.getD k 0 + 1] by unfold btL; rw [← HQ.out, if_neg (by rw [HL.out]; omega)])
        have hstr := fun j => (show (convert 42 9 (.slice (some ⟨wr.heap.size, 0, none⟩) 1 1)).run Tryd.prog ((wr.drewN j).alloc (.cells #[.int .u8 (((a[k]'h2).toNat : Int) + 1)] 5)) = .ok (.string (bstr [l.getD k 0 + 1])) ((wr.drewN j).alloc (.cells #[.int .u8 (((a[k]'h2).toNat : Int) + 1)] 5)) from bt_str (((a[k]'h2).toNat : Int) + 1) (l.getD k 0 + 1) (by
          rw [HGA.out k h2] at hc255 ⊢
          rw [UInt8.toNat_add]
          have : (1 : UInt8).toNat = 1 := rfl
          omega) (wr.drewN j))
        obtain ⟨st, hst⟩ : ∃ st, st = bstr [l.getD k 0 + 1] := ⟨_, rfl⟩
        have HST := Lib.hid hst
        have hs1 : st.size = 1 := by rw [hst]; rfl
        simp only [← hst] at hstr
        clear h4 hst
        go_wp2_with fail
        go_quiet ((fail))
        go_wp2_with fail
        go_region
        all_goals (
          go_wp2
          go_ret2
          exact ⟨by rw [HA.out, HR.out, ← HGA.out k h2, HLE.out, ← ext_take, HGA.out k h2, ← HST.out]; rfl, (below_drewN HB.out _).alloc (by have := HB.out.size; simpa using this) _⟩)
      · have e4 : ((a.size : Int) == (a.size : Int)) = true := by simp
        have HR := Lib.hid (show btL l m = l ++ [0] by unfold btL; rw [← HQ.out, if_pos (by rw [HL.out]; omega)])
        clear hq2
        go_wp2_with fail
        go_quiet ((fail))
        go_wp2
        go_ret2
        exact ⟨by rw [HA.out, HR.out, HLE.out, ← add_zero]; rfl, below_drewN HB.out _⟩
set_option maxHeartbeats 2000000 in
theorem kr_Between (a b : ByteArray) (w : World) (ha : a.size ≤ 140737488351232) (hb : b.size ≤ 140737488351232) : Calls Tryd.prog 32 #[.string a, .string b] w (BtPost a b w) := by
  cases h : ltS a b with
  | false =>
    have HA := Lib.hid (show btA a b = (⟨#[]⟩, 1) by unfold btA; rw [h]; rfl)
    have h1 : Op.bytesLess a.toList b.toList = false := h
    clear h
    go_enter Tryd.func32, Tryd.ntmps32
    go_wp2
    go_ret2
    exact ⟨by rw [HA.out]; rfl, Below.refl _ _⟩
  | true =>
    have h1 : Op.bytesLess a.toList b.toList = true := h
    have hla := str_len a
    have hlb := str_len b
    have hcp : cp a.data.toList b.data.toList < b.size ∧ (cp a.data.toList b.data.toList = a.size ∨ (cp a.data.toList b.data.toList < a.size ∧ (a.data.toList.getD (cp a.data.toList b.data.toList) 0).toNat < 255)) := by
      have h2 : Op.bytesLess a.data.toList b.data.toList = true := by rw [ltS_data]; exact h
      obtain ⟨p, c, m', e1, e2, e3⟩ := cp_cases _ _ h2
      rw [← e2, ← hla, ← hlb]
      refine ⟨by rw [e1]; simp, ?_⟩
      rcases e3 with e3 | ⟨d, l', e3, e4⟩
      · exact .inl (by rw [e3])
      · refine .inr ⟨by rw [e3]; simp, ?_⟩
        have := c.toNat_lt
        have h5 : a.data.toList.getD p.length 0 = d := by rw [e3]; simp [List.getD_eq_getElem?_getD]
        rw [h5]; omega
    have HA := Lib.hid (show btA a b = (bstr (btL a.data.toList b.data.toList), 0) by unfold btA; rw [h]; rfl)
    obtain ⟨l, hl⟩ : ∃ l, l = a.data.toList := ⟨_, rfl⟩
    obtain ⟨m, hm⟩ : ∃ m, m = b.data.toList := ⟨_, rfl⟩
    have HGA := Lib.hid (fun k hk => bget a k hk)
    have HGB := Lib.hid (fun k hk => bget b k hk)
    rw [← hl] at hla HGA
    rw [← hm] at hlb HGB
    rw [← hl, ← hm] at hcp HA
    obtain ⟨q, hq⟩ : ∃ q, q = cp l m := ⟨_, rfl⟩
    rw [← hq] at hcp
    have HL := Lib.hid hla
    have HM := Lib.hid hlb
    have HQ := Lib.hid hq
    have HLE := Lib.hid hl
    have HCP := Lib.hid hcp
    clear h hla hlb hcp hl hm hq
    go_enter Tryd.func32, Tryd.ntmps32
    go_wp2_with fail
    go_loopw [6] (fun x wx => ∃ k : Nat, k ≤ a.size ∧ k ≤ b.size ∧ x = .int .i64 k ∧ q = k + cp (l.drop k) (m.drop k) ∧ Below w.heap.size w wx) (fun x _ => a.size - (intOf x).toNat)
    case atStart => exact ⟨0, by omega, by omega, rfl, by simpa using HQ.out, Below.refl _ _⟩
    case round =>
      obtain ⟨k, hka, hkb, rfl, hE, hB⟩ := hrel
      have HE := Lib.hid hE
      have HB := Lib.hid hB
      clear hE hB
      have hcase : (k < a.size ∧ k < b.size ∧ l.getD k 0 = m.getD k 0) ∨ (k < a.size ∧ k < b.size ∧ l.getD k 0 ≠ m.getD k 0 ∧ k = q) ∨ (k = a.size ∧ k = q) := by
        have hcp := HCP.out
        by_cases h2 : k < a.size
        · by_cases h3 : k < b.size
          · by_cases h4 : l.getD k 0 = m.getD k 0
            · exact .inl ⟨h2, h3, h4⟩
            · have h5 := cp_ne (l := l) (m := m) (k := k) (by rw [HL.out]; exact h2) (by rw [HM.out]; exact h3) h4
              have h6 := HE.out
              exact .inr (.inl ⟨h2, h3, h4, by omega⟩)
          · exfalso
            have h5 := cp_end2 (l := l) (m := m) (k := k) (by rw [HM.out]; omega)
            have h6 := HE.out
            omega
        · have h5 := cp_end1 (l := l) (m := m) (k := k) (by rw [HL.out]; omega)
          have h6 := HE.out
          exact .inr (.inr ⟨by omega, by omega⟩)
      rcases hcase with ⟨h2, h3, h4⟩ | ⟨h2, h3, h4, rfl⟩ | ⟨rfl, hq2⟩
      · have hst := cp_step (l := l) (m := m) (k := k) (by rw [HL.out]; exact h2) (by rw [HM.out]; exact h3) h4
        have HST := Lib.hid (show q = k + 1 + cp (l.drop (k + 1)) (m.drop (k + 1)) by have := HE.out; omega)
        have e1 : (k : Int) < (a.size : Int) := by omega
        have e2 : (k : Int) < (b.size : Int) := by omega
        have e3 : ((((a[k]'h2).toNat : Nat) : Int) == (((b[k]'h3).toNat : Nat) : Int)) = true := by rw [HGA.out k h2, HGB.out k h3, h4]; simp
        clear hst h4
        go_wp2_with fail
        go_quiet ((fail))
        go_wp2
        go_roundw
        case rel => exact ⟨k + 1, by omega, by omega, by go_num, HST.out, below_drewN HB.out _⟩
        case measure => simp [intOf]; omega
      · have e1 : (k : Int) < (a.size : Int) := by omega
        have e2 : (k : Int) < (b.size : Int) := by omega
        have e3 : ((((a[k]'h2).toNat : Nat) : Int) == (((b[k]'h3).toNat : Nat) : Int)) = false := by
          rw [HGA.out k h2, HGB.out k h3]
          simp only [beq_eq_false_iff_ne, ne_eq]
          intro h5; exact h4 (UInt8.toNat_inj.1 (by omega))
        have e4 : ((k : Int) == (a.size : Int)) = false := by simp; omega
        have hc255 : (a[k]'h2).toNat < 255 := by
          rw [HGA.out k h2]
          rcases HCP.out.2 with h5 | h5
          · omega
          · exact h5.2
        have HR := Lib.hid (show btL l m = l.take k ++ [l.getD k 0 + 1] by unfold btL; rw [← HQ.out, if_neg (by rw [HL.out]; omega)])
        have hstr := fun j => (show (convert 42 9 (.slice (some ⟨wr.heap.size, 0, none⟩) 1 1)).run Tryd.prog ((wr.drewN j).alloc (.cells #[.int .u8 (((a[k]'h2).toNat : Int) + 1)] 5)) = .ok (.string (bstr [l.getD k 0 + 1])) ((wr.drewN j).alloc (.cells #[.int .u8 (((a[k]'h2).toNat : Int) + 1)] 5)) from bt_str (((a[k]'h2).toNat : Int) + 1) (l.getD k 0 + 1) (by
          rw [HGA.out k h2] at hc255 ⊢
          rw [UInt8.toNat_add]
          have : (1 : UInt8).toNat = 1 := rfl
          omega) (wr.drewN j))
        obtain ⟨st, hst⟩ : ∃ st, st = bstr [l.getD k 0 + 1] := ⟨_, rfl⟩
        have HST := Lib.hid hst
        have hs1 : st.size = 1 := by rw [hst]; rfl
        simp only [← hst] at hstr
        clear h4 hst
        go_wp2_with fail
        go_quiet ((fail))
        go_wp2_with fail
        go_region
        all_goals (
          go_wp2
          go_ret2
          exact ⟨by rw [HA.out, HR.out, ← HGA.out k h2, HLE.out, ← ext_take, HGA.out k h2, ← HST.out]; rfl, (below_drewN HB.out _).alloc (by have := HB.out.size; simpa using this) _⟩)
      · have e4 : ((a.size : Int) == (a.size : Int)) = true := by simp
        have HR := Lib.hid (show btL l m = l ++ [0] by unfold btL; rw [← HQ.out, if_pos (by rw [HL.out]; omega)])
        clear hq2
        go_wp2_with fail
        go_quiet ((fail))
        go_wp2
        go_ret2
        exact ⟨by rw [HA.out, HR.out, HLE.out, ← add_zero]; rfl, below_drewN HB.out _⟩
end Go.Proofs.YtdgcfhlfihpbiaaDoor
