/- Walks of Open, the program's and the reference's. For every slice of bytes that has room. -/
import Derived.Test.YtbcoplhfijgcfaaSumW7
import Derived.Deep.QuietTactic
import Derived.BigQuiet
set_option linter.unusedVariables false
set_option linter.unusedSimpArgs false
namespace Go.Proofs.Ytbcoplhfijgcfaa
open Go.RowKit SumMath
theorem sum_Open_short (A : Option Addr) (n c : Nat) (l : List UInt8) (w : World) (hr : Rd w A n c l) (hn : n < 4) :
    Calls Try.prog 18 #[.slice A n c] w fun e w' => e = .returned (.tuple #[.slice none 0 0, .int .i64 20]) ∧ w = w' := by
  go_enter Try.func18, Try.ntmps18
  go_wp2
  go_ret2
  exact ⟨rfl, rfl⟩
theorem ref_Open_short (A : Option Addr) (n c : Nat) (l : List UInt8) (w : World) (hr : Rd w A n c l) (hn : n < 4) :
    Calls Try.prog 19 #[.slice A n c] w fun e w' => e = .returned (.tuple #[.slice none 0 0, .int .i64 20]) ∧ w = w' := by
  go_enter Try.func19, Try.ntmps19
  go_wp2
  go_ret2
  exact ⟨rfl, rfl⟩
theorem b8_shr (s : BitVec 32) (k : Nat) : (s.toNat : Int) / 2 ^ (8 * k) % 256 = ((b8 s k).toNat : Int) := by
  rw [b8_nat, show (256 : Nat) ^ k = 2 ^ (8 * k) by rw [Nat.pow_mul], show (2 : Int) ^ (8 * k) = ((2 ^ (8 * k) : Nat) : Int) from (Int.natCast_pow 2 (8 * k)).symm]
  rw [Int.natCast_emod, Int.natCast_ediv]; rfl
theorem le4_get (s : BitVec 32) (k : Nat) (h : k < 4) : (le4 s).getD k 0 = b8 s k := by
  have : k = 0 ∨ k = 1 ∨ k = 2 ∨ k = 3 := by omega
  rcases this with rfl | rfl | rfl | rfl <;> rfl
theorem drop_get (l : List UInt8) (m k : Nat) : (l.drop m).getD k 0 = l.getD (m + k) 0 := by
  simp [List.getD_eq_getElem?_getD]
theorem u8_ext {a b : UInt8} (h : (a.toNat : Int) = b.toNat) : a = b := UInt8.toNat_inj.1 (by omega)
theorem open_bad {l : List UInt8} {m k : Nat} {s : BitVec 32} {cc : UInt8} (hk : k < 4) (hc : l.getD (m + k) 0 = cc) (h : ((cc.toNat : Int) != (s.toNat : Int) / 2 ^ (8 * k) % 256) = true) : l.drop m ≠ le4 s := by
  intro he
  rw [b8_shr, ← le4_get s k hk, ← he, drop_get, hc] at h
  simp at h
theorem open_step {l : List UInt8} {m k : Nat} {s : BitVec 32} {cc : UInt8} (hk : k < 4) (hl : l.length = m + 4) (hc : l.getD (m + k) 0 = cc) (hp : (l.drop m).take k = (le4 s).take k) (h : ((cc.toNat : Int) != (s.toNat : Int) / 2 ^ (8 * k) % 256) = false) :
    (l.drop m).take (k + 1) = (le4 s).take (k + 1) := by
  rw [take_snoc _ k 0 (by simp; omega), take_snoc _ k 0 (by simpa [le4] using hk), hp, drop_get, hc, le4_get s k hk]
  rw [b8_shr] at h
  congr 2
  exact u8_ext (by simpa using h)
theorem sum_Open_long (b o n c : Nat) (l : List UInt8) (w : World) (hr : Rd w (some ⟨b, o, none⟩) n c l) (m : Nat) (hn : n = m + 4) :
    Calls Try.prog 18 #[.slice (some ⟨b, o, none⟩) n c] w fun e w' => (∃ v, e = .returned (.tuple #[v, .int .i64 0]) ∧ Own w' w.heap.size v m (l.take m) ∧ l.drop m = le4 (crc 0#32 (l.take m)) ∧ Below w.heap.size w w') ∨
      (e = .returned (.tuple #[.slice none 0 0, .int .i64 2]) ∧ l.drop m ≠ le4 (crc 0#32 (l.take m)) ∧ Below w.heap.size w w') := by
  have HR := Lib.hid hr
  have hmc : m ≤ c := by have := hr.cap; omega
  have hmn : m ≤ n := by omega
  have hmx := hr.max
  have e1 : (n : Int) - 4 = (m : Int) := by omega
  have HN := Lib.hid hn
  clear hr hn
  go_enter Try.func18, Try.ntmps18
  go_wp2_with fail
  refine (sum_Sum _ _ _ (l.take m) _ (HR.out.take m hmn)).mono ?_
  rintro e w1 ⟨rfl, hb⟩
  have hcm : ¬ c = m := by have := HR.out.cap; have := HN.out; omega
  have e4 : n - m = 4 := by have := HN.out; omega
  obtain ⟨s, hs⟩ : ∃ s, s = crc 0#32 (l.take m) := ⟨_, rfl⟩
  rw [← hs]
  have HS := Lib.hid hs
  clear hs
  have hsl := s.isLt
  go_wp2_with fail
  go_loop [6, 7, 21] (fun _ _ i => ∃ k : Nat, k ≤ 4 ∧ i = .int .i64 k ∧ (l.drop m).take k = (le4 s).take k) (fun _ _ i => 4 - (intOf i).toNat)
  case atStart => exact ⟨0, by omega, rfl, rfl⟩
  case round =>
    obtain ⟨k, hk, rfl, he⟩ := hrel
    have HE := Lib.hid he
    clear he
    by_cases hlt : k < 4
    · have hcell := (HR.out.ext hb).at_ (by have := HN.out; omega)
      obtain ⟨b', o', hbo, hc⟩ := hcell
      injection hbo with hbo
      injection hbo with hb1 ho1
      subst hb1 ho1
      have hcell := hc (m + k) (by have := HN.out; omega)
      rw [← Nat.add_assoc] at hcell
      clear hc
      have h8 := (l.getD (m + k) 0).toNat_lt
      obtain ⟨cc, hcc⟩ : ∃ cc, cc = l.getD (m + k) 0 := ⟨_, rfl⟩
      rw [← hcc] at h8 hcell
      have HC := Lib.hid hcc.symm
      clear hcc
      cases htest : ((cc.toNat : Int) != (s.toNat : Int) / 2 ^ (8 * k) % 256)
      · have HS1 := Lib.hid (open_step hlt (by rw [HR.out.len]; exact HN.out) HC.out HE.out htest)
        go_wp2
        exact ⟨⟨k + 1, by omega, by go_num, HS1.out⟩, by simp [intOf]; omega⟩
      · have HS1 := Lib.hid (open_bad hlt HC.out htest)
        go_wp2
        go_ret2
        exact .inr ⟨rfl, by rw [← HS.out]; exact HS1.out, hb⟩
    · obtain rfl : k = 4 := by omega
      have hz := hb.size
      have HRm := Lib.hid ((HR.out.take m hmn).ext hb)
      have HD := Lib.hid (show l.drop m = le4 s by have := HE.out; rw [List.take_of_length_le (by simp; rw [HR.out.len]; omega), List.take_of_length_le (by simp [le4])] at this; exact this)
      go_wp2_with (at_builtin; refine wp_app (w0 := w) w.heap.size (Own.empty w1 _ hz) (HRm.out.ext ((Below.refl _ _).alloc (Nat.le_refl _) _)) (hb.alloc hz _) (by simp; omega) (by omega) _ _ rfl rfl rfl rfl ?_; intro v2 w2 hO hB hG hat; clear hG hat; rw [Nat.zero_add, List.nil_append] at hO; have HO := Lib.hid hO; clear hO)
      go_ret2
      exact .inl ⟨_, rfl, HO.out, by rw [← HS.out]; exact HD.out, hB⟩
theorem append_get (a b : List UInt8) (k : Nat) (d : UInt8) : (a ++ b).getD (a.length + k) d = b.getD k d := by
  rw [List.getD_eq_getElem?_getD, List.getElem?_append_right (by omega), Nat.add_sub_cancel_left, ← List.getD_eq_getElem?_getD]
theorem ref_Open_long (b o n c : Nat) (l : List UInt8) (w : World) (hr : Rd w (some ⟨b, o, none⟩) n c l) (m : Nat) (hn : n = m + 4) :
    Calls Try.prog 19 #[.slice (some ⟨b, o, none⟩) n c] w fun e w' => (∃ A' c', e = .returned (.tuple #[.slice A' m c', .int .i64 0]) ∧ Rd w' A' m c' (l.take m) ∧ l.drop m = le4 (crc 0#32 (l.take m)) ∧ Below w.heap.size w w') ∨
      (e = .returned (.tuple #[.slice none 0 0, .int .i64 2]) ∧ l.drop m ≠ le4 (crc 0#32 (l.take m)) ∧ Below w.heap.size w w') := by
  have HR := Lib.hid hr
  have hmc : m ≤ c := by have := hr.cap; omega
  have hmn : m ≤ n := by omega
  have hmx := hr.max
  have e1 : (n : Int) - 4 = (m : Int) := by omega
  have HN := Lib.hid hn
  clear hr hn
  go_enter Try.func19, Try.ntmps19
  go_wp2_with fail
  refine (ref_Seal _ _ _ (l.take m) _ (HR.out.take m hmn) (by have := HN.out; omega)).mono ?_
  rintro e w1 ⟨v, rfl, hO, hb⟩
  obtain ⟨s, hs⟩ : ∃ s, s = crc 0#32 (l.take m) := ⟨_, rfl⟩
  rw [← hs] at hO
  obtain ⟨A1, c1, rfl, hR1⟩ := hO.rd (by have := HN.out; omega)
  obtain ⟨b1, o1, rfl, -⟩ := hR1.at_ (by omega)
  have HS := Lib.hid hs
  have HR1 := Lib.hid hR1
  have hmc1 : m ≤ c1 := by have := hR1.cap; omega
  have HL1 := Lib.hid (show (l.take m).length = m by simp; rw [HR.out.len]; omega)
  clear hs hO hR1
  go_wp2_with fail
  go_loopw [6] (fun i wr => ∃ j : Nat, m ≤ j ∧ j ≤ m + 4 ∧ i = .int .i64 j ∧ (l.drop m).take (j - m) = (le4 s).take (j - m) ∧ Below w.heap.size w wr ∧ Rd wr (some ⟨b, o, none⟩) n c l ∧ Rd wr (some ⟨b1, o1, none⟩) (m + 4) c1 (l.take m ++ le4 s)) (fun i _ => m + 4 - (intOf i).toNat)
  case atStart => exact ⟨m, by omega, by omega, rfl, by rw [Nat.sub_self]; rfl, hb, HR.out.ext hb, HR1.out⟩
  case round =>
    obtain ⟨j, hj1, hj2, rfl, he, hB, hRa, hRb⟩ := hrel
    have HE := Lib.hid he
    have HRa := Lib.hid hRa
    have HRb := Lib.hid hRb
    clear he
    by_cases hlt : j < m + 4
    · obtain ⟨b', o', hbo, hc⟩ := hRa.at_ (by have := HN.out; omega)
      injection hbo with hbo
      injection hbo with hb1 ho1
      subst hb1 ho1
      obtain ⟨b', o', hbo, hc'⟩ := hRb.at_ (by omega)
      injection hbo with hbo
      injection hbo with hb1 ho1
      subst hb1 ho1
      have hcell := hc j (by have := HN.out; omega)
      have hcell' := hc' j (by omega)
      have hg : (l.take m ++ le4 s).getD j 0 = b8 s (j - m) := by
        have := append_get (l.take m) (le4 s) (j - m) 0
        rw [HL1.out, show m + (j - m) = j by omega] at this
        rw [this, le4_get s _ (by omega)]
      rw [hg] at hcell'
      clear hc hc' hRa hRb hg
      obtain ⟨cc, hcc⟩ : ∃ cc, cc = l.getD j 0 := ⟨_, rfl⟩
      rw [← hcc] at hcell
      have h8 := cc.toNat_lt
      have HC := Lib.hid hcc.symm
      clear hcc
      have hjn : j < n := by have := HN.out; omega
      obtain ⟨x, hx⟩ : ∃ x, x = b8 s (j - m) := ⟨_, rfl⟩
      rw [← hx] at hcell'
      have HX := Lib.hid hx.symm
      clear hx
      cases htest : ((cc.toNat : Int) != (x.toNat : Int))
      · have HS1 := Lib.hid (open_step (s := s) (k := j - m) (m := m) (l := l) (cc := cc) (by omega) (by rw [HR.out.len]; exact HN.out) (by rw [show m + (j - m) = j by omega]; exact HC.out) HE.out (by rw [b8_shr, HX.out]; exact htest))
        go_wp2_with fail
        go_quiet ((fail))
        go_wp2
        go_roundw
        case rel => exact ⟨j + 1, by omega, by omega, by go_num, by rw [show j + 1 - m = (j - m) + 1 by omega]; exact HS1.out, below_drewN hB _, HRa.out.drew _, HRb.out.drew _⟩
        case measure => simp [intOf]; omega
      · have HS1 := Lib.hid (open_bad (s := s) (k := j - m) (m := m) (l := l) (cc := cc) (by omega) (by rw [show m + (j - m) = j by omega]; exact HC.out) (by rw [b8_shr, HX.out]; exact htest))
        go_wp2_with fail
        go_quiet ((fail))
        go_wp2
        go_ret2
        exact .inr ⟨rfl, by rw [← HS.out]; exact HS1.out, below_drewN hB _⟩
    · obtain rfl : j = m + 4 := by omega
      have HD := Lib.hid (show l.drop m = le4 s by have := HE.out; rw [show m + 4 - m = 4 by omega, List.take_of_length_le (by simp; rw [HR.out.len]; have := HN.out; omega), List.take_of_length_le (by simp [le4])] at this; exact this)
      go_wp2
      go_ret2
      refine .inl ⟨_, _, rfl, ?_, by rw [← HS.out]; exact HD.out, hB⟩
      have := HRb.out.take m (by omega)
      rwa [List.take_append_of_le_length (by rw [HL1.out]; exact Nat.le_refl _), List.take_of_length_le (by rw [HL1.out]; exact Nat.le_refl _)] at this
end Go.Proofs.Ytbcoplhfijgcfaa
