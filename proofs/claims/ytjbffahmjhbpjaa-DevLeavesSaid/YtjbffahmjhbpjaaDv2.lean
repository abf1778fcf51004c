/- The walk of the device's Of. -/
import Derived.Test.YtjbffahmjhbpjaaDv1
import Derived.IntWalk
import Derived.Deep.RegionHeld3
set_option linter.unusedVariables false
set_option linter.unusedSimpArgs false
namespace Go.Proofs.Ytjbffahmjhbpjaa
open Go.RowKit
def OfOk (n : Nat) : Prop := n % 512 = 0 ∧ 64 ≤ n / 512 ∧ n / 512 ≤ 4096
/-- the medium when k blocks are carried -/
def ofM (L : List UInt8) (q k : Nat) : List UInt8 := L.take (k * 512) ++ List.replicate ((q - k) * 512) 0
theorem splice_at {α : Type} (X Z Y : List α) (k : Nat) (hk : X.length = k) : splice (X ++ Z) k Y = X ++ (Y ++ Z.drop Y.length) := by
  subst hk
  simp [splice, List.drop_append]
theorem ofM_step (L : List UInt8) (q k : Nat) (hk : k < q) (hl : L.length = q * 512) : splice (ofM L q k) (k * 512) ((L.drop (k * 512)).take 512) = ofM L q (k + 1) := by
  have h1 : (L.take (k * 512)).length = k * 512 := by simp; omega
  have h2 : ((L.drop (k * 512)).take 512).length = 512 := by simp; omega
  unfold ofM
  rw [splice_at _ _ _ _ h1, h2, List.drop_replicate, ← List.append_assoc, show (k + 1) * 512 = k * 512 + 512 by omega, List.take_add, show (q - k) * 512 - 512 = (q - (k + 1)) * 512 by omega]
theorem ofM_length (L : List UInt8) (q k : Nat) (hk : k ≤ q) (hl : L.length = q * 512) : (ofM L q k).length = q * 512 := by
  simp [ofM]; omega
theorem dv_Of_bad (A : Option Addr) (n c : Nat) (L : List UInt8) (w : World) (hr : Rd w A n c L) (hb : ¬ OfOk n) :
    Calls Try.prog 13 #[.slice A n c] w fun e w' => e = .returned (.tuple #[.pointer none, .int .i64 61]) ∧ Below w.heap.size w w' := by
  have hmx := hr.max
  have HB := Lib.hid hb
  clear hb hr
  obtain ⟨q, hq⟩ : ∃ q, q = n / 512 := ⟨_, rfl⟩
  have HQ := Lib.hid hq
  have e2 : (n : Int) / 512 = (q : Int) := by omega
  have hq2 : q ≤ 274877911040 := by omega
  clear hq
  by_cases hk : (q : Int) < 64 ∨ (4096 : Int) < q
  · go_enter Try.func13, Try.ntmps13
    go_wp2_with fail
    refine (dv_New_bad q hk w).mono ?_
    rintro e w1 ⟨rfl, rfl⟩
    go_wp2_with fail
    go_ret2
    exact ⟨rfl, Below.refl _ _⟩
  · have hne : ((n : Int) != (q : Int) * 512) = true := by
      have : n ≠ q * 512 := by
        intro h
        exact HB.out ⟨by omega, by have := HQ.out; omega, by have := HQ.out; omega⟩
      simp only [bne_iff_ne, ne_eq]
      omega
    go_enter Try.func13, Try.ntmps13
    go_wp2_with fail
    refine (dv_New_ok q (by omega) (by omega) w).mono ?_
    rintro e w1 ⟨rfl, -, hB⟩
    have HB1 := Lib.hid hB
    clear hB
    go_wp2_with fail
    go_ret2
    exact ⟨rfl, HB1.out⟩
set_option maxRecDepth 100000 in
theorem dv_Of_ok (A : Option Addr) (n c : Nat) (L : List UInt8) (w : World) (hr : Rd w A n c L) (hb : OfOk n) :
    Calls Try.prog 13 #[.slice A n c] w fun e w' => e = .returned (.tuple #[.pointer (some ⟨w.heap.size + 1, 0, none⟩), .int .i64 0]) ∧
      IsDev w' (w.heap.size + 1) w.heap.size (n / 512) L (.slice none 0 0) 0 false false 0 0 0 ∧ Below w.heap.size w w' := by
  obtain ⟨q, hq⟩ : ∃ q, q = n / 512 := ⟨_, rfl⟩
  rw [← hq]
  have hb1 := hb.1
  have hb2 := hb.2
  rw [← hq] at hb2
  obtain rfl : n = q * 512 := by omega
  clear hb hb1 hq
  obtain ⟨bb, oo, rfl, hc⟩ := hr.at_ (by omega)
  have hl := hr.len
  have hcap := hr.cap
  have HR := Lib.hid hr
  have HC := Lib.hid hc
  have HL := Lib.hid hl
  clear hc hr hl
  have e2 : ((q : Int) * 512) / 512 = (q : Int) := by omega
  go_enter Try.func13, Try.ntmps13
  go_wp2_with fail
  refine (dv_New_ok q (by omega) (by omega) w).mono ?_
  rintro e w1 ⟨rfl, hD, hB⟩
  obtain ⟨b, hbb⟩ : ∃ b, b = w.heap.size + 1 := ⟨_, rfl⟩
  obtain ⟨g, hgg⟩ : ∃ g, g = w.heap.size := ⟨_, rfl⟩
  rw [← hbb, ← hgg] at hD
  rw [← hbb]
  have c0 := hD.c0
  have HD := Lib.hid hD
  have HB1 := Lib.hid hB
  have HBB := Lib.hid hbb
  have HGG := Lib.hid hgg
  clear hD hB hbb hgg
  go_wp2_with fail
  go_loopw [7, 30] (fun _ x wr => ∃ k : Nat, k ≤ q ∧ x = .int .i64 k ∧ IsDev wr b g q (ofM L q k) (.slice none 0 0) 0 false false 0 0 0 ∧ Only [g] w1 wr) (fun _ x _ => q - (intOf x).toNat)
  case atStart => exact ⟨0, by omega, rfl, by simpa [ofM] using HD.out, Only.refl _ _⟩
  case round =>
    obtain ⟨k, hk, rfl, hD, hO⟩ := hrel
    have d0 := hD.c0
    have HD2 := Lib.hid hD
    have HO := Lib.hid hO
    clear hD hO
    by_cases hkq : k < q
    · go_wp2_with fail
      have hw1 : IntKind.i64.wrap ((k : Int) * 512) = (k : Int) * 512 := IntWalk.i64_in _ (by omega)
      have hw2 : (0 : Int) ≤ (k : Int) * 512 ∧ (k : Int) * 512 ≤ (q : Int) * 512 ∧ (0 : Int) ≤ k ∧ (k : Int) < q := by omega
      have hw3 : ((k : Int) * 512).toNat = k * 512 := by omega
      have hck : ¬ c = k * 512 := by omega
      have HS := Lib.hid (Rd.cellsAt (w := wr.drew) ((HR.out.ext (HB1.out.trans (HO.out.below HB1.out.size (by simp [HGG.out])))).drew 1) (k * 512) 512 (by omega))
      have HM := Lib.hid (show wr.drew.heap[g]? = some (.cells (bv (ofM L q k)).toArray 78 (0, 0)) from HD2.out.med)
      go_region_held3 (fun w' => w'.cell? ⟨b, 0, none⟩ = some (.slice (some ⟨g, 0, none⟩) q q) ∧ Only [g] wr w')
        (first | exact ⟨f0, fO⟩ | exact ⟨d0, (Only.refl _ _).drew⟩)
        (first | (refine step_copy_only rfl (.tmp 39) (.tmp 43) 29 29 rfl 5 Try.underlying29 sz_u8 g (k * 512) 512 512 ⟨bb, oo + k * 512, none⟩ (q * 512 - k * 512) (c - k * 512) ?q1 ?q2 (bv (ofM L q k)) 78 HM.out (bv ((L.drop (k * 512)).take 512)) ?q3 HS.out ?q5 (bv_one _) ?_
                  (case q1 => rfl)
                  (case q2 => (first | rfl | (simp only [if_neg hck]; rfl)))
                  (case q3 => (rw [bv_length, List.length_take, List.length_drop, HL.out, Nat.min_comm]))
                  (case q5 => (rw [bv_length, bv_length, ofM_length L q k hk HL.out, List.length_take, List.length_drop, HL.out]; omega))
                  intro w2 hg2 ho2
                  rw [splice_bv, ofM_step L q k hkq HL.out] at hg2
                  have fO : Only [g] wr w2 := ((Only.refl [g] wr).drew).trans ho2
                  have f0 := (HD2.out.medium fO hg2 (by rw [ofM_length L q (k + 1) hkq HL.out, ofM_length L q k hk HL.out])).c0
                  have HG2 := Lib.hid hg2
                  clear ho2 hg2))
      clear hw1 hw3
      rename_i hHeld
      clear hHeld
      go_wp2
      go_roundw
      case rel => exact ⟨k + 1, by omega, by go_num, HD2.out.medium fO HG2.out (by rw [ofM_length L q (k + 1) hkq HL.out, ofM_length L q k hk HL.out]), HO.out.trans fO⟩
      case measure => simp [intOf]; omega
    · obtain rfl : q = k := by omega
      go_wp2_with fail
      go_ret2
      rw [show ofM L q q = L by unfold ofM; rw [Nat.sub_self, Nat.zero_mul, List.replicate_zero, List.append_nil, List.take_of_length_le (by rw [HL.out]; omega)]] at HD2
      rw [HBB.out, HGG.out] at HD2
      refine ⟨?_, HD2.out, HB1.out.trans (HO.out.below HB1.out.size (by simp [HGG.out]))⟩
      rw [← HBB.out]
      rfl
end Go.Proofs.Ytjbffahmjhbpjaa
