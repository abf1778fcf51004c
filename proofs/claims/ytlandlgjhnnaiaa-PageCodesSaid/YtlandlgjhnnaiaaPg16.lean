/- A block that is read: number, blank. -/
import Derived.Test.YtlandlgjhnnaiaaPg15
import Derived.Test.YtlandlgjhnnaiaaPgBits
import Derived.Lib.ConvBytes
set_option linter.unusedVariables false
set_option linter.unusedSimpArgs false
set_option maxRecDepth 100000
namespace Go.Proofs.Ytlandlgjhnnaiaa
open Go.RowKit SumMath
theorem below_bytesWorld (w : World) (e : TypeId) (s : ByteArray) : Below w.heap.size w (Lib.bytesWorld w e s) :=
  ⟨rfl, rfl, rfl, by rw [Lib.bytesWorld_size]; omega, fun j hj => Lib.bytesWorld_at_old w e s j hj⟩
theorem getI_small (S : List UInt8) (h : S.length ≤ 4) : getI S = (leN S : Int) := by
  have h1 := leN_lt S
  have h2 : 256 ^ S.length ≤ 256 ^ 4 := Nat.pow_le_pow_right (by decide) h
  have h3 : (256 : Nat) ^ 4 = 4294967296 := by decide
  unfold getI
  exact wrap_i64_nat _ (by omega)
theorem nxt_len (L : List UInt8) (a k : Nat) : (nxt L a k).1.length ≤ k := by
  unfold nxt seg; split
  · simp; omega
  · simp
theorem nxt_at (L : List UInt8) (a k : Nat) (ha : a ≤ 513) : (nxt L a k).2 ≤ 513 := by
  unfold nxt; split
  · simp; omega
  · simp
set_option maxHeartbeats 1000000 in
theorem pg_number (g a k : Nat) (M : List UInt8) (w : World) (h : BkAt w g M a) (ha : a ≤ 513) (hk : k ≤ 4) :
    Calls Try.prog 47 #[.pointer (some ⟨g, 0, none⟩), .int .i64 (k : Int)] w fun e w' => e = .returned (.int .i64 ((num M a k).1 : Int)) ∧ BkAt w' g M (num M a k).2 ∧ Only [g] w w' := by
  have HN := Lib.hid (pg_next g a k M w h ha (by omega))
  have hsl := nxt_len M a k
  have HGS := Lib.hid (getI_small (nxt M a k).1 (by omega))
  unfold num
  dsimp only
  obtain ⟨S, hS⟩ : ∃ S, S = (nxt M a k).1 := ⟨_, rfl⟩
  obtain ⟨b, hb⟩ : ∃ b, b = (nxt M a k).2 := ⟨_, rfl⟩
  rw [← hS, ← hb] at HN ⊢
  rw [← hS] at hsl HGS
  have HL := Lib.hid hsl
  clear hS hb h hsl
  go_enter Try.func47, Try.ntmps47
  go_wp2_with fail
  refine HN.out.mono ?_
  rintro e w1 ⟨rfl, hB, hO⟩
  have HB := Lib.hid hB
  have HO := Lib.hid hO
  obtain ⟨s, hs⟩ : ∃ s, s = strS S := ⟨_, rfl⟩
  have hsz : s.size = S.length := by rw [hs]; simp [strS, ByteArray.size]
  have hcv := Lib.run_convert_string_bytes (P := Try.prog) w1 9 31 5 s Try.underlying9 Try.underlying31 Try.underlying5
  rw [hsz] at hcv
  obtain ⟨cp, hcp⟩ : ∃ cp, cp = grownCap w1 S.length 0 5 := ⟨_, rfl⟩
  rw [← hcp] at hcv
  obtain ⟨r, hr⟩ : ∃ r, r = w1.heap.size := ⟨_, rfl⟩
  obtain ⟨W, hW⟩ : ∃ W, W = Lib.bytesWorld w1 5 s := ⟨_, rfl⟩
  have HCL := Lib.hid (show ∀ i, i < S.length → W.cell? ⟨r, i, none⟩ = some (.int .u8 ((S.getD i 0).toNat : Int)) from fun i hi => by
    rw [hW, hr, Lib.bytesWorld_cell w1 _ s i (by omega), hs]; rfl)
  have HBW := Lib.hid (show Below w1.heap.size w1 W by rw [hW]; exact below_bytesWorld _ _ _)
  rw [← hr, ← hW] at hcv
  rw [← hs]
  clear hB hO hs hsz hcp hr hW
  go_wp2_with fail
  clear hcv
  go_loopw [5, 6, 7, 13] (fun v _ _ x wx => ∃ i : Nat, i ≤ S.length ∧ x = .int .i64 i ∧ v = .int .i64 (getI (S.take i)) ∧ wx = W) (fun _ _ _ x _ => S.length - (intOf x).toNat)
  case atStart => exact ⟨0, by omega, rfl, rfl, rfl⟩
  case round =>
    obtain ⟨i, hi, rfl, rfl, rfl⟩ := hrel
    by_cases hik : i < S.length
    · have hcell := HCL.out i hik
      obtain ⟨x, hx⟩ : ∃ x, x = S.getD i 0 := ⟨_, rfl⟩
      rw [← hx] at hcell
      have hx8 := x.toNat_lt
      have hii : (0 : Int) ≤ (i : Int) ∧ (i : Int) < (S.length : Int) ∧ (S.length : Int) ≤ 4 := by have := HL.out; omega
      have HST := Lib.hid (show ∀ q : Int, q % 18446744073709551616 = ((x.toNat * 256 ^ i : Nat) : Int) % 18446744073709551616 → bits .or .i64 (getI (S.take i)) q = getI (S.take (i + 1)) from fun q hq => by
        unfold getI
        rw [leN_take_succ S i hik, ← hx]
        refine or_up _ i x ?_ (by omega) q hq
        have h9 := leN_lt (S.take i)
        rwa [List.length_take, Nat.min_eq_left (by omega)] at h9)
      obtain ⟨G, hG⟩ : ∃ G, G = getI (S.take i) := ⟨_, rfl⟩
      rw [← hG] at HST ⊢
      clear hx hG
      go_wp2
      refine ⟨⟨i + 1, by omega, by go_num, ?_, trivial⟩, by simp [intOf]; omega⟩
      rw [HST.out (wrap64 ((x.toNat : Int) * 2 ^ (8 * i))) (by rw [wrap64_mod, p256]; simp)]
    · obtain rfl : i = S.length := by omega
      have HT := Lib.hid (show S.take S.length = S from List.take_of_length_le (Nat.le_refl _))
      rw [HT.out, HGS.out]
      go_wp2
      go_ret
      exact ⟨rfl, HB.out.ext HBW.out, HO.out.trans (Only.of_below [g] HBW.out)⟩
/-- is all behind a place 0? -/
def blankL (M : List UInt8) (a : Nat) : Bool := (M.drop a).all (· == 0)
theorem blankL_step (M : List UInt8) (a : Nat) (h : a < M.length) : blankL M a = (M.getD a 0 == 0 && blankL M (a + 1)) := by
  unfold blankL
  rw [List.drop_eq_getElem_cons h, List.all_cons, List.getD_eq_getElem?_getD, List.getElem?_eq_getElem h]; rfl
theorem pg_blank (g a : Nat) (M : List UInt8) (w : World) (h : BkAt w g M a) (ha : a ≤ 512) :
    Calls Try.prog 51 #[.pointer (some ⟨g, 0, none⟩)] w fun e w' => e = .returned (.bool (blankL M a)) ∧ BkAt w' g M a ∧ Only [] w w' := by
  have hc := h.cat
  have H := Lib.hid h
  have HL := Lib.hid h.len
  have hsl : ∀ W : World, (Instr.sliceAt 58 (.pointer (some ⟨g, 0, none⟩)) (some (.int .i64 (a : Int))) none none).run Try.prog W = .ok (.slice (fromA g a) (512 - a) (512 - a)) W := fun W => by
    have hal : Try.prog.arrayLen 58 = 512 := by kernel_rfl
    have hel : Try.prog.elem 58 = 5 := by kernel_rfl
    have h9 := run_sliceAt_array_l (P := Try.prog) W 58 ⟨g, 0, none⟩ (by kernel_rfl) .i64 (a : Int) (by omega) (by rw [hal]; omega)
    obtain ⟨i0, hi, hzz⟩ := Option.map_eq_some_iff.1 info_u8
    simp only [Prod.mk.injEq] at hzz
    rw [h9, hal, hel]
    by_cases h1 : a = 512
    · subst h1; simp [sizeOf, typeInfo, hi, hzz.2.1, slicedAt, fromA, Result.andThen]
    · have h2 : ¬ 512 = a := fun e => h1 e.symm
      simp [sizeOf, typeInfo, hi, hzz.2.1, slicedAt, fromA, Result.andThen, h1, h2, Addr.add_mid]
  have HRD := Lib.hid (h.from a (512 - a) (by omega))
  obtain ⟨t, ht⟩ : ∃ t, t = blankL M a := ⟨_, rfl⟩
  rw [← ht]
  have HT := Lib.hid ht
  have ha0 : (0 : Int) ≤ (a : Int) ∧ (a : Int) ≤ 512 := by omega
  obtain ⟨m, hm⟩ : ∃ m, m = 512 - a := ⟨_, rfl⟩
  rw [← hm] at hsl HRD
  have HM := Lib.hid hm
  have hm5 : m ≤ 512 := by omega
  clear h ht hm
  go_enter Try.func51, Try.ntmps51
  go_wp2_with fail
  go_quiet ((fail))
  go_wp2_with fail
  clear hc hsl
  go_loopw [4, 14] (fun _ x wx => ∃ i : Nat, i ≤ m ∧ x = .int .i64 i ∧ t = blankL M (a + i) ∧ wx = w.drewN nq) (fun _ x _ => m - (intOf x).toNat)
  case atStart => exact ⟨0, by omega, rfl, HT.out, rfl⟩
  case round =>
    obtain ⟨i, hi, rfl, hE, rfl⟩ := hrel
    have HE := Lib.hid hE
    clear hE
    by_cases him : i < m
    · obtain ⟨b9, o9, e9, hc9⟩ := HRD.out.at_ (by omega)
      unfold fromA at e9
      have hlt : a < 512 := by have := HM.out; omega
      rw [if_neg (by omega)] at e9
      injection e9 with e9
      injection e9 with e1 e2
      subst e1 e2
      have hcell : (w.drewN nq).cell? ⟨g, a + i, none⟩ = some (.int .u8 ((M.getD (a + i) 0).toNat : Int)) := H.out.cell (a + i) (by have := HM.out; omega)
      have hst := HE.out
      rw [blankL_step M (a + i) (by rw [HL.out]; have := HM.out; omega)] at hst
      have hfa : fromA g a = some ⟨g, a, none⟩ := by unfold fromA; rw [if_neg (by omega)]
      rw [hfa]
      obtain ⟨x, hx⟩ : ∃ x, x = M.getD (a + i) 0 := ⟨_, rfl⟩
      rw [← hx] at hcell hst
      have hii : (0 : Int) ≤ (i : Int) ∧ (i : Int) < (m : Int) := by omega
      clear hx hc9
      by_cases hx0 : x = 0
      · subst hx0
        have HST := Lib.hid (show t = blankL M (a + (i + 1)) by rw [← Nat.add_assoc]; simpa using hst)
        clear hst
        go_wp2
        go_roundw
        case rel => exact ⟨i + 1, by omega, by go_num, HST.out, trivial⟩
        case measure => simp [intOf]; omega
      · have HST := Lib.hid (show t = false by rw [hst, beq_eq_false_iff_ne.2 hx0]; rfl)
        have hxn : ((x.toNat : Int) != 0) = true := by
          have : x.toNat ≠ 0 := fun e => hx0 (UInt8.toNat_inj.1 (by rw [e]; rfl))
          simp; omega
        clear hst
        go_wp2
        go_ret
        exact ⟨by rw [HST.out]; rfl, ⟨H.out.row, H.out.len⟩, (Only.refl _ _).drewN _⟩
    · obtain rfl : i = m := by omega
      have HS := Lib.hid (show t = true by
        rw [HE.out]
        unfold blankL
        rw [List.drop_of_length_le (by rw [HL.out]; have := HM.out; omega)]; rfl)
      go_wp2
      go_ret
      exact ⟨by rw [HS.out]; rfl, ⟨H.out.row, H.out.len⟩, (Only.refl _ _).drewN _⟩
end Go.Proofs.Ytlandlgjhnnaiaa
