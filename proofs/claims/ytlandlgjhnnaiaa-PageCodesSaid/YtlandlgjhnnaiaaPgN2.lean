/- The reference's number and text beside rows of memory. -/
import Derived.Test.YtlandlgjhnnaiaaPgN1
import Derived.Test.YtlandlgjhnnaiaaRw
set_option linter.unusedVariables false
set_option linter.unusedSimpArgs false
set_option maxRecDepth 100000
namespace Go.Proofs.Ytlandlgjhnnaiaa
open Go.RowKit SumMath
theorem info_u8_parts : ∃ i : TypeInfo, Try.prog.info? 5 = some i ∧ i.zero = some (.int .u8 0) ∧ i.size = 1 ∧ i.bytes = 1 := by
  obtain ⟨i0, hi, hzz⟩ := Option.map_eq_some_iff.1 info_u8
  simp only [Prod.mk.injEq] at hzz
  exact ⟨i0, hi, hzz.1, hzz.2.1, hzz.2.2⟩
/-- bytes of the call's own, in one block or nil -/
def QB (v : Value) (k : Nat) (L : List UInt8) (Q : List (Nat × Obj)) : Prop := QV 5 1 v k (bv L) Q
theorem QB.len {v : Value} {k : Nat} {L : List UInt8} {Q : List (Nat × Obj)} (h : QB v k L Q) : L.length = k := by
  rcases h with ⟨_, rfl, h, _⟩ | ⟨_, _, _, _, _, hr⟩
  · have := congrArg List.length h
    simpa [bv_length] using this
  · obtain ⟨cur, _, h1, _⟩ := hr
    rw [bv_length] at h1; omega
/-- append(v, bytes..) of bytes in a new box -/
theorem Rw.appB {w0 w : World} {P Q T : List (Nat × Obj)} {v : Value} {k : Nat} {L : List UInt8} (hS : Rw w0 w (P ++ (Q ++ T))) (hQ : QB v k L Q) (X : List UInt8) (hx : 0 < X.length) (hl : k + X.length ≤ 1000000000) :
    ∃ A c w1 Q1, (Builtin.append_ #[31, 31] 31 #[v, .slice (some ⟨w.heap.size, 0, none⟩) X.length X.length]).run Try.prog (w.alloc (.cells (bv X).toArray 5)) = .ok (.slice A (k + X.length) c) w1 ∧ QB (.slice A (k + X.length) c) (k + X.length) (L ++ X) Q1 ∧ Rw w0 w1 (P ++ (Q1 ++ T)) := by
  obtain ⟨i, hi, h0, h1, h2⟩ := info_u8_parts
  have hM := hS.made (.cells (bv X).toArray 5)
  have hM2 : Rw w0 (w.alloc (.cells (bv X).toArray 5)) (((w.heap.size, .cells (bv X).toArray 5 (0, 0)) :: P) ++ (Q ++ T)) := hM
  obtain ⟨v1, w1, Q1, hrun, hq1, hS1⟩ := Rw.run_appQm Try.underlying31 hi h0 h1 h2 rfl (by decide) 31 X.length hx hM2 hQ (bv X) (by rw [bv_length]; omega) (bv_one X) (by omega) (by simp only [maxLen]; omega) w.heap.size (hM.get 0 rfl)
  obtain ⟨A, c, rfl⟩ := hq1.slice
  refine ⟨A, c, w1, Q1, hrun, ?_, ?_⟩
  · unfold QB; rw [bv_append]; exact hq1
  · have hS2 : Rw w0 w1 ((w.heap.size, .cells (bv X).toArray 5 (0, 0)) :: (P ++ (Q1 ++ T))) := hS1
    exact hS2.sub (List.sublist_cons_self _ _)
theorem rq_number {w0 w : World} {P Q T : List (Nat × Obj)} {v : Value} {k : Nat} {L : List UInt8} (n : Int) (hS : Rw w0 w (P ++ (Q ++ T))) (hQ : QB v k L Q) (hk : k ≤ 100000000) :
    Calls Try.prog 42 #[v, .int .i64 n] w fun e w' => ∃ A c Q1, e = .returned (.slice A (k + 4) c) ∧ QB (.slice A (k + 4) c) (k + 4) (L ++ leB 4 n) Q1 ∧ Rw w0 w' (P ++ (Q1 ++ T)) := by
  obtain ⟨A1, c1, w1, Q1, hrun, hq1, hS1⟩ := hS.appB hQ [b8 n, b8 (n / 256), b8 (n / 65536), b8 (n / 16777216)] (by simp) (by simp; omega)
  have HRUN := Lib.hid hrun
  have HQ1 := Lib.hid hq1
  have HS1 := Lib.hid hS1
  obtain ⟨A0, c0, rfl⟩ := QV.slice hQ
  have hbw := b8_wrap
  have HL := Lib.hid (leB_four n)
  clear hS hQ hrun hq1 hS1
  go_enter Try.func42, Try.ntmps42
  go_wp2_with (at_builtin; refine wpl_app _ _ rfl rfl rfl rfl HRUN.out ?_; clear HRUN)
  go_ret
  exact ⟨A1, c1, Q1, rfl, by rw [HL.out]; exact HQ1.out, HS1.out⟩
theorem rq_text {w0 w : World} {P Q T : List (Nat × Obj)} {v : Value} {k : Nat} {L : List UInt8} (s : ByteArray) (hS : Rw w0 w (P ++ (Q ++ T))) (hQ : QB v k L Q) (hk : k ≤ 100000000) (hs : s.size ≤ 100000000) :
    Calls Try.prog 41 #[v, .string s] w fun e w' => ∃ A c Q1, e = .returned (.slice A (k + s.size) c) ∧ QB (.slice A (k + s.size) c) (k + s.size) (L ++ byS s) Q1 ∧ Rw w0 w' (P ++ (Q1 ++ T)) := by
  have HS0 := Lib.hid hS
  have HQ0 := Lib.hid hQ
  have HBS := Lib.hid (byS_len s)
  obtain ⟨S, hS'⟩ : ∃ S, S = byS s := ⟨_, rfl⟩
  rw [← hS'] at HBS ⊢
  have HIX := Lib.hid (show ∀ i (hi : i < s.size), S.getD i 0 = s[i]'hi from fun i hi => by
    have h2 : i < s.data.size := hi
    rw [hS', byS, List.getD_eq_getElem?_getD, Array.getElem?_toList, Array.getElem?_eq_getElem h2]
    rfl)
  clear hS hQ hS'
  go_enter Try.func41, Try.ntmps41
  go_wp2_with fail
  go_loopw [0, 5] (fun u x wx => ∃ i : Nat, i ≤ s.size ∧ x = .int .i64 i ∧ ∃ Q1, QB u (k + i) (L ++ S.take i) Q1 ∧ Rw w0 wx (P ++ (Q1 ++ T))) (fun _ x _ => s.size - (intOf x).toNat)
  case atStart => exact ⟨0, by omega, rfl, Q, by rw [List.take_zero, List.append_nil]; exact HQ0.out, HS0.out⟩
  case round =>
    obtain ⟨i, hi, rfl, Qi, hQ, hS⟩ := hrel
    have HQi := Lib.hid hQ
    have HSi := Lib.hid hS
    obtain ⟨A0, c0, rfl⟩ := QV.slice hQ
    clear hQ hS
    by_cases hin : i < s.size
    · have hi0 : (0 : Int) ≤ (i : Int) ∧ (i : Int) < (s.size : Int) := by omega
      have HST := Lib.hid (show L ++ S.take (i + 1) = (L ++ S.take i) ++ [S.getD i 0] by rw [take_snoc S i 0 (by rw [HBS.out]; exact hin), List.append_assoc])
      rw [HIX.out i hin] at HST
      obtain ⟨A1, c1, w1, Q1, hrun, hq1, hS1⟩ := HSi.out.appB HQi.out [s[i]] (by simp) (by simp; omega)
      have HRUN := Lib.hid hrun
      have HQ1 := Lib.hid hq1
      have HS1 := Lib.hid hS1
      clear hrun hq1 hS1
      go_wp2_with (at_builtin; refine wpl_app _ _ rfl rfl rfl rfl HRUN.out ?_; clear HRUN)
      go_roundw
      case rel => exact ⟨i + 1, by omega, by go_num, Q1, by rw [HST.out, ← Nat.add_assoc]; exact HQ1.out, HS1.out⟩
      case measure => simp [intOf]; omega
    · obtain rfl : i = s.size := by omega
      have HT := Lib.hid (show S.take s.size = S from List.take_of_length_le (by rw [HBS.out]; exact Nat.le_refl _))
      rw [HT.out] at HQi
      go_wp2
      go_ret
      exact ⟨_, _, _, rfl, HQi.out, HSi.out⟩
end Go.Proofs.Ytlandlgjhnnaiaa
