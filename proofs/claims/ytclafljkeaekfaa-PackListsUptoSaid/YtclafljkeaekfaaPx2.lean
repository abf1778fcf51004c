/- Walks of the methods of the reference's writer. -/
import Derived.Test.YtclafljkeaekfaaPx1
set_option linter.unusedVariables false
set_option linter.unusedSimpArgs false
namespace Go.Proofs.Ytclafljkeaekfaa
open Go.RowKit
section
variable (b base lim : Nat) (L : List UInt8) (v : Value) (e : Int) (w : World)
theorem px_WUint (x : Nat) (hx : x < 2 ^ 64) (h : IsX w b base lim L v e) :
    Calls Try.prog 53 #[.pointer (some ⟨b, 0, none⟩), .int .u64 x] w fun e1 w' => e1 = .returned (.tuple #[]) ∧ XPost w b base lim v (layL lim L e (nf x)) (layE lim L e (nf x)) w' := by
  have H := Lib.hid h
  have HX := Lib.hid hx
  clear h hx
  have hl10 := nf_length_le x
  go_enter Try.func53, Try.ntmps53
  go_wp2_with fail
  refine (px_Form' x HX.out w).mono ?_
  rintro e1 w1 ⟨A, c, rfl, hR, hS, hB⟩
  have HR := Lib.hid hR
  have HB := Lib.hid hB
  have HS := Lib.hid hS
  clear hR hB hS
  go_wp2_with fail
  refine (px_lay b base lim L v e A _ c _ w1 (H.out.ext HB.out) HR.out (fun p hp => H.out.sep (HS.out p hp))).mono ?_
  rintro e2 w2 ⟨rfl, hP⟩
  have HP := Lib.hid hP
  clear hP
  go_wp2
  go_end0
  exact ⟨rfl, XPost.after HB.out HP.out⟩
theorem px_WInt (x : Int) (hx : -9223372036854775808 ≤ x ∧ x < 9223372036854775808) (h : IsX w b base lim L v e) :
    Calls Try.prog 54 #[.pointer (some ⟨b, 0, none⟩), .int .i64 x] w fun e1 w' => e1 = .returned (.tuple #[]) ∧ XPost w b base lim v (layL lim L e (nf (zz x))) (layE lim L e (nf (zz x))) w' := by
  have H := Lib.hid h
  have HX := Lib.hid (zz_lt x hx.1 hx.2)
  clear h
  have hl10 := nf_length_le (zz x)
  go_enter Try.func54, Try.ntmps54
  go_wp2_with fail
  refine (px_Signed x hx.1 hx.2 w).mono ?_
  rintro e0 w0 ⟨rfl, rfl⟩
  go_wp2_with fail
  refine (px_Form' (zz x) HX.out _).mono ?_
  rintro e1 w1 ⟨A, c, rfl, hR, hS, hB⟩
  have HR := Lib.hid hR
  have HB := Lib.hid hB
  have HS := Lib.hid hS
  clear hR hB hS
  go_wp2_with fail
  refine (px_lay b base lim L v e A _ c _ w1 (H.out.ext HB.out) HR.out (fun p hp => H.out.sep (HS.out p hp))).mono ?_
  rintro e2 w2 ⟨rfl, hP⟩
  have HP := Lib.hid hP
  clear hP
  go_wp2
  go_end0
  exact ⟨rfl, XPost.after HB.out HP.out⟩
theorem lit_sep (w : World) (h : IsX w b base lim L v e) : ∀ p, some (⟨w.heap.size, 0, none⟩ : Addr) = some p → p.block ∉ b :: v.ownBlock.toList := fun p hp => by
  injection hp with hp
  subst hp
  exact h.sep (Nat.le_refl _)
theorem px_WByte (x : UInt8) (h : IsX w b base lim L v e) :
    Calls Try.prog 56 #[.pointer (some ⟨b, 0, none⟩), .int .u8 x.toNat] w fun e1 w' => e1 = .returned (.tuple #[]) ∧ XPost w b base lim v (layL lim L e [x]) (layE lim L e [x]) w' := by
  have H := Lib.hid h
  clear h
  go_enter Try.func56, Try.ntmps56
  go_wp2_with fail
  have hB : Below w.heap.size w (w.alloc (.cells #[.int .u8 x.toNat] 5)) := (Below.refl _ w).alloc (Nat.le_refl _) _
  refine (px_lay b base lim L v e _ 1 1 [x] _ (H.out.ext hB) (Rd.lit w [x] 1 rfl (by omega)) (lit_sep b base lim L v e w H.out)).mono ?_
  rintro e2 w2 ⟨rfl, hP⟩
  have HP := Lib.hid (XPost.after hB hP)
  clear hP hB
  go_wp2
  go_end0
  exact ⟨rfl, HP.out⟩
theorem px_WBool (x : Bool) (h : IsX w b base lim L v e) :
    Calls Try.prog 55 #[.pointer (some ⟨b, 0, none⟩), .bool x] w fun e1 w' => e1 = .returned (.tuple #[]) ∧ XPost w b base lim v (layL lim L e [if x then 1 else 0]) (layE lim L e [if x then 1 else 0]) w' := by
  have H := Lib.hid h
  clear h
  cases x
  · go_enter Try.func55, Try.ntmps55
    go_wp2_with fail
    have hB : Below w.heap.size w (w.alloc (.cells #[.int .u8 0] 5)) := (Below.refl _ w).alloc (Nat.le_refl _) _
    refine (px_lay b base lim L v e _ 1 1 [0] _ (H.out.ext hB) (Rd.lit w [0] 1 rfl (by omega)) (lit_sep b base lim L v e w H.out)).mono ?_
    rintro e2 w2 ⟨rfl, hP⟩
    have HP := Lib.hid (XPost.after hB hP)
    clear hP hB
    go_wp2
    go_end0
    exact ⟨rfl, HP.out⟩
  · go_enter Try.func55, Try.ntmps55
    go_wp2_with fail
    have hB : Below w.heap.size w (w.alloc (.cells #[.int .u8 1] 5)) := (Below.refl _ w).alloc (Nat.le_refl _) _
    refine (px_lay b base lim L v e _ 1 1 [1] _ (H.out.ext hB) (Rd.lit w [1] 1 rfl (by omega)) (lit_sep b base lim L v e w H.out)).mono ?_
    rintro e2 w2 ⟨rfl, hP⟩
    have HP := Lib.hid (XPost.after hB hP)
    clear hP hB
    go_wp2
    go_end0
    exact ⟨rfl, HP.out⟩
theorem px_WText (s : ByteArray) (hs : s.size ≤ 140737488355328) (h : IsX w b base lim L v e) :
    Calls Try.prog 57 #[.pointer (some ⟨b, 0, none⟩), .string s] w fun e1 w' => e1 = .returned (.tuple #[]) ∧ XPost w b base lim v (layL lim L e (nf s.size ++ s.data.toList)) (layE lim L e (nf s.size ++ s.data.toList)) w' := by
  have H := Lib.hid h
  clear h
  have hl10 := nf_length_le s.size
  have hsl := str_len s
  have HSL := Lib.hid hsl
  clear hsl
  go_enter Try.func57, Try.ntmps57
  go_wp2_with fail
  refine (px_Form s.size (by omega) w).mono ?_
  rintro e1 w1 ⟨u, rfl, hO, hB⟩
  obtain ⟨k, hk⟩ : ∃ k, k = (nf s.size).length := ⟨_, rfl⟩
  rw [← hk] at hO hl10
  have HO0 := Lib.hid hO
  have HB0 := Lib.hid hB
  have HK := Lib.hid hk
  clear hO hB hk
  go_wp2_with fail
  go_loopw [4, 5] (fun vs x wx => ∃ i : Nat, i ≤ s.size ∧ x = .int .i64 i ∧ Own wx w.heap.size vs (k + i) (nf s.size ++ s.data.toList.take i) ∧ Below w.heap.size w wx) (fun _ x _ => s.size - (intOf x).toNat)
  case atStart => exact ⟨0, by omega, rfl, by simpa using HO0.out, HB0.out⟩
  case round =>
    obtain ⟨i, hi, rfl, hO, hB⟩ := hrel
    have HO := Lib.hid hO
    have HB := Lib.hid hB
    have hz := hB.size
    clear hO hB
    by_cases hin : i < s.size
    · obtain ⟨x, hx⟩ : ∃ x, x = s[i] := ⟨_, rfl⟩
      have HT := Lib.hid (show s.data.toList.take (i + 1) = s.data.toList.take i ++ [s[i]] by rw [List.take_succ_eq_append_getElem (by simpa using hin)]; rfl)
      go_wp2_with (at_builtin; refine wp_appB (ys := [s[i]]) w.heap.size (HO.out.alloc _) (Rd.lit wr [s[i]] 1 rfl (by omega)) (by simp; omega) (by omega) _ _ rfl rfl rfl rfl ?_; intro v1 w1 hO1 hG1 hA1; have HO1 := Lib.hid hO1; have HG1 := Lib.hid hG1; clear hO1 hG1 hA1)
      go_roundw
      case rel => exact ⟨i + 1, by omega, by go_num, by rw [HT.out, ← List.append_assoc]; exact HO1.out, (HB.out.alloc HB.out.size _).grown HG1.out (by simp; omega) (fun q hq => (HO.out.blk q hq).1)⟩
      case measure => simp [intOf]; omega
    · obtain rfl : s.size = i := by omega
      have HT := Lib.hid (show s.data.toList.take s.size = s.data.toList from List.take_of_length_le (by rw [HSL.out]; exact Nat.le_refl _))
      have hO := HO.out
      rw [HT.out] at hO
      obtain ⟨A, c, rfl, hR⟩ := hO.rd (by omega)
      have HS := Lib.hid hO.sep
      have HR := Lib.hid hR
      clear hO hR
      go_wp2_with fail
      refine (px_lay b base lim L v e A _ c _ wr (H.out.ext HB.out) HR.out (fun p hp => H.out.sep (HS.out p hp))).mono ?_
      rintro e2 w2 ⟨rfl, hP⟩
      have HP := Lib.hid hP
      clear hP
      go_wp2
      go_end0
      exact ⟨rfl, XPost.after HB.out HP.out⟩
theorem px_WCount (x : Int) (hx : -9223372036854775808 ≤ x ∧ x < 9223372036854775808) (h : IsX w b base lim L v e) :
    Calls Try.prog 58 #[.pointer (some ⟨b, 0, none⟩), .int .i64 x] w fun e1 w' => e1 = .returned (.tuple #[]) ∧ XPost w b base lim v (layL lim L (cntE e x) (nf (cntN x))) (layE lim L (cntE e x) (nf (cntN x))) w' := by
  have H := Lib.hid h
  have c2 := h.c2
  have f2 := h.fz 2
  clear h
  have hcn : IntKind.u64.wrap x = ((cntN x : Nat) : Int) := by rw [u64_wrap]; unfold cntN; omega
  have HXY := Lib.hid (show 0 ≤ x → x = ((cntN x : Nat) : Int) from fun h => by unfold cntN; omega)
  have hl10 := nf_length_le (cntN x)
  have hlt : cntN x < 2 ^ 64 := by unfold cntN; omega
  have HLT := Lib.hid hlt
  clear hlt
  obtain ⟨y, hy⟩ : ∃ y, y = cntN x := ⟨_, rfl⟩
  rw [← hy] at hcn hl10 HLT HXY ⊢
  clear hy
  by_cases he : e = 0
  · subst he
    by_cases h1 : x < 0 ∨ 4096 < x
    · have HE := Lib.hid (show cntE 0 x = 1 by unfold cntE; rw [if_pos ⟨rfl, h1⟩])
      rcases h1 with h1 | h1
      all_goals (
        (try have h2 : ¬ x < 0 := by omega)
        go_enter Try.func58, Try.ntmps58
        go_wp2
        ((try simp only [Exit.inBlock, Exit.then]); refine bodyPost_ret (results_none rfl _ _ _) rfl ?_)
        refine ⟨by simp, ?_⟩
        rw [HE.out, (lay_stuck (by decide)).1, (lay_stuck (by decide)).2]
        exact XPost.from ((Only.refl _ w).setCell (p := ⟨b, 2, none⟩) (by simp) _) (XPost.same (H.out.setErr 1) (Only.refl _ _)))
    · have h1' : ¬ x < 0 := by omega
      have h2' : ¬ 4096 < x := by omega
      have HE := Lib.hid (show cntE 0 x = 0 by unfold cntE; rw [if_neg (fun h => h1 h.2)])
      obtain rfl := HXY.out (by omega)
      clear h1
      go_enter Try.func58, Try.ntmps58
      go_wp2_with fail
      refine (px_Form' y HLT.out _).mono ?_
      rintro e1 w1 ⟨A, c, rfl, hR, hS, hB⟩
      have HR := Lib.hid hR
      have HB := Lib.hid hB
      have HS := Lib.hid hS
      clear hR hB hS
      go_wp2_with fail
      refine (px_lay b base lim L v 0 A _ c _ w1 (H.out.ext HB.out) HR.out (fun p hp => H.out.sep (HS.out p hp))).mono ?_
      rintro e2 w2 ⟨rfl, hP⟩
      have HP := Lib.hid hP
      clear hP
      go_wp2
      go_end0
      refine ⟨rfl, ?_⟩
      rw [HE.out]
      exact XPost.after HB.out HP.out
  · have HE := Lib.hid (show cntE e x = e by unfold cntE; rw [if_neg (fun h => he h.1)])
    have he2 : (e == 0) = false := by simpa using he
    clear he
    go_enter Try.func58, Try.ntmps58
    go_wp2_with fail
    refine (px_Form' y HLT.out _).mono ?_
    rintro e1 w1 ⟨A, c, rfl, hR, hS, hB⟩
    have HR := Lib.hid hR
    have HB := Lib.hid hB
    have HS := Lib.hid hS
    clear hR hB hS
    go_wp2_with fail
    refine (px_lay b base lim L v e A _ c _ w1 (H.out.ext HB.out) HR.out (fun p hp => H.out.sep (HS.out p hp))).mono ?_
    rintro e2 w2 ⟨rfl, hP⟩
    have HP := Lib.hid hP
    clear hP
    go_wp2
    go_end0
    refine ⟨rfl, ?_⟩
    rw [HE.out]
    exact XPost.after HB.out HP.out
theorem px_WLen (h : IsX w b base lim L v e) :
    Calls Try.prog 60 #[.pointer (some ⟨b, 0, none⟩)] w fun e1 w' => e1 = .returned (.int .i64 L.length) ∧ w' = w := by
  have c0 := h.c0
  obtain ⟨A, c, rfl⟩ := h.slice
  clear h
  go_enter Try.func60, Try.ntmps60
  go_wp2
  go_ret
  simp
theorem px_WErr (h : IsX w b base lim L v e) :
    Calls Try.prog 61 #[.pointer (some ⟨b, 0, none⟩)] w fun e1 w' => e1 = .returned (.int .i64 e) ∧ w' = w := by
  have c2 := h.c2
  clear h
  go_enter Try.func61, Try.ntmps61
  go_wp2
  go_ret
  simp
theorem px_WOut_bad (he : e ≠ 0) (h : IsX w b base lim L v e) :
    Calls Try.prog 59 #[.pointer (some ⟨b, 0, none⟩)] w fun e1 w' => e1 = .returned (.tuple #[.slice none 0 0, .int .i64 e]) ∧ Only [] w w' := by
  have c2 := h.c2
  have he2 : (e != 0) = true := by simpa using he
  clear h he
  go_enter Try.func59, Try.ntmps59
  go_wp2_with fail
  go_quiet ((fail))
  go_wp2
  go_ret2
  exact ⟨by simp, (Only.refl _ _).drewN _⟩
theorem px_WOut_ok (h : IsX w b base lim L v 0) :
    Calls Try.prog 59 #[.pointer (some ⟨b, 0, none⟩)] w fun e1 w' => ∃ u, e1 = .returned (.tuple #[u, .int .i64 0]) ∧ Own w' w.heap.size u L.length L ∧ Below w.heap.size w w' := by
  have H := Lib.hid h
  have c0 := h.c0
  have c2 := h.c2
  have hsm := h.small
  have hmo := h.most
  obtain ⟨A, c, rfl, hR⟩ := h.own.rd (by omega)
  have HR := Lib.hid hR
  obtain ⟨n, hn⟩ : ∃ n, n = L.length := ⟨_, rfl⟩
  have hll : n ≤ 1048576 := by omega
  have HN := Lib.hid hn
  rw [← hn] at c0 HR ⊢
  clear h hR hn hsm hmo
  go_enter Try.func59, Try.ntmps59
  go_wp2_with fail
  go_loopw [4, 5] (fun vs x wx => ∃ i : Nat, i ≤ n ∧ x = .int .i64 i ∧ Own wx w.heap.size vs i (L.take i) ∧ Below w.heap.size w wx) (fun _ x _ => n - (intOf x).toNat)
  case atStart => exact ⟨0, by omega, rfl, Own.nil _ _, Below.refl _ _⟩
  case round =>
    obtain ⟨i, hi, rfl, hO, hB⟩ := hrel
    have HO := Lib.hid hO
    have HB := Lib.hid hB
    have hz := hB.size
    have g0 := cell_ext hB c0
    clear hO hB
    by_cases hin : i < n
    · obtain ⟨bb, oo, rfl, hc⟩ := HR.out.at_ (by omega)
      have hci := cell_ext HB.out (hc i hin)
      obtain ⟨x, hx⟩ : ∃ x, x = L.getD i 0 := ⟨_, rfl⟩
      rw [← hx] at hci
      have HT := Lib.hid (show L.take (i + 1) = L.take i ++ [x] by rw [hx]; exact take_snoc L i 0 (by rw [← HN.out]; exact hin))
      clear hc hx
      go_wp2_with (at_builtin; refine wp_appB w.heap.size (HO.out.alloc _) (Rd.lit wr [x] 1 rfl (by omega)) (by simp; omega) (by omega) _ _ rfl rfl rfl rfl ?_; intro v1 w1 hO1 hG1 hA1; have HO1 := Lib.hid hO1; have HG1 := Lib.hid hG1; clear hO1 hG1 hA1)
      go_roundw
      case rel => exact ⟨i + 1, by omega, by go_num, by rw [HT.out]; exact HO1.out, (HB.out.alloc HB.out.size _).grown HG1.out (by simp; omega) (fun q hq => (HO.out.blk q hq).1)⟩
      case measure => simp [intOf]; omega
    · obtain rfl : n = i := by omega
      have HT := Lib.hid (show L.take n = L from List.take_of_length_le (by rw [HN.out]; exact Nat.le_refl _))
      go_wp2
      go_ret2
      refine ⟨_, rfl, ?_, HB.out⟩
      rw [← HT.out]; exact HO.out
end
theorem newX (k lim : Nat) (hk : k = lim) (hl : lim ≤ 1048576) (w : World) : IsX (w.alloc (.cells #[.slice none 0 0, .int .i64 k, .int .i64 0] 85)) w.heap.size (w.heap.size + 1) lim [] (.slice none 0 0) 0 ∧ Below w.heap.size w (w.alloc (.cells #[.slice none 0 0, .int .i64 k, .int .i64 0] 85)) := by
  subst hk
  exact ⟨⟨heap_alloc_new w _, Own.nil _ _, by omega, by simp, by simp, hl⟩, (Below.refl _ w).alloc (Nat.le_refl _) _⟩
theorem px_NewWriter (x : Int) (w : World) :
    Calls Try.prog 19 #[.int .i64 x] w fun e1 w' => e1 = .returned (.pointer (some ⟨w.heap.size, 0, none⟩)) ∧ IsX w' w.heap.size (w.heap.size + 1) (clampW x) [] (.slice none 0 0) 0 ∧ Below w.heap.size w w' := by
  by_cases h1 : x < 0
  · have HN := Lib.hid (newX 0 (clampW x) (by unfold clampW; omega) (by unfold clampW; omega) w)
    have h2 : x < 1048576 := by omega
    go_enter Try.func19, Try.ntmps19
    go_wp2
    all_goals (go_ret; exact ⟨by simp, HN.out⟩)
  · obtain ⟨k, rfl⟩ := Int.eq_ofNat_of_zero_le (show 0 ≤ x by omega)
    by_cases h2 : (1048576 : Int) < (k : Int)
    · have HN := Lib.hid (newX 1048576 (clampW k) (by unfold clampW; omega) (by unfold clampW; omega) w)
      go_enter Try.func19, Try.ntmps19
      go_wp2
      all_goals (go_ret; exact ⟨by simp, HN.out⟩)
    · by_cases h4 : k = 0
      · have HN := Lib.hid (newX 0 (clampW k) (by unfold clampW; omega) (by unfold clampW; omega) w)
        have h5 : (k : Int) ≤ 0 ∧ 0 ≤ (k : Int) := by omega
        obtain rfl := h4
        go_enter Try.func19, Try.ntmps19
        go_wp2
        all_goals (go_ret; exact ⟨by simp, HN.out⟩)
      · have h3 : (k : Int) ≤ 1048576 ∧ (0 : Int) < (k : Int) := by omega
        have HN := Lib.hid (newX k (clampW k) (by unfold clampW; omega) (by unfold clampW; omega) w)
        go_enter Try.func19, Try.ntmps19
        go_wp2
        all_goals (go_ret; exact ⟨by simp, HN.out⟩)
end Go.Proofs.Ytclafljkeaekfaa
