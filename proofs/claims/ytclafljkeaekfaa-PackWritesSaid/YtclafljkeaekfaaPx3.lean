/- Walk of the laws' layRef. -/
import Derived.Test.YtclafljkeaekfaaPx2
import Derived.Test.YtclafljkeaekfaaPk6
set_option linter.unusedVariables false
set_option linter.unusedSimpArgs false
set_option maxRecDepth 100000
namespace Go.Proofs.Ytclafljkeaekfaa
open Go.RowKit
theorem l2_layRef (b base lim : Nat) (L : List UInt8) (v : Value) (e : Int) (x : ValV) (hx : x.ok) (w : World) (h : IsX w b base lim L v e) :
    Calls Try.prog 21 #[.pointer (some ⟨b, 0, none⟩), x.val] w fun e1 w' => e1 = .returned (.tuple #[]) ∧ XPost w b base lim v (stL lim L e x) (stE lim L e x) w' := by
  obtain ⟨k, u, i, s⟩ := x
  have H := Lib.hid h
  have HX := Lib.hid hx
  clear h hx
  unfold ValV.val
  dsimp only
  have hB : Below w.heap.size w (w.alloc (.cells #[.int .i64 k, .int .u64 u, .int .i64 i, .string s] 27)) := (Below.refl _ w).alloc (Nat.le_refl _) _
  have HB := Lib.hid hB
  clear hB
  by_cases h0 : k = 0
  · have HE := Lib.hid (show stL lim L e ⟨k, u, i, s⟩ = layL lim L e (nf u) ∧ stE lim L e ⟨k, u, i, s⟩ = layE lim L e (nf u) by subst h0; exact ⟨rfl, rfl⟩)
    have q0 : (k == 0) = true := by simpa using h0
    clear h0
    go_enter Try.func21, Try.ntmps21
    go_wp2_with fail
    refine (px_WUint b base lim L v e _ u HX.out.u (H.out.ext HB.out)).mono ?_
    rintro e1 w1 ⟨rfl, hP⟩
    have HP := Lib.hid (XPost.after HB.out hP)
    clear hP
    go_wp2
    go_end0
    rw [HE.out.1, HE.out.2]
    exact ⟨rfl, HP.out⟩
  by_cases h1 : k = 1
  · have HE := Lib.hid (show stL lim L e ⟨k, u, i, s⟩ = layL lim L e (nf (zz i)) ∧ stE lim L e ⟨k, u, i, s⟩ = layE lim L e (nf (zz i)) by subst h1; exact ⟨rfl, rfl⟩)
    have q0 : (k == 0) = false := by simpa using h0
    have q1 : (k == 1) = true := by simpa using h1
    clear h0 h1
    go_enter Try.func21, Try.ntmps21
    go_wp2_with fail
    refine (px_WInt b base lim L v e _ i HX.out.i (H.out.ext HB.out)).mono ?_
    rintro e1 w1 ⟨rfl, hP⟩
    have HP := Lib.hid (XPost.after HB.out hP)
    clear hP
    go_wp2
    go_end0
    rw [HE.out.1, HE.out.2]
    exact ⟨rfl, HP.out⟩
  by_cases h2 : k = 2
  · have HE := Lib.hid (show stL lim L e ⟨k, u, i, s⟩ = layL lim L e [if i ≠ 0 then 1 else 0] ∧ stE lim L e ⟨k, u, i, s⟩ = layE lim L e [if i ≠ 0 then 1 else 0] by subst h2; exact ⟨rfl, rfl⟩)
    have q0 : (k == 0) = false := by simpa using h0
    have q1 : (k == 1) = false := by simpa using h1
    have q2 : (k == 2) = true := by simpa using h2
    have HQ := Lib.hid (show [if (i != 0) then (1 : UInt8) else 0] = [if i ≠ 0 then 1 else 0] by simp)
    clear h0 h1 h2
    obtain ⟨t, ht⟩ : ∃ t, t = (i != 0) := ⟨_, rfl⟩
    rw [← ht] at HQ
    go_enter Try.func21, Try.ntmps21
    go_wp2_with fail
    rw [← ht]
    refine (px_WBool b base lim L v e _ t (H.out.ext HB.out)).mono ?_
    rintro e1 w1 ⟨rfl, hP⟩
    rw [HQ.out] at hP
    have HP := Lib.hid (XPost.after HB.out hP)
    clear hP
    go_wp2
    go_end0
    rw [HE.out.1, HE.out.2]
    exact ⟨rfl, HP.out⟩
  by_cases h3 : k = 3
  · have HE := Lib.hid (show stL lim L e ⟨k, u, i, s⟩ = layL lim L e [UInt8.ofNat u] ∧ stE lim L e ⟨k, u, i, s⟩ = layE lim L e [UInt8.ofNat u] by subst h3; exact ⟨rfl, rfl⟩)
    have q0 : (k == 0) = false := by simpa using h0
    have q1 : (k == 1) = false := by simpa using h1
    have q2 : (k == 2) = false := by simpa using h2
    have q3 : (k == 3) = true := by simpa using h3
    clear h0 h1 h2 h3
    obtain ⟨cc, hcc⟩ : ∃ cc, cc = UInt8.ofNat u := ⟨_, rfl⟩
    have hu : (u : Int) % 256 = (cc.toNat : Int) := by rw [hcc]; simp
    rw [← hcc] at HE
    clear hcc
    go_enter Try.func21, Try.ntmps21
    go_wp2_with fail
    refine (px_WByte b base lim L v e _ cc (H.out.ext HB.out)).mono ?_
    rintro e1 w1 ⟨rfl, hP⟩
    have HP := Lib.hid (XPost.after HB.out hP)
    clear hP
    go_wp2
    go_end0
    rw [HE.out.1, HE.out.2]
    exact ⟨rfl, HP.out⟩
  by_cases h4 : k = 4
  · have HE := Lib.hid (show stL lim L e ⟨k, u, i, s⟩ = layL lim L e (nf s.size ++ s.data.toList) ∧ stE lim L e ⟨k, u, i, s⟩ = layE lim L e (nf s.size ++ s.data.toList) by subst h4; exact ⟨rfl, rfl⟩)
    have q0 : (k == 0) = false := by simpa using h0
    have q1 : (k == 1) = false := by simpa using h1
    have q2 : (k == 2) = false := by simpa using h2
    have q3 : (k == 3) = false := by simpa using h3
    have q4 : (k == 4) = true := by simpa using h4
    clear h0 h1 h2 h3 h4
    go_enter Try.func21, Try.ntmps21
    go_wp2_with fail
    refine (px_WText b base lim L v e _ s HX.out.s (H.out.ext HB.out)).mono ?_
    rintro e1 w1 ⟨rfl, hP⟩
    have HP := Lib.hid (XPost.after HB.out hP)
    clear hP
    go_wp2
    go_end0
    rw [HE.out.1, HE.out.2]
    exact ⟨rfl, HP.out⟩
  by_cases h5 : k = 5
  · have HE := Lib.hid (show stL lim L e ⟨k, u, i, s⟩ = layL lim L (cntE e i) (nf (cntN i)) ∧ stE lim L e ⟨k, u, i, s⟩ = layE lim L (cntE e i) (nf (cntN i)) by subst h5; exact ⟨rfl, rfl⟩)
    have q0 : (k == 0) = false := by simpa using h0
    have q1 : (k == 1) = false := by simpa using h1
    have q2 : (k == 2) = false := by simpa using h2
    have q3 : (k == 3) = false := by simpa using h3
    have q4 : (k == 4) = false := by simpa using h4
    have q5 : (k == 5) = true := by simpa using h5
    clear h0 h1 h2 h3 h4 h5
    go_enter Try.func21, Try.ntmps21
    go_wp2_with fail
    refine (px_WCount b base lim L v e _ i HX.out.i (H.out.ext HB.out)).mono ?_
    rintro e1 w1 ⟨rfl, hP⟩
    have HP := Lib.hid (XPost.after HB.out hP)
    clear hP
    go_wp2
    go_end0
    rw [HE.out.1, HE.out.2]
    exact ⟨rfl, HP.out⟩
  · have HE := Lib.hid (show stL lim L e ⟨k, u, i, s⟩ = L ∧ stE lim L e ⟨k, u, i, s⟩ = e by
      have hf : form ⟨k, u, i, s⟩ = [] := by
        unfold form
        rw [if_neg h0, if_neg h1, if_neg h2, if_neg h3, if_neg h4, if_neg h5]
      have hp : preE e ⟨k, u, i, s⟩ = e := if_neg h5
      unfold stL stE
      rw [hf, hp]
      exact lay_nil H.out.small)
    have q0 : (k == 0) = false := by simpa using h0
    have q1 : (k == 1) = false := by simpa using h1
    have q2 : (k == 2) = false := by simpa using h2
    have q3 : (k == 3) = false := by simpa using h3
    have q4 : (k == 4) = false := by simpa using h4
    have q5 : (k == 5) = false := by simpa using h5
    clear h0 h1 h2 h3 h4 h5
    go_enter Try.func21, Try.ntmps21
    go_wp2
    go_end0
    rw [HE.out.1, HE.out.2]
    exact ⟨by simp, XPost.same H.out (Only.of_below [] HB.out)⟩
end Go.Proofs.Ytclafljkeaekfaa
