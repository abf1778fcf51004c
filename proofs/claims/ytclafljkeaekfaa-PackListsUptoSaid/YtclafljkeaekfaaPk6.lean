/- Walks of the laws' helpers: fixed, lay. -/
import Derived.Test.YtclafljkeaekfaaPk5
set_option linter.unusedVariables false
set_option linter.unusedSimpArgs false
set_option maxRecDepth 100000
namespace Go.Proofs.Ytclafljkeaekfaa
open Go.RowKit
theorem WPost.below {w w' : World} {B b base lim : Nat} {L L' : List UInt8} {v : Value} {e e' : Int} (hw : IsW w b base lim L v e) (hP : WPost w b base lim v L' e' w') (hB : B ≤ b) : Below B w w' := by
  obtain ⟨v', h1, h2, h3⟩ := hP
  refine h2.below (by have := hw.lt; have := hw.le; omega) ?_
  intro k hk
  simp at hk
  rcases hk with rfl | hk
  · exact hB
  · have := (hw.own.blk k hk).1
    have := hw.lt
    omega
theorem WPost.isW {w w' : World} {b base lim : Nat} {L' : List UInt8} {v : Value} {e' : Int} (hP : WPost w b base lim v L' e' w') : ∃ v', IsW w' b base lim L' v' e' := by
  obtain ⟨v', h1, h2, h3⟩ := hP
  exact ⟨v', h1⟩
theorem l2_fixed (w : World) : Calls Try.prog 13 #[] w fun e w' => e = .returned (.bool true) ∧ Below w.heap.size w w' := by
  go_enter Try.func13, Try.ntmps13
  go_wp2_with fail
  refine (pk_NewWriter 64 w).mono ?_
  rintro e w1 ⟨rfl, hW, hB⟩
  rw [show clampW 64 = 64 by decide] at hW
  obtain ⟨b, hb⟩ : ∃ b, b = w.heap.size := ⟨_, rfl⟩
  rw [← hb] at hW ⊢
  have HW := Lib.hid hW
  have HB := Lib.hid hB
  have HBB := Lib.hid hb
  clear hW hB hb
  go_wp2_with fail
  refine (pk_WUint b _ _ _ _ _ w1 300 (by decide) HW.out).mono ?_
  rintro e w2 ⟨rfl, hP⟩
  rw [show layL 64 [] 0 (nf 300) = [172, 2] by decide, show layE 64 [] 0 (nf 300) = 0 by decide] at hP
  have hB2 := WPost.below (B := w.heap.size) HW.out hP (by rw [HBB.out]; omega)
  obtain ⟨v2, hW2⟩ := hP.isW
  have HW2 := Lib.hid hW2
  have HB2 := Lib.hid (HB.out.trans hB2)
  clear hP hB2 hW2
  go_wp2_with fail
  refine (pk_WText b _ _ _ _ _ w2 ⟨#[97, 98, 99]⟩ (by decide) HW2.out).mono ?_
  rintro e w3 ⟨rfl, hP⟩
  rw [show layL 64 [172, 2] 0 (nf (ByteArray.mk #[97, 98, 99]).size ++ (ByteArray.mk #[97, 98, 99]).data.toList) = [172, 2, 3, 97, 98, 99] by decide, show layE 64 [172, 2] 0 (nf (ByteArray.mk #[97, 98, 99]).size ++ (ByteArray.mk #[97, 98, 99]).data.toList) = 0 by decide] at hP
  have hB3 := WPost.below (B := w.heap.size) HW2.out hP (by rw [HBB.out]; omega)
  obtain ⟨v3, hW3⟩ := hP.isW
  have HW3 := Lib.hid hW3
  have HB3 := Lib.hid (HB2.out.trans hB3)
  clear hP hB3 hW3
  go_wp2_with fail
  refine (pk_WOut_ok b _ _ _ _ w3 HW3.out).mono ?_
  rintro e w4 ⟨u, rfl, hO, hB⟩
  obtain ⟨A4, c4, rfl, hR4⟩ := hO.rd (by decide)
  have HR4 := Lib.hid hR4
  have HB4 := Lib.hid (HB3.out.trans (hB.mono HB3.out.size))
  clear hO hR4 hB
  go_wp2_with fail
  refine (pk_NewReader A4 _ c4 _ w4 HR4.out).mono ?_
  rintro e w5 ⟨b5, A5, c5, rfl, hI, hb5, hB, -⟩
  have HI5 := Lib.hid hI
  have hR5 := HR4.out.ext hB
  have hstr : (convert 28 9 (.slice A4 6 c4)).run Try.prog w5 = .ok (.string (bstr [172, 2, 3, 97, 98, 99])) w5 := hR5.str
  have HB5 := Lib.hid (HB4.out.trans (hB.mono HB4.out.size))
  have hb5w : w.heap.size ≤ b5 := Nat.le_trans HB4.out.size hb5
  have hlit : bstr [172, 2, 3, 97, 98, 99] = ⟨#[172, 2, 3, 97, 98, 99]⟩ := rfl
  clear hI hB hR5 hb5
  go_wp2_with fail
  refine (pk_RUint b5 A5 _ c5 _ 0 0 w5 HI5.out).mono ?_
  rintro e w6 ⟨rfl, hI, hO⟩
  rw [show rU [172, 2, 3, 97, 98, 99] 0 0 = (300, 2, 0) by decide] at hI ⊢
  have HI6 := Lib.hid hI
  have HB6 := Lib.hid (HB5.out.trans (hO.below HB5.out.size (by simp; omega)))
  clear hI hO hstr
  go_wp2_with fail
  refine (pk_RText b5 A5 _ c5 _ 2 0 w6 3 (by omega) HI6.out).mono ?_
  rintro e w7 ⟨rfl, hI, hO⟩
  rw [show rT [172, 2, 3, 97, 98, 99] 2 0 3 = ([97, 98, 99], 6, 0) by decide] at hI ⊢
  have HI7 := Lib.hid hI
  have HB7 := Lib.hid (HB6.out.trans (hO.below HB6.out.size (by simp; omega)))
  have hlit2 : bstr [97, 98, 99] = ⟨#[97, 98, 99]⟩ := rfl
  clear hI hO
  go_wp2_with fail
  refine (pk_REnd b5 A5 _ c5 _ 6 0 w7 HI7.out).mono ?_
  rintro e w8 ⟨rfl, hI, hO⟩
  rw [show rE ([172, 2, 3, 97, 98, 99] : List UInt8).length 6 0 = 0 by decide]
  have HB8 := Lib.hid (HB7.out.trans (hO.below HB7.out.size (by simp; omega)))
  clear hI hO
  go_wp2
  go_ret
  exact ⟨rfl, HB8.out⟩
/-- a value -/
structure ValV where
  kind : Int
  u : Nat
  i : Int
  s : ByteArray
  deriving Inhabited
def ValV.val (x : ValV) : Value := .agg #[.int .i64 x.kind, .int .u64 x.u, .int .i64 x.i, .string x.s]
structure ValV.ok (x : ValV) : Prop where
  u : x.u < 18446744073709551616
  i : -9223372036854775808 ≤ x.i ∧ x.i < 9223372036854775808
  s : x.s.size ≤ 140737488355328
def form (x : ValV) : List UInt8 :=
  if x.kind = 0 then nf x.u else if x.kind = 1 then nf (zz x.i) else if x.kind = 2 then [if x.i ≠ 0 then 1 else 0] else if x.kind = 3 then [UInt8.ofNat x.u]
  else if x.kind = 4 then nf x.s.size ++ x.s.data.toList else if x.kind = 5 then nf (cntN x.i) else []
def preE (e : Int) (x : ValV) : Int := if x.kind = 5 then cntE e x.i else e
def stL (lim : Nat) (L : List UInt8) (e : Int) (x : ValV) : List UInt8 := layL lim L (preE e x) (form x)
def stE (lim : Nat) (L : List UInt8) (e : Int) (x : ValV) : Int := layE lim L (preE e x) (form x)
theorem lay_nil {lim : Nat} {L : List UInt8} {e : Int} (h : L.length ≤ lim) : layL lim L e [] = L ∧ layE lim L e [] = e := by
  unfold layL layE
  constructor
  · split
    · simp
    · rfl
  · rw [if_neg (fun h' => h'.2 (by simpa using h))]
set_option maxHeartbeats 2000000 in
theorem l2_lay (b base lim : Nat) (L : List UInt8) (v : Value) (e : Int) (x : ValV) (hx : x.ok) (w : World) (h : IsW w b base lim L v e) :
    Calls Try.prog 20 #[.pointer (some ⟨b, 0, none⟩), x.val] w fun e1 w' => e1 = .returned (.tuple #[]) ∧ WPost w b base lim v (stL lim L e x) (stE lim L e x) w' := by
  obtain ⟨k, u, i, s⟩ := x
  have H := Lib.hid h
  have HX := Lib.hid hx
  clear h hx
  unfold ValV.val
  dsimp only
  have hB : Below w.heap.size w (w.alloc (.cells #[.int .i64 k, .int .u64 u, .int .i64 i, .string s] 27)) := (Below.refl _ w).alloc (Nat.le_refl _) _
  have HB := Lib.hid hB
  clear hB
  by_cases h0 : k = 0
  · have HE := Lib.hid (show stL lim L e ⟨k, u, i, s⟩ = layL lim L e (nf u) ∧ stE lim L e ⟨k, u, i, s⟩ = layE lim L e (nf u) by subst h0; exact ⟨rfl, rfl⟩)
    have q0 : (k == 0) = true := by simpa using h0
    clear h0
    go_enter Try.func20, Try.ntmps20
    go_wp2_with fail
    refine (pk_WUint b base lim L v e _ u HX.out.u (H.out.ext HB.out)).mono ?_
    rintro e1 w1 ⟨rfl, hP⟩
    have HP := Lib.hid (WPost.after HB.out hP)
    clear hP
    go_wp2
    go_end0
    rw [HE.out.1, HE.out.2]
    exact ⟨rfl, HP.out⟩
  by_cases h1 : k = 1
  · have HE := Lib.hid (show stL lim L e ⟨k, u, i, s⟩ = layL lim L e (nf (zz i)) ∧ stE lim L e ⟨k, u, i, s⟩ = layE lim L e (nf (zz i)) by subst h1; exact ⟨rfl, rfl⟩)
    have q0 : (k == 0) = false := by simpa using h0
    have q1 : (k == 1) = true := by simpa using h1
    clear h0 h1
    go_enter Try.func20, Try.ntmps20
    go_wp2_with fail
    refine (pk_WInt b base lim L v e _ i HX.out.i (H.out.ext HB.out)).mono ?_
    rintro e1 w1 ⟨rfl, hP⟩
    have HP := Lib.hid (WPost.after HB.out hP)
    clear hP
    go_wp2
    go_end0
    rw [HE.out.1, HE.out.2]
    exact ⟨rfl, HP.out⟩
  by_cases h2 : k = 2
  · have HE := Lib.hid (show stL lim L e ⟨k, u, i, s⟩ = layL lim L e [if i ≠ 0 then 1 else 0] ∧ stE lim L e ⟨k, u, i, s⟩ = layE lim L e [if i ≠ 0 then 1 else 0] by subst h2; exact ⟨rfl, rfl⟩)
    have q0 : (k == 0) = false := by simpa using h0
    have q1 : (k == 1) = false := by simpa using h1
    have q2 : (k == 2) = true := by simpa using h2
    have HQ := Lib.hid (show [if (i != 0) then (1 : UInt8) else 0] = [if i ≠ 0 then 1 else 0] by simp)
    clear h0 h1 h2
    obtain ⟨t, ht⟩ : ∃ t, t = (i != 0) := ⟨_, rfl⟩
    rw [← ht] at HQ
    go_enter Try.func20, Try.ntmps20
    go_wp2_with fail
    rw [← ht]
    refine (pk_WBool b base lim L v e _ t (H.out.ext HB.out)).mono ?_
    rintro e1 w1 ⟨rfl, hP⟩
    rw [HQ.out] at hP
    have HP := Lib.hid (WPost.after HB.out hP)
    clear hP
    go_wp2
    go_end0
    rw [HE.out.1, HE.out.2]
    exact ⟨rfl, HP.out⟩
  by_cases h3 : k = 3
  · have HE := Lib.hid (show stL lim L e ⟨k, u, i, s⟩ = layL lim L e [UInt8.ofNat u] ∧ stE lim L e ⟨k, u, i, s⟩ = layE lim L e [UInt8.ofNat u] by subst h3; exact ⟨rfl, rfl⟩)
    have q0 : (k == 0) = false := by simpa using h0
    have q1 : (k == 1) = false := by simpa using h1
    have q2 : (k == 2) = false := by simpa using h2
    have q3 : (k == 3) = true := by simpa using h3
    clear h0 h1 h2 h3
    obtain ⟨cc, hcc⟩ : ∃ cc, cc = UInt8.ofNat u := ⟨_, rfl⟩
    have hu : (u : Int) % 256 = (cc.toNat : Int) := by rw [hcc]; simp
    rw [← hcc] at HE
    clear hcc
    go_enter Try.func20, Try.ntmps20
    go_wp2_with fail
    refine (pk_WByte b base lim L v e _ cc (H.out.ext HB.out)).mono ?_
    rintro e1 w1 ⟨rfl, hP⟩
    have HP := Lib.hid (WPost.after HB.out hP)
    clear hP
    go_wp2
    go_end0
    rw [HE.out.1, HE.out.2]
    exact ⟨rfl, HP.out⟩
  by_cases h4 : k = 4
  · have HE := Lib.hid (show stL lim L e ⟨k, u, i, s⟩ = layL lim L e (nf s.size ++ s.data.toList) ∧ stE lim L e ⟨k, u, i, s⟩ = layE lim L e (nf s.size ++ s.data.toList) by subst h4; exact ⟨rfl, rfl⟩)
    have q0 : (k == 0) = false := by simpa using h0
    have q1 : (k == 1) = false := by simpa using h1
    have q2 : (k == 2) = false := by simpa using h2
    have q3 : (k == 3) = false := by simpa using h3
    have q4 : (k == 4) = true := by simpa using h4
    clear h0 h1 h2 h3 h4
    go_enter Try.func20, Try.ntmps20
    go_wp2_with fail
    refine (pk_WText b base lim L v e _ s HX.out.s (H.out.ext HB.out)).mono ?_
    rintro e1 w1 ⟨rfl, hP⟩
    have HP := Lib.hid (WPost.after HB.out hP)
    clear hP
    go_wp2
    go_end0
    rw [HE.out.1, HE.out.2]
    exact ⟨rfl, HP.out⟩
  by_cases h5 : k = 5
  · have HE := Lib.hid (show stL lim L e ⟨k, u, i, s⟩ = layL lim L (cntE e i) (nf (cntN i)) ∧ stE lim L e ⟨k, u, i, s⟩ = layE lim L (cntE e i) (nf (cntN i)) by subst h5; exact ⟨rfl, rfl⟩)
    have q0 : (k == 0) = false := by simpa using h0
    have q1 : (k == 1) = false := by simpa using h1
    have q2 : (k == 2) = false := by simpa using h2
    have q3 : (k == 3) = false := by simpa using h3
    have q4 : (k == 4) = false := by simpa using h4
    have q5 : (k == 5) = true := by simpa using h5
    clear h0 h1 h2 h3 h4 h5
    go_enter Try.func20, Try.ntmps20
    go_wp2_with fail
    refine (pk_WCount b base lim L v e _ i HX.out.i (H.out.ext HB.out)).mono ?_
    rintro e1 w1 ⟨rfl, hP⟩
    have HP := Lib.hid (WPost.after HB.out hP)
    clear hP
    go_wp2
    go_end0
    rw [HE.out.1, HE.out.2]
    exact ⟨rfl, HP.out⟩
  · have HE := Lib.hid (show stL lim L e ⟨k, u, i, s⟩ = L ∧ stE lim L e ⟨k, u, i, s⟩ = e by
      have hf : form ⟨k, u, i, s⟩ = [] := by
        unfold form
        rw [if_neg h0, if_neg h1, if_neg h2, if_neg h3, if_neg h4, if_neg h5]
      have hp : preE e ⟨k, u, i, s⟩ = e := if_neg h5
      unfold stL stE
      rw [hf, hp]
      exact lay_nil H.out.small)
    have q0 : (k == 0) = false := by simpa using h0
    have q1 : (k == 1) = false := by simpa using h1
    have q2 : (k == 2) = false := by simpa using h2
    have q3 : (k == 3) = false := by simpa using h3
    have q4 : (k == 4) = false := by simpa using h4
    have q5 : (k == 5) = false := by simpa using h5
    clear h0 h1 h2 h3 h4 h5
    go_enter Try.func20, Try.ntmps20
    go_wp2
    go_end0
    rw [HE.out.1, HE.out.2]
    exact ⟨by simp, WPost.same H.out (Only.of_below [] HB.out)⟩
end Go.Proofs.Ytclafljkeaekfaa
