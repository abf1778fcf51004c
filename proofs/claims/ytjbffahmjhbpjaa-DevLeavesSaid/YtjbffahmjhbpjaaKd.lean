/- The device's calls over a state: the device and rows beside it. -/
import Derived.Test.YtjbffahmjhbpjaaKp
set_option linter.unusedVariables false
set_option linter.unusedSimpArgs false
namespace Go.Proofs.Ytjbffahmjhbpjaa
open Go.RowKit
section
variable {w0 w : World} {b g : Nat} {vc : Value} {D : DS} {R : List (Nat × Obj)}
theorem row512 {o : Obj} {l : List UInt8} {u : Value} {W : World} {base : Nat} (h : Own W base u 512 l) (hu : ∃ j, u = .slice (some ⟨j, 0, none⟩) 512 512) : ∃ j o, u = .slice (some ⟨j, 0, none⟩) 512 512 ∧ base ≤ j ∧ W.heap[j]? = some o ∧ RowB o 512 512 l := by
  obtain ⟨k, c, o, e, hk, ho, hr⟩ := h.row_of (by omega)
  obtain ⟨j, rfl⟩ := hu
  injection e with e1 e2 e3
  injection e1 with e1
  injection e1 with e1
  subst e1 e3
  exact ⟨j, o, rfl, hk, ho, hr⟩
theorem st_Read (k : Nat) (h : St w0 w b g vc D R) (hk : k < D.n) (hd : D.down = false) (hrd : D.rd < 9223372036854775807) (hq : D.C.length ≤ 100000000000) :
    Calls Try.prog 19 #[.pointer (some ⟨b, 0, none⟩), .int .i64 k] w fun e w' => ∃ j o, e = .returned (.tuple #[.slice (some ⟨j, 0, none⟩) 512 512, .int .i64 0]) ∧ RowB o 512 512 (rdB D k) ∧ St w0 w' b g vc { D with rd := D.rd + 1 } ((j, o) :: R) := by
  refine (dv_Read w b g vc D k h.dv hk hd hrd hq).mono ?_
  rintro e w' ⟨u, rfl, hu, hO, hV, hF⟩
  obtain ⟨j, o, rfl, hj, ho, hr⟩ := row512 (o := .cells #[] 0 (0, 0)) hO hu
  exact ⟨j, o, rfl, hr, h.addFr hV hF hj (fun hm => by have := h.dv.lt j hm; omega) ho⟩
theorem st_Raw (k : Nat) (h : St w0 w b g vc D R) (hk : k < D.n) :
    Calls Try.prog 22 #[.pointer (some ⟨b, 0, none⟩), .int .i64 k] w fun e w' => ∃ j o, e = .returned (.tuple #[.slice (some ⟨j, 0, none⟩) 512 512, .int .i64 0]) ∧ RowB o 512 512 (blkM D.M k) ∧ St w0 w' b g vc D ((j, o) :: R) := by
  refine (dv_Raw w b g vc D k h.dv hk).mono ?_
  rintro e w' ⟨u, rfl, q, hu, hO, hb⟩
  obtain ⟨j, o, rfl, hj, ho, hr⟩ := row512 (o := .cells #[] 0 (0, 0)) hO ⟨q, hu⟩
  exact ⟨j, o, rfl, hr, h.new hb hj ho⟩
theorem st_full (c : UInt8) (h : St w0 w b g vc D R) :
    Calls Try.prog 15 #[.int .u8 (c.toNat : Int)] w fun e w' => ∃ j o, e = .returned (.slice (some ⟨j, 0, none⟩) 512 512) ∧ RowB o 512 512 (List.replicate 512 c) ∧ St w0 w' b g vc D ((j, o) :: R) := by
  refine (l6_full c w).mono ?_
  rintro e w' ⟨u, rfl, q, hu, hO, hb⟩
  obtain ⟨j, o, rfl, hj, ho, hr⟩ := row512 (o := .cells #[] 0 (0, 0)) hO ⟨q, hu⟩
  exact ⟨j, o, rfl, hr, h.new hb hj ho⟩
theorem st_Medium (h : St w0 w b g vc D R) :
    Calls Try.prog 23 #[.pointer (some ⟨b, 0, none⟩)] w fun e w' => ∃ j c o, e = .returned (.slice (some ⟨j, 0, none⟩) (D.n * 512) c) ∧ RowB o (D.n * 512) c D.M ∧ St w0 w' b g vc D ((j, o) :: R) := by
  refine (dv_Medium w b g vc D h.dv).mono ?_
  rintro e w' ⟨u, rfl, hO, hb⟩
  have hs := h.dv.dev.small
  obtain ⟨j, c, o, rfl, hr, hS⟩ := h.newB hO hb (by omega)
  exact ⟨j, c, o, rfl, hr, hS⟩
theorem st_Pending (h : St w0 w b g vc D R) (hq : D.C.length ≤ 100000000000) (hp : 0 < D.C.length) :
    Calls Try.prog 20 #[.pointer (some ⟨b, 0, none⟩)] w fun e w' => ∃ j c o, e = .returned (.slice (some ⟨j, 0, none⟩) D.C.length c) ∧ RowN o D.C.length c (nums D.C) ∧ St w0 w' b g vc D ((j, o) :: R) := by
  refine (dv_Pending w b g vc D h.dv hq).mono ?_
  rintro e w' ⟨u, rfl, hO, hb⟩
  obtain ⟨j, c, o, rfl, hr, hS⟩ := h.newN hO hb hp
  exact ⟨j, c, o, rfl, hr, hS⟩
theorem st_Write (i : Nat) {k c n : Nat} {o : Obj} {l : List UInt8} (num : Int) (m : Nat) (h : St w0 w b g vc D R) (hi : R[i]? = some (k, o)) (hr : RowB o n c l) (hm : m ≤ n) (hn : n ≤ 140737490452480) (hl : D.left < 9223372036854775808) (hq : D.C.length ≤ 100000000000) (hwr : D.wr < 9223372036854775807) :
    Calls Try.prog 16 #[.pointer (some ⟨b, 0, none⟩), .int .i64 num, .slice (some ⟨k, 0, none⟩) m c] w fun e w' => e = .returned (.int .i64 (wrD D num (l.take m)).1) ∧ ∃ vc', St w0 w' b g vc' (wrD D num (l.take m)).2 R := by
  refine (dv_Write w b g vc D num (some ⟨k, 0, none⟩) m c (l.take m) h.dv ((h.rd i hi hr hn).take m hm) (h.hx i hi) hl hq hwr).mono ?_
  rintro e w' ⟨rfl, vc', hV, hF⟩
  exact ⟨rfl, vc', h.fr hV hF⟩
theorem st_Flush (h : St w0 w b g vc D R) (hl : D.left < 9223372036854775808) (hq : D.C.length ≤ 100000000000) (hfl : D.fl < 9223372036854775807) :
    Calls Try.prog 21 #[.pointer (some ⟨b, 0, none⟩)] w fun e w' => e = .returned (.int .i64 (flD D).1) ∧ ∃ vc', St w0 w' b g vc' (flD D).2 R := by
  refine (dv_Flush w b g vc D h.dv hl hq hfl).mono ?_
  rintro e w' ⟨rfl, vc', hV, hF⟩
  exact ⟨rfl, vc', h.fr hV hF⟩
theorem st_Edit (i : Nat) {k c n : Nat} {o : Obj} {l : List UInt8} (num at_ : Int) (m : Nat) (h : St w0 w b g vc D R) (hi : R[i]? = some (k, o)) (hr : RowB o n c l) (hm : m ≤ n) (hn : n ≤ 140737490452480) (hat : -9223372036854775808 ≤ at_ ∧ at_ < 9223372036854775808) :
    Calls Try.prog 18 #[.pointer (some ⟨b, 0, none⟩), .int .i64 num, .int .i64 at_, .slice (some ⟨k, 0, none⟩) m c] w fun e w' => e = .returned (.int .i64 (edD D num at_ (l.take m)).1) ∧ St w0 w' b g vc (edD D num at_ (l.take m)).2 R := by
  refine (dv_Edit w b g vc D num at_ (some ⟨k, 0, none⟩) m c (l.take m) h.dv ((h.rd i hi hr hn).take m hm) hat).mono ?_
  rintro e w' ⟨rfl, hV, hF⟩
  exact ⟨rfl, h.fr hV hF⟩
end
theorem st_lives (w : World) : Calls Try.prog 14 #[] w fun e w' => ∃ b g vc, e = .returned (.pointer (some ⟨b, 0, none⟩)) ∧ St w w' b g vc liveD [] := by
  refine (l6_lives w).mono ?_
  rintro e w' ⟨b, g, vc, rfl, hV, hs, hb⟩
  exact ⟨b, g, vc, rfl, St.of hV hs hb⟩
end Go.Proofs.Ytjbffahmjhbpjaa
