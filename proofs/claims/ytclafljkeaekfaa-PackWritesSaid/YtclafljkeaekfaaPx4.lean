/- A writer and the reference's side by side; walk of tells. -/
import Derived.Test.YtclafljkeaekfaaPx3
import Derived.Test.YtclafljkeaekfaaPk12
set_option linter.unusedVariables false
set_option linter.unusedSimpArgs false
set_option maxRecDepth 100000
namespace Go.Proofs.Ytclafljkeaekfaa
open Go.RowKit
def Foot (b : Nat) (v : Value) : List Nat := b :: v.ownBlock.toList
def Dis (F G : List Nat) : Prop := ∀ k ∈ F, k ∉ G
theorem Dis.symm {F G : List Nat} (h : Dis F G) : Dis G F := fun k hk hm => h k hm hk
theorem Dis.step {F F' G : List Nat} {n : Nat} (h : Dis F G) (hf : ∀ k ∈ F', k ∈ F ∨ n ≤ k) (hg : ∀ k ∈ G, k < n) : Dis F' G := fun k hk hm => by
  rcases hf k hk with h1 | h1
  · exact h k h1 hm
  · have := hg k hm; omega
theorem own_foot {w : World} {base n : Nat} {v : Value} {l : List UInt8} {b : Nat} (h : Own w base v n l) (hb : b < base) (hl : base ≤ w.heap.size) : ∀ k ∈ Foot b v, k < w.heap.size := by
  intro k hk
  rcases List.mem_cons.1 hk with rfl | hk
  · omega
  · exact (h.blk k (by simpa using hk)).2
theorem foot_step {w w' : World} {b : Nat} {v v' : Value} (h : v'.ownBlock = v.ownBlock ∨ Blk v' w.heap.size w'.heap.size) : ∀ k ∈ Foot b v', k ∈ Foot b v ∨ w.heap.size ≤ k := by
  intro k hk
  rcases List.mem_cons.1 hk with rfl | hk
  · exact .inl (by simp [Foot])
  · rcases h with h | h
    · rw [h] at hk; exact .inl (List.mem_cons_of_mem _ hk)
    · exact .inr (h k (by simpa using hk)).1
theorem IsW.keepD {w w' : World} {b base lim : Nat} {L : List UInt8} {v : Value} {e : Int} {S : List Nat} (h : IsW w b base lim L v e) (hw : Only S w w') (hd : Dis (Foot b v) S) : IsW w' b base lim L v e :=
  h.keep hw (hd b (by simp [Foot])) (fun k hk => hd k (by simp [Foot, hk]))
theorem IsX.keepD {w w' : World} {b base lim : Nat} {L : List UInt8} {v : Value} {e : Int} {S : List Nat} (h : IsX w b base lim L v e) (hw : Only S w w') (hd : Dis (Foot b v) S) : IsX w' b base lim L v e :=
  h.keep hw (hd b (by simp [Foot])) (fun k hk => hd k (by simp [Foot, hk]))
/-- a writer and the reference's, in the same state -/
structure Pair (w : World) (a x bA bX lim : Nat) (L : List UInt8) (va vx : Value) (e : Int) : Prop where
  wr : IsW w a bA lim L va e
  rf : IsX w x bX lim L vx e
  dis : Dis (Foot a va) (Foot x vx)
def PairE (G : List Nat) (a x : Nat) (w : World) : Prop := ∃ bA bX lim L va vx e, Pair w a x bA bX lim L va vx e ∧ G = Foot a va ++ Foot x vx
section
variable {w w' : World} {a x bA bX lim : Nat} {L : List UInt8} {va vx : Value} {e : Int} {G S : List Nat}
theorem PairE.lt (h : PairE G a x w) : ∀ k ∈ G, k < w.heap.size := by
  obtain ⟨bA, bX, lim, L, va, vx, e, hP, rfl⟩ := h
  intro k hk
  rcases List.mem_append.1 hk with hk | hk
  · exact own_foot hP.wr.own hP.wr.lt hP.wr.le k hk
  · exact own_foot hP.rf.own hP.rf.lt hP.rf.le k hk
theorem PairE.keep (h : PairE G a x w) (hw : Only S w w') (hd : Dis G S) : PairE G a x w' := by
  obtain ⟨bA, bX, lim, L, va, vx, e, hP, rfl⟩ := h
  exact ⟨bA, bX, lim, L, va, vx, e, ⟨hP.wr.keepD hw (fun k hk => hd k (by simp [hk])), hP.rf.keepD hw (fun k hk => hd k (by simp [hk])), hP.dis⟩, rfl⟩
theorem PairE.ext (h : PairE G a x w) (hB : Below w.heap.size w w') : PairE G a x w' := h.keep (Only.of_below [] hB) (fun k _ => by simp)
/-- what a step on a pair leaves -/
def PStep (G : List Nat) (a x : Nat) (w w' : World) : Prop := ∃ G', PairE G' a x w' ∧ Only G w w' ∧ ∀ k ∈ G', k ∈ G ∨ w.heap.size ≤ k
end
theorem PStep.lay {w w1 w2 : World} {a x bA bX lim : Nat} {L L' : List UInt8} {va vx : Value} {e e' : Int} (h : Pair w a x bA bX lim L va vx e) (h1 : WPost w a bA lim va L' e' w1) (h2 : XPost w1 x bX lim vx L' e' w2) :
    PStep (Foot a va ++ Foot x vx) a x w w2 := by
  obtain ⟨va', hI, hO, hA⟩ := h1
  obtain ⟨vx', hJ, hP, hB⟩ := h2
  have hlx := own_foot h.rf.own h.rf.lt h.rf.le
  have hdx : Dis (Foot a va') (Foot x vx) := h.dis.step (foot_step hA) hlx
  have hla := own_foot hI.own hI.lt hI.le
  have hd2 : Dis (Foot a va') (Foot x vx') := (hdx.symm.step (foot_step hB) hla).symm
  refine ⟨Foot a va' ++ Foot x vx', ⟨bA, bX, lim, L', va', vx', e', ⟨hI.keepD hP hdx, hJ, hd2⟩, rfl⟩, ?_, ?_⟩
  · exact (hO.mono (fun k hk => List.mem_append.2 (.inl hk))).trans (hP.mono (fun k hk => List.mem_append.2 (.inr hk)))
  · intro k hk
    rcases List.mem_append.1 hk with hk | hk
    · rcases foot_step hA k hk with h1 | h1
      · exact .inl (List.mem_append.2 (.inl h1))
      · exact .inr h1
    · rcases foot_step hB k hk with h1 | h1
      · exact .inl (List.mem_append.2 (.inr h1))
      · exact .inr (Nat.le_trans hO.size h1)
theorem l2_tells (a x bA bX lim : Nat) (L : List UInt8) (va vx : Value) (e : Int) (w : World) (h : Pair w a x bA bX lim L va vx e) :
    Calls Try.prog 22 #[.pointer (some ⟨a, 0, none⟩), .pointer (some ⟨x, 0, none⟩)] w fun e1 w' => e1 = .returned (.bool true) ∧ Below w.heap.size w w' := by
  have HW := Lib.hid h.wr
  have HX := Lib.hid h.rf
  have hsm := h.wr.small
  have hmo := h.wr.most
  have hLm : L.length ≤ 1048576 := by omega
  clear h hsm hmo
  by_cases he : e = 0
  · subst he
    go_enter Try.func22, Try.ntmps22
    go_wp2_with fail
    refine (pk_WOut_ok a _ _ _ _ _ HW.out).mono ?_
    rintro e1 w1 ⟨u, rfl, hO, hB⟩
    obtain ⟨A1, c1, rfl, hR⟩ := hO.rd (by omega)
    have HR1 := Lib.hid hR
    have HB1 := Lib.hid hB
    clear hO hB hR
    go_wp2_with fail
    refine (px_WOut_ok x _ _ _ _ _ (HX.out.ext HB1.out)).mono ?_
    rintro e2 w2 ⟨u, rfl, hO, hB⟩
    obtain ⟨A2, c2, rfl, hR⟩ := hO.rd (by omega)
    have HR2 := Lib.hid hR
    have HR12 := Lib.hid (HR1.out.ext hB)
    have HB2 := Lib.hid (HB1.out.trans (hB.mono HB1.out.size))
    have HW2 := Lib.hid (HW.out.ext HB2.out)
    have HX2 := Lib.hid (HX.out.ext HB2.out)
    clear hO hB hR
    go_wp2_with fail
    refine (l2_same A1 A2 _ c1 _ c2 L L w2 HR12.out HR2.out).mono ?_
    rintro e3 w3 ⟨rfl, rfl⟩
    rw [decide_eq_true rfl]
    go_wp2_with (first
      | (go_at_call 24; refine (pk_WLen a _ _ _ _ _ _ HW2.out).mono ?_; rintro e4 w4 ⟨rfl, rfl⟩)
      | (go_at_call 60; refine (px_WLen x _ _ _ _ _ _ HX2.out).mono ?_; rintro e4 w4 ⟨rfl, rfl⟩)
      | (go_at_call 25; refine (pk_WErr a _ _ _ _ _ _ HW2.out).mono ?_; rintro e4 w4 ⟨rfl, rfl⟩)
      | (go_at_call 61; refine (px_WErr x _ _ _ _ _ _ HX2.out).mono ?_; rintro e4 w4 ⟨rfl, rfl⟩))
    go_ret
    exact ⟨by simp, HB2.out⟩
  · have HE := Lib.hid he
    have he2 : (e == 0) = false := by simpa using he
    clear he
    go_enter Try.func22, Try.ntmps22
    go_wp2_with fail
    refine (pk_WOut_bad a _ _ _ _ _ _ HE.out HW.out).mono ?_
    rintro e1 w1 ⟨rfl, hO⟩
    have HO1 := Lib.hid hO
    clear hO
    go_wp2_with fail
    refine (px_WOut_bad x _ _ _ _ _ _ HE.out (HX.out.keep HO1.out (by simp) (by simp))).mono ?_
    rintro e2 w2 ⟨rfl, hO⟩
    have HO2 := Lib.hid (HO1.out.trans hO)
    have HW2 := Lib.hid (HW.out.keep HO2.out (by simp) (by simp))
    have HX2 := Lib.hid (HX.out.keep HO2.out (by simp) (by simp))
    clear hO
    go_wp2_with fail
    refine (l2_same none none 0 0 0 0 [] [] w2 (Rd.nil _) (Rd.nil _)).mono ?_
    rintro e3 w3 ⟨rfl, rfl⟩
    rw [decide_eq_true rfl]
    go_wp2_with (first
      | (go_at_call 24; refine (pk_WLen a _ _ _ _ _ _ HW2.out).mono ?_; rintro e4 w4 ⟨rfl, rfl⟩)
      | (go_at_call 60; refine (px_WLen x _ _ _ _ _ _ HX2.out).mono ?_; rintro e4 w4 ⟨rfl, rfl⟩)
      | (go_at_call 25; refine (pk_WErr a _ _ _ _ _ _ HW2.out).mono ?_; rintro e4 w4 ⟨rfl, rfl⟩)
      | (go_at_call 61; refine (px_WErr x _ _ _ _ _ _ HX2.out).mono ?_; rintro e4 w4 ⟨rfl, rfl⟩))
    go_ret
    exact ⟨by simp, HO2.out.below (Nat.le_refl _) (by simp)⟩
end Go.Proofs.Ytclafljkeaekfaa
