/- A region that draws its order: what holds till one operation z has come up (a cell that a later store of the same region writes), and what holds all along. -/
import Derived.Test.YtlandlgjhnnaiaaOwn
import Derived.OrdersHeld
import Derived.StillTail
import Derived.Deep.MidRow
set_option linter.unusedVariables false
set_option linter.unusedSimpArgs false
namespace Go.Proofs.Ytlandlgjhnnaiaa
open Go.RowKit
section
variable {P : Program} {md : Region.Mode} {ops : Array Oper} {Q : Exit → Act → World → Prop} {R T : World → Prop} {z : Nat}
/-- whatever order is picked: behind each operation R, and T as long as z has not come up -/
def wpAnyZ (P : Program) (md : Region.Mode) (ops : Array Oper) (Q : Exit → Act → World → Prop) (R T : World → Prop) (z : Nat) : Nat → Array Bool → Act → World → Prop
  | 0, l, a, w => Region.ready md ops l = [] ∧ Q .normal a w
  | f + 1, l, a, w => (Region.ready md ops l = [] → Q .normal a w) ∧
    ∀ i ∈ Region.ready md ops l, wpOp P ops Q i (fun a' w' => (R w' ∧ ((l.setIfInBounds i true).getD z true = false → T w')) ∧ wpAnyZ P md ops Q R T z f (l.setIfInBounds i true) a' w') a w
theorem wpAnyZ.any : ∀ (f : Nat) (l : Array Bool) (a : Act) (w : World), wpAnyZ P md ops Q R T z f l a w → wpAny P md ops Q f l a w
  | 0, _, _, _, h => h
  | f + 1, _, _, _, h => ⟨h.1, fun i hi => wpOp_mono (fun a' w' h' => wpAnyZ.any f _ a' w' h'.2) (h.2 i hi)⟩
theorem wpAnyZ.first {i : Nat} {oi : Oper} {v : Value} {U : World → Prop} (hi : ops[i]? = some oi) (hiz : i ≠ z)
    (hU : (∀ w, R w → U w) ∨ ((∀ w, T w → U w) ∧ ∃ oz e, ops[z]? = some oz ∧ e ∈ oz.after ∧ Region.binds md e = true ∧ e.on = i))
    (hsel : ∀ (j : Nat) (o : Oper) cs b, ops[j]? = some o → o.op ≠ .select cs b) (hQ : ∀ c a w, Q (.panic c) (a.put oi.dst v) w → Q (.panic c) a w) :
    ∀ (f : Nat) (l : Array Bool) (a : Act) (w : World), l.getD z true = false ∨ (∀ w, R w → U w) →
      (∀ j oj, ops[j]? = some oj → j ≠ i → l.getD j true = false → (∀ e ∈ oj.after, Region.binds md e = true → e.on ≠ i) → oi.apart ops oj = true) →
      i ∈ Region.ready md ops l → YieldsIf P ops U oi v a → U w → R w → (l.getD z true = false → T w) →
      wpAnyZ P md ops Q R T z f (l.setIfInBounds i true) (a.put oi.dst v) w → wpAnyZ P md ops Q R T z (f + 1) l a w := by
  intro f
  have hzi : ∀ l : Array Bool, (l.setIfInBounds i true).getD z true = l.getD z true := fun l => getD_set_ne true hiz
  induction f with
  | zero =>
    intro l a w _ _ hr hy hu hRw hTw H
    refine ⟨fun h => (by rw [h] at hr; cases hr), fun j hj => ?_⟩
    by_cases hji : j = i
    · subst hji; exact hy.wpOp hi hu ⟨⟨hRw, by rw [hzi]; exact hTw⟩, H⟩
    · have h1 := ready_mono hj hji
      rw [H.1] at h1
      cases h1
  | succ f ih =>
    intro l a w hz hfree hr hy hu hRw hTw H
    refine ⟨fun h => (by rw [h] at hr; cases hr), fun j hj => ?_⟩
    by_cases hji : j = i
    · subst hji; exact hy.wpOp hi hu ⟨⟨hRw, by rw [hzi]; exact hTw⟩, H⟩
    · have h1 := H.2 j (ready_mono hj hji)
      obtain ⟨hjun, oj, hoj, hall⟩ := mem_ready.1 hj
      have hiun := (mem_ready.1 hr).1
      have hnot : ∀ e ∈ oj.after, Region.binds md e = true → e.on ≠ i := fun e he hb heq => by
        have h3 := hall e he hb
        rw [heq] at h3
        rcases Nat.lt_or_ge i l.size with h' | h'
        · simp [h'] at hiun h3; rw [hiun] at h3; cases h3
        · simp [Array.getElem?_eq_none h'] at h3
      have h2 := wpOp_putIf hoj (hfree j oj hoj hji hjun hnot) (fun cs b => hsel i oi cs b hi) (fun cs b => hsel j oj cs b hoj) hQ hy h1
      have hfree' : ∀ k ok, ops[k]? = some ok → k ≠ i → (l.setIfInBounds j true).getD k true = false →
          (∀ e ∈ ok.after, Region.binds md e = true → e.on ≠ i) → oi.apart ops ok = true := fun k ok hk hki hun hno => by
        refine hfree k ok hk hki ?_ hno
        by_cases hjk : j = k
        · subst hjk; exact hjun
        · rw [getD_set_ne true hjk] at hun; exact hun
      have hcomm : (l.setIfInBounds i true).setIfInBounds j true = (l.setIfInBounds j true).setIfInBounds i true := (Array.setIfInBounds_comm _ _ hji).symm
      have hjz : l.getD z true = false → (∃ oz e, ops[z]? = some oz ∧ e ∈ oz.after ∧ Region.binds md e = true ∧ e.on = i) → j ≠ z := fun _ ⟨oz, e, e1, e2, e3, e4⟩ hjz => by
        rw [hjz, e1] at hoj
        injection hoj with hoj
        exact hnot e (hoj ▸ e2) e3 e4
      refine wpOp_mono (fun a' w' h3 => ?_) h2
      obtain ⟨h4, ⟨h5, h6⟩, h7⟩ := h3
      rw [hcomm, hzi] at h6
      rw [hcomm] at h7
      have hu' : U w' ∧ ((l.setIfInBounds j true).getD z true = false ∨ (∀ w, R w → U w)) := by
        rcases hU with hU | ⟨hU, hw⟩
        · exact ⟨hU w' h5, .inr hU⟩
        · rcases hz with hz | hz
          · have hjz' := hjz hz hw
            have h8 : (l.setIfInBounds j true).getD z true = false := by rw [getD_set_ne true hjz']; exact hz
            exact ⟨hU w' (h6 h8), .inl h8⟩
          · exact ⟨hz w' h5, .inr hz⟩
      exact ⟨⟨h5, h6⟩, ih (l.setIfInBounds j true) a' w' hu'.2 hfree' (ready_mono hr (Ne.symm hji)) h4 hu'.1 h5 h6 h7⟩
/-- number i is taken first: in every world that meets U it yields v -/
theorem wpAnyZ.take {i : Nat} {oi : Oper} {v : Value} {U : World → Prop} {f : Nat} {l : Array Bool} {a : Act} {w : World} (hi : ops[i]? = some oi) (hs : Region.noSelect ops = true) (hf : Region.free md ops l i = true) (hr : (Region.ready md ops l).contains i = true) (hiz : i ≠ z)
    (hQ : ∀ c a w, Q (.panic c) (a.put oi.dst v) w → Q (.panic c) a w)
    (hU : (∀ w, R w → U w) ∨ ((∀ w, T w → U w) ∧ Region.waitsFor md ops z i = true)) (hz : l.getD z true = false ∨ (∀ w, R w → U w))
    (hy : YieldsIf P ops U oi v a) (hu : U w) (hRw : R w) (hTw : l.getD z true = false → T w)
    (h : wpAnyZ P md ops Q R T z f (l.setIfInBounds i true) (a.put oi.dst v) w) : wpAnyZ P md ops Q R T z (f + 1) l a w :=
  wpAnyZ.first hi hiz (hU.imp id (fun ⟨h1, h2⟩ => ⟨h1, by
    obtain ⟨oz, h3, e, h4, h5, h6⟩ := Region.waitsFor_spec h2
    exact ⟨oz, e, h3, h4, h5, h6⟩⟩)) (Region.noSelect_spec hs) hQ f l a w hz (Region.free_spec hi hf) (by simpa using hr) hy hu hRw hTw h
/-- it yields whatever the world is -/
theorem wpAnyZ.takeN {i : Nat} {oi : Oper} {v : Value} {f : Nat} {l : Array Bool} {a : Act} {w : World} (hi : ops[i]? = some oi) (hs : Region.noSelect ops = true) (hf : Region.free md ops l i = true) (hr : (Region.ready md ops l).contains i = true) (hiz : i ≠ z)
    (hQ : ∀ c a w, Q (.panic c) (a.put oi.dst v) w → Q (.panic c) a w)
    (hw : Region.wanted oi (yielded ops a.tmps) = true) (hy : ∀ w, (execOp a.eval oi).run P w = .ok (.value v) w) (hRw : R w) (hTw : l.getD z true = false → T w)
    (h : wpAnyZ P md ops Q R T z f (l.setIfInBounds i true) (a.put oi.dst v) w) : wpAnyZ P md ops Q R T z (f + 1) l a w :=
  wpAnyZ.take (U := fun _ => True) hi hs hf hr hiz hQ (.inl fun _ _ => trivial) (.inr fun _ _ => trivial) (.inl ⟨hw, fun w _ => hy w⟩) trivial hRw hTw h
/-- one alone may come up -/
theorem wpAnyZ.one {i : Nat} {oi : Oper} {f : Nat} {l : Array Bool} {a : Act} {w : World} {E : Prop} (hr : Region.ready md ops l = [i]) (hi : ops[i]? = some oi) (hw : Region.wanted oi (yielded ops a.tmps) = true)
    (h : if Region.wanted oi (yielded ops a.tmps) = true then Oper.wp P oi a w (fun a' w' => (R w' ∧ ((l.setIfInBounds i true).getD z true = false → T w')) ∧ wpAnyZ P md ops Q R T z f (l.setIfInBounds i true) a' w') Q else E) : wpAnyZ P md ops Q R T z (f + 1) l a w := by
  refine ⟨fun h0 => (by rw [hr] at h0; cases h0), fun j hj => ?_⟩
  rw [hr] at hj
  simp only [List.mem_singleton] at hj
  subst hj
  unfold wpOp
  rw [if_pos hw] at h
  simp only [hi, hw, if_true]
  exact .inl h
theorem wpAnyZ.done {l : Array Bool} {a : Act} {w : World} (hr : Region.ready md ops l = []) (h : Q .normal a w) : ∀ f, wpAnyZ P md ops Q R T z f l a w
  | 0 => ⟨hr, h⟩
  | _ + 1 => ⟨fun _ => h, by rw [hr]; simp⟩
/-- the beginning -/
theorem wp_region_z {id : Nat} {a : Act} {w : World} (R T : World → Prop) (z : Nat) (hm : P.follows .mixedOrders = true) (h : wpAnyZ P .any ops Q R T z ops.size (Array.replicate ops.size false) a w.drew) : (Code.region id ops true).wp P Q a w :=
  wp_region_any hm (wpAnyZ.any _ _ _ _ h)
end
/-- one alone may come up: what follows it is a letter, kept from the walk's simp -/
theorem wpAnyZ.oneK {P : Program} {md : Region.Mode} {ops : Array Oper} {Q : Exit → Act → World → Prop} {R T : World → Prop} {z i : Nat} {oi : Oper} {f : Nat} {l : Array Bool} {a : Act} {w : World} {E : Prop} (hr : Region.ready md ops l = [i]) (hi : ops[i]? = some oi) (hw : Region.wanted oi (yielded ops a.tmps) = true)
    (h : ∀ K : Act → World → Prop, Hid (∀ a' w', ((R w' ∧ ((l.setIfInBounds i true).getD z true = false → T w')) ∧ wpAnyZ P md ops Q R T z f (l.setIfInBounds i true) a' w') → K a' w') → if Region.wanted oi (yielded ops a.tmps) = true then Oper.wp P oi a w K Q else E) : wpAnyZ P md ops Q R T z (f + 1) l a w :=
  wpAnyZ.one (E := E) hr hi hw (h _ (Lib.hid fun _ _ h => h))
/-- one of two may come up: both ways, what follows is a letter -/
theorem wpAnyZ.twoK {P : Program} {md : Region.Mode} {ops : Array Oper} {Q : Exit → Act → World → Prop} {R T : World → Prop} {z i k : Nat} {oi ok : Oper} {f : Nat} {l : Array Bool} {a : Act} {w : World} {E : Prop} (hr : Region.ready md ops l = [i, k]) (hi : ops[i]? = some oi) (hk : ops[k]? = some ok) (hw : Region.wanted oi (yielded ops a.tmps) = true) (hwk : Region.wanted ok (yielded ops a.tmps) = true)
    (h : ∀ K : Act → World → Prop, Hid (∀ a' w', ((R w' ∧ ((l.setIfInBounds i true).getD z true = false → T w')) ∧ wpAnyZ P md ops Q R T z f (l.setIfInBounds i true) a' w') → K a' w') → if Region.wanted oi (yielded ops a.tmps) = true then Oper.wp P oi a w K Q else E)
    (h' : ∀ K : Act → World → Prop, Hid (∀ a' w', ((R w' ∧ ((l.setIfInBounds k true).getD z true = false → T w')) ∧ wpAnyZ P md ops Q R T z f (l.setIfInBounds k true) a' w') → K a' w') → if Region.wanted ok (yielded ops a.tmps) = true then Oper.wp P ok a w K Q else E) : wpAnyZ P md ops Q R T z (f + 1) l a w := by
  refine ⟨fun h0 => (by rw [hr] at h0; cases h0), fun j hj => ?_⟩
  rw [hr] at hj
  simp only [List.mem_cons, List.not_mem_nil, or_false] at hj
  rcases hj with rfl | rfl
  · have h9 := h _ (Lib.hid fun _ _ h => h)
    unfold wpOp
    rw [if_pos hw] at h9
    simp only [hi, hw, if_true]
    exact .inl h9
  · have h9 := h' _ (Lib.hid fun _ _ h => h)
    unfold wpOp
    rw [if_pos hwk] at h9
    simp only [hk, hwk, if_true]
    exact .inl h9
end Go.Proofs.Ytlandlgjhnnaiaa
