/- Slices of the call's own beside a device and rows: nil, or in one block; append of one element. -/
import Derived.Test.YtjbffahmjhbpjaaKd
set_option linter.unusedVariables false
set_option linter.unusedSimpArgs false
set_option maxRecDepth 100000
namespace Go.Proofs.Ytjbffahmjhbpjaa
open Go.RowKit
def RowZ (t : TypeId) (sz : Nat) (o : Obj) (n c : Nat) (vs : List Value) : Prop := ∃ cur : Array Value, o = .cells cur t (0, 0) ∧ vs.length = n * sz ∧ n ≤ c ∧ c ≤ maxLen ∧ cur.size = c * sz ∧ cur.toList.take (n * sz) = vs
/-- a slice of the call's own: nil, or in the one block of Q -/
def QV (t : TypeId) (sz : Nat) (v : Value) (n : Nat) (vs : List Value) (Q : List (Nat × Obj)) : Prop :=
  (v = .slice none 0 0 ∧ n = 0 ∧ vs = [] ∧ Q = []) ∨ ∃ k c o, v = .slice (some ⟨k, 0, none⟩) n c ∧ Q = [(k, o)] ∧ RowZ t sz o n c vs
theorem QV.nil (t : TypeId) (sz : Nat) : QV t sz (.slice none 0 0) 0 [] [] := .inl ⟨rfl, rfl, rfl, rfl⟩
theorem RowZ.owns {t : TypeId} {sz k n c base : Nat} {o : Obj} {vs : List Value} {w : World} (h : RowZ t sz o n c vs) (hk : w.heap[k]? = some o) (hb : base ≤ k) : w.ownsRow base t sz (.slice (some ⟨k, 0, none⟩) n c) n vs := by
  obtain ⟨cur, rfl, h1, h2, h3, h4, h5⟩ := h
  exact ⟨h1, .inr ⟨k, c, cur, rfl, hb, hk, h2, h3, h4, h5⟩⟩
theorem RowZ.of {t : TypeId} {sz n base : Nat} {vs : List Value} {v : Value} {w : World} (h : w.ownsRow base t sz v n vs) (hn : 0 < n) : ∃ k c o, v = .slice (some ⟨k, 0, none⟩) n c ∧ w.heap[k]? = some o ∧ RowZ t sz o n c vs := by
  rcases h.2 with ⟨_, h0⟩ | ⟨g, cap, cur, rfl, hb, hh, h1, h2, h3, h4⟩
  · omega
  · exact ⟨g, cap, _, rfl, hh, cur, rfl, h.1, h1, h2, h3, h4⟩
theorem QV.owns {t : TypeId} {sz n : Nat} {vs : List Value} {v : Value} {Q : List (Nat × Obj)} {w : World} (h : QV t sz v n vs Q) (hQ : ∀ p ∈ Q, w.heap[p.1]? = some p.2) : w.ownsRow 0 t sz v n vs := by
  rcases h with ⟨rfl, rfl, rfl, rfl⟩ | ⟨k, c, o, rfl, rfl, hr⟩
  · exact World.ownsRow_nil _ _ _ _
  · exact hr.owns (hQ (k, o) (by simp)) (Nat.zero_le _)
theorem QV.slice {t : TypeId} {sz n : Nat} {vs : List Value} {v : Value} {Q : List (Nat × Obj)} (h : QV t sz v n vs Q) : ∃ A c, v = .slice A n c := by
  rcases h with ⟨rfl, rfl, rfl, rfl⟩ | ⟨k, c, o, rfl, rfl, hr⟩
  · exact ⟨none, 0, rfl⟩
  · exact ⟨_, c, rfl⟩
section
variable {w0 w w' : World} {b g : Nat} {vc : Value} {D : DS} {R : List (Nat × Obj)}
theorem St.perm {R' : List (Nat × Obj)} (h : St w0 w b g vc D R) (hp : R.Perm R') : St w0 w b g vc D R' :=
  ⟨h.dv, ⟨fun p hp' => h.kp.all p (hp.mem_iff.2 hp'), fun p hp' => h.kp.out p (hp.mem_iff.2 hp'), (hp.map Prod.fst).nodup_iff.1 h.kp.nd⟩, h.bl, h.sl, fun p hp' => h.rl p (hp.mem_iff.2 hp')⟩
theorem St.cons' (h : St w0 w b g vc D R) {k : Nat} {o : Obj} (hne : ∀ p ∈ R, p.1 ≠ k) (hS : k ∉ dvS b g vc) (hge : w0.heap.size ≤ k) (ho : w.heap[k]? = some o) : St w0 w b g vc D ((k, o) :: R) := by
  refine ⟨h.dv, ⟨fun p hp => ?_, fun p hp => ?_, ?_⟩, h.bl, h.sl, fun p hp => ?_⟩
  · rcases List.mem_cons.1 hp with rfl | hp
    · exact ho
    · exact h.kp.all p hp
  · rcases List.mem_cons.1 hp with rfl | hp
    · exact hS
    · exact h.kp.out p hp
  · rw [List.map_cons, List.nodup_cons]
    refine ⟨fun hm => ?_, h.kp.nd⟩
    obtain ⟨p, hp, he⟩ := List.mem_map.1 hm
    exact hne p hp he
  · rcases List.mem_cons.1 hp with rfl | hp
    · exact hge
    · exact h.rl p hp
/-- what a growing append leaves of the state -/
theorem St.appQ {t : TypeId} {sz n : Nat} {vs vs1 : List Value} {v v1 : Value} {P Q T : List (Nat × Obj)} (h : St w0 w b g vc D (P ++ (Q ++ T))) (hQ : QV t sz v n vs Q)
    (ho : w'.ownsRow 0 t sz v1 (n + 1) vs1) (hg : w.grownBy w' v.ownBlock) (hat : v1.ownBlock = v.ownBlock ∨ v1.ownBlock = some w.heap.size) : ∃ Q1, QV t sz v1 (n + 1) vs1 Q1 ∧ St w0 w' b g vc D (P ++ (Q1 ++ T)) := by
  obtain ⟨k1, c1, o1, rfl, hk1, hr1⟩ := RowZ.of ho (by omega)
  refine ⟨[(k1, o1)], .inr ⟨k1, c1, o1, rfl, rfl, hr1⟩, ?_⟩
  have fresh : ∀ w2 : World, w2 = w' → ∀ R', St w0 w' b g vc D R' → (∀ p ∈ R', p.1 < w.heap.size) → k1 = w.heap.size → R' = P ++ T → St w0 w' b g vc D (P ++ ([(k1, o1)] ++ T)) := by
    rintro _ _ R' hS hlt hk rfl
    refine (hS.cons' (k := k1) (o := o1) (fun p hp e => by have := hlt p hp; omega) (fun hm => by have := h.dv.lt k1 hm; omega) (by have := h.bl.size; omega) hk1).perm ?_
    exact List.perm_middle.symm
  rcases hQ with ⟨rfl, rfl, rfl, rfl⟩ | ⟨k, c, o, rfl, rfl, hr⟩
  · have hk : k1 = w.heap.size := by
      rcases hat with h1 | h1
      · simp [Value.ownBlock] at h1
      · simpa [Value.ownBlock] using h1
    have hb : Below w.heap.size w w' := ⟨hg.os, hg.tape, hg.output, hg.size, fun i hi => hg.block i hi (by simp [Value.ownBlock])⟩
    refine fresh w' rfl _ (h.below hb) (fun p hp => lt_of_block (h.kp.all p hp)) hk (by simp)
  · have hkl : k < w.heap.size := lt_of_block (h.kp.all (k, o) (by simp))
    have hO : Only [k] w w' := ⟨hg.os, hg.tape, hg.output, hg.size, fun i hi hn => hg.block i hi (by simp [Value.ownBlock]; simpa using fun e => hn (by simp [e]))⟩
    have hidx : (P ++ ([(k, o)] ++ T))[P.length]? = some (k, o) := by rw [List.getElem?_append_right (Nat.le_refl _), Nat.sub_self]; rfl
    have hset : ∀ o' : Obj, (P ++ ([(k, o)] ++ T)).set P.length (k, o') = P ++ ([(k, o')] ++ T) := fun o' => by
      rw [List.set_append_right _ _ (Nat.le_refl _), Nat.sub_self]; rfl
    have hw' : k < w'.heap.size := Nat.lt_of_lt_of_le hkl hg.size
    rcases hat with h1 | h1
    · have hkk : k1 = k := by simpa [Value.ownBlock] using h1
      subst hkk
      have h2 := h.upd P.length hidx hO hk1
      rwa [hset] at h2
    · have hkk : k1 = w.heap.size := by simpa [Value.ownBlock] using h1
      have h2 := h.upd P.length hidx hO (o' := w'.heap[k]) (by rw [Array.getElem?_eq_getElem hw'])
      rw [hset] at h2
      have h3 := h2.sub (R' := P ++ T) (List.Sublist.append (List.Sublist.refl _) (List.sublist_cons_self _ _))
      refine fresh w' rfl _ h3 (fun p hp => ?_) hkk rfl
      rcases List.mem_append.1 hp with hp | hp
      · exact lt_of_block (h.kp.all p (by simp [hp]))
      · exact lt_of_block (h.kp.all p (by simp [hp]))
end
section
variable {ops : Array Oper} {rest : List Oper} {o : Oper} {a : Act} {Q' : Exit → Act → World → Prop}
/-- append(v, e): one element, behind its box -/
theorem wp_appQ {w0 W : World} {b g : Nat} {vc : Value} {D : DS} {tS t : TypeId} {i0 : TypeInfo} {z : Value} {sz bytes : Nat} (ht : Try.prog.underlying tS = some (.slice t)) (hi : Try.prog.info? t = some i0) (hz0 : i0.zero = some z) (hz1 : i0.size = sz) (hz2 : i0.bytes = bytes) (hzs : z.cells.size = sz) (hsz : 0 < sz)
    {v : Value} {n : Nat} {vs : List Value} {P Q T : List (Nat × Obj)} (hS : St w0 W b g vc D (P ++ (Q ++ T))) (hQ : QV t sz v n vs Q) (news : List Value) (hnl : news.length = sz) (h1 : ∀ u ∈ news, u.oneCell' = true) (hlim : (n + 1) * bytes ≤ 140737488355328) (hmax : n + 1 ≤ maxLen)
    (s x : Operand) (hgd : o.guard = none) (ho : o.op = .call { callee := .builtin .append, args := #[s, x], argTypes := #[tS, tS] }) (hs : a.eval s = v) (hx : a.eval x = .slice (some ⟨W.heap.size, 0, none⟩) 1 1)
    (h : ∀ v1 w1 Q1, QV t sz v1 (n + 1) (vs ++ news) Q1 → St w0 w1 b g vc D (P ++ (Q1 ++ T)) → wpList Try.prog ops Q' rest (a.put o.dst v1) w1) :
    wpList Try.prog ops Q' (o :: rest) a (W.alloc (.cells news.toArray t)) := by
  have hS2 := hS.alloc (.cells news.toArray t)
  obtain ⟨v1, w1, hr, h3, h4, _, h5⟩ := run_append_own_at (P := Try.prog) (W.alloc (.cells news.toArray t)) 0 tS o.type t i0 z sz bytes ht hi hz0 hz1 hz2 hzs hsz v n vs (hQ.owns (fun p hp => hS2.kp.all p (by simp [hp]))) ⟨W.heap.size, 0, none⟩ 1 1 news (by omega) (fun j u hu => by
    rw [Addr.add_mid, Nat.zero_add, cell_of_row _ _ _ _ _ _ (heap_alloc_new W _)]
    simpa using hu) h1 hmax hlim (Nat.zero_le _)
  obtain ⟨Q1, hq, hSt⟩ := hS2.appQ hQ h3 h4 h5
  refine wpList_plain hgd fun K hK => ?_
  unfold Oper.wp execOp
  simp only [ho, resolve, invoke, builtin, Sem.run_bind, Sem.run_pure, Result.andThen_ok, List.map_toArray, List.map_cons, List.map_nil, hs, hx, hr]
  exact hK _ _ (h v1 w1 Q1 hq hSt)
end
end Go.Proofs.Ytjbffahmjhbpjaa
