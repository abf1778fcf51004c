/- A second device beside the first. -/
import Derived.Test.YtggoaelbglhehaaMgA8
/- A second device beside the first. -/
set_option linter.unusedVariables false
set_option linter.unusedSimpArgs false
set_option maxRecDepth 100000
namespace Go.Proofs.Ytggoaelbglhehaa
open Go.RowKit
section
variable {w0 w w' : World} {b g : Nat} {vc : Value} {D : DS} {R : List (Nat × Obj)}
theorem St.new2 (h : St w0 w b g vc D R) (hb : Below w.heap.size w w') {o1 o2 : Obj} (h1 : w'.heap[w.heap.size + 1]? = some o1) (h2 : w'.heap[w.heap.size]? = some o2) : St w0 w' b g vc D ((w.heap.size + 1, o1) :: (w.heap.size, o2) :: R) := by
  refine (h.new hb (Nat.le_refl _) h2).cons (fun p hp e => ?_) (fun hm => by have := h.dv.lt _ hm; omega) (by have := h.bl.size; omega) h1
  rcases List.mem_cons.1 hp with rfl | hp
  · exact absurd e (by show ¬ (w.heap.size = w.heap.size + 1); omega)
  · have := lt_of_block (h.kp.all p hp); omega
theorem St.swap {b2 g2 : Nat} {o1 o2 : Obj} {D2 : DS} {R' : List (Nat × Obj)} (h : St w0 w b g vc D ((b2, o1) :: (g2, o2) :: R')) (hv : IsV w b2 g2 (.slice none 0 0) D2) : St w0 w b2 g2 (.slice none 0 0) D2 R' := by
  have hnd := h.kp.nd
  simp only [List.map_cons, List.nodup_cons, List.mem_cons, not_or] at hnd
  have hsub : R'.Sublist ((b2, o1) :: (g2, o2) :: R') := (List.sublist_cons_self _ _).trans (List.sublist_cons_self _ _)
  have h3 := h.sub hsub
  refine ⟨hv, ⟨h3.kp.all, fun p hp hm => ?_, h3.kp.nd⟩, h.bl, fun s hs => ?_, h3.rl⟩
  · have hp1 : p.1 ∈ List.map Prod.fst R' := List.mem_map.2 ⟨p, hp, rfl⟩
    simp only [dvS, Value.ownBlock, Option.toList_none, List.mem_cons, List.not_mem_nil, or_false] at hm
    rcases hm with e | e
    · exact hnd.1.2 (e ▸ hp1)
    · exact hnd.2.1 (e ▸ hp1)
  · simp only [dvS, Value.ownBlock, Option.toList_none, List.mem_cons, List.not_mem_nil, or_false] at hs
    rcases hs with rfl | rfl
    · exact h.rl _ (List.mem_cons_self)
    · exact h.rl _ (List.mem_cons_of_mem _ (List.mem_cons_self))
end
/-- a device just made over a medium, of which rd reads were done -/
def ofD (L : List UInt8) (rd : Nat) : DS := ⟨64, L, [], 0, false, false, rd, 0, 0⟩
def ofO (g : Nat) : Obj := .cells #[.slice (some ⟨g, 0, none⟩) 64 64, .slice none 0 0, .int .i64 0, .bool false, .bool false, .int .i64 0, .int .i64 0, .int .i64 0] 86 (0, 0)
def ofM2 (L : List UInt8) : Obj := .cells (bv L).toArray 89 (0, 0)
theorem st_Of {w0 w : World} {b g : Nat} {vc : Value} {D : DS} {R : List (Nat × Obj)} (i : Nat) {k c : Nat} {o : Obj} {L : List UInt8} (h : St w0 w b g vc D R) (hi : R[i]? = some (k, o)) (hr : RowB o 32768 c L) :
    Calls Try.prog 37 #[.slice (some ⟨k, 0, none⟩) 32768 c] w fun e w' => ∃ b2 g2, e = .returned (.tuple #[.pointer (some ⟨b2, 0, none⟩), .int .i64 0]) ∧ St w0 w' b g vc D ((b2, ofO g2) :: (g2, ofM2 L) :: R) ∧ b2 ≠ g2 := by
  refine (dv_Of_ok (some ⟨k, 0, none⟩) 32768 c L w (h.rd i hi hr (by omega)) ⟨by omega, by omega, by omega⟩).mono ?_
  rintro e w' ⟨rfl, hD, hb⟩
  exact ⟨_, _, rfl, h.new2 hb hD.st hD.med, hD.ne⟩
theorem ofV {w : World} {b2 g2 : Nat} {L : List UInt8} (h1 : w.heap[b2]? = some (ofO g2)) (h2 : w.heap[g2]? = some (ofM2 L)) (hL : L.length = 32768) (hne : b2 ≠ g2) : IsV w b2 g2 (.slice none 0 0) (ofD L 0) :=
  ⟨⟨h1, h2, hL, hne, by show 64 ≤ 64 ∧ 64 ≤ 4096; omega⟩, ⟨PdOk.nil _, World.ownsRow_nil _ _ _ _⟩, fun k hk => by cases hk⟩
theorem crD_nil_M {D : DS} (hM : D.M.length = D.n * 512) (hC : PdOk D.n D.C) : (crD D []).M = D.M := layA_none 0 D.C D.M (fun x hx => by
  have h1 := (hC x hx).1
  have h2 : (x.num + 1) * 512 ≤ D.n * 512 := Nat.mul_le_mul_right _ h1
  omega)
theorem dv_BlocksV (w : World) (b g : Nat) (vc : Value) (D : DS) (h : IsV w b g vc D) :
    Calls Try.prog 50 #[.pointer (some ⟨b, 0, none⟩)] w fun e w' => e = .returned (.int .i64 D.n) ∧ w' = w := dv_Blocks _ _ _ _ _ _ _ _ _ _ _ _ h.dev
end Go.Proofs.Ytggoaelbglhehaa
/- What Read, Raw, Medium answer, the answer's row at the end of the list. -/
set_option linter.unusedVariables false
set_option linter.unusedSimpArgs false
set_option maxRecDepth 100000
namespace Go.Proofs.Ytggoaelbglhehaa
open Go.RowKit
/-- what Read answers -/
def rdG (D : DS) (num : Int) : List UInt8 × Int × DS := if ¬ (0 ≤ num ∧ num < (D.n : Int)) then ([], 60, D) else if D.down = true then ([], 6, D) else (rdB D num.toNat, 0, { D with rd := D.rd + 1 })
/-- what Raw answers -/
def rwG (D : DS) (num : Int) : List UInt8 × Int := if ¬ (0 ≤ num ∧ num < (D.n : Int)) then ([], 60) else (blkM D.M num.toNat, 0)
section
variable {w0 w w' : World} {b g : Nat} {vc : Value} {D : DS} {R : List (Nat × Obj)}
theorem St.app0 (h : St w0 w b g vc D R) : St w0 w b g vc D (R ++ []) := by rw [List.append_nil]; exact h
theorem row_rd {k n c : Nat} {o : Obj} {l : List UInt8} (hr : RowB o n c l) (hn : n ≤ 140737490452480) : ∀ W : World, (∀ p ∈ [(k, o)], W.heap[p.1]? = some p.2) → Rd W (some ⟨k, 0, none⟩) n c l := fun W hW => hr.rd (hW (k, o) (by simp)) hn
theorem st_ReadG (num : Int) (h : St w0 w b g vc D R) (hrd : D.rd < 9223372036854775807) (hq : D.C.length ≤ 100000000000) :
    Calls Try.prog 49 #[.pointer (some ⟨b, 0, none⟩), .int .i64 num] w fun e w' => ∃ A n c R1, e = .returned (.tuple #[.slice A n c, .int .i64 (rdG D num).2.1]) ∧ (∀ W : World, (∀ p ∈ R1, W.heap[p.1]? = some p.2) → Rd W A n c (rdG D num).1) ∧ (n = 0 ∨ (rdG D num).2.1 = 0) ∧ St w0 w' b g vc (rdG D num).2.2 (R ++ R1) := by
  by_cases hn : 0 ≤ num ∧ num < (D.n : Int)
  · by_cases hd : D.down = true
    · rw [show rdG D num = ([], 6, D) by unfold rdG; rw [if_neg (by simpa using hn), if_pos hd]]
      refine (dv_Read_down w b g vc D num h.dv hn hd).mono ?_
      rintro e w' ⟨rfl, rfl⟩
      exact ⟨none, 0, 0, [], rfl, fun W _ => Rd.nil W, .inl rfl, h.app0⟩
    · obtain ⟨k, rfl⟩ : ∃ k : Nat, num = k := ⟨num.toNat, by omega⟩
      rw [show rdG D k = (rdB D k, 0, { D with rd := D.rd + 1 }) by unfold rdG; rw [if_neg (by simpa using hn), if_neg hd, Int.toNat_natCast]]
      refine (st_Read k h (by omega) (by simpa using hd) hrd hq).mono ?_
      rintro e w' ⟨j, o, rfl, hr, hS⟩
      exact ⟨_, 512, 512, [(j, o)], rfl, row_rd hr (by omega), .inr rfl, hS.back⟩
  · rw [show rdG D num = ([], 60, D) by unfold rdG; rw [if_pos hn]]
    refine (dv_Read_bad w b g vc D num h.dv hn).mono ?_
    rintro e w' ⟨rfl, rfl⟩
    exact ⟨none, 0, 0, [], rfl, fun W _ => Rd.nil W, .inl rfl, h.app0⟩
theorem st_MediumG (h : St w0 w b g vc D R) :
    Calls Try.prog 34 #[.pointer (some ⟨b, 0, none⟩)] w fun e w' => ∃ A c R1, e = .returned (.slice A (D.n * 512) c) ∧ (∀ W : World, (∀ p ∈ R1, W.heap[p.1]? = some p.2) → Rd W A (D.n * 512) c D.M) ∧ St w0 w' b g vc D (R ++ R1) := by
  have hs := h.dv.dev.small
  refine (st_Medium h).mono ?_
  rintro e w' ⟨j, c, o, rfl, hr, hS⟩
  exact ⟨_, c, [(j, o)], rfl, row_rd hr (by omega), hS.back⟩
theorem st_DownG (h : St w0 w b g vc D R) :
    Calls Try.prog 36 #[.pointer (some ⟨b, 0, none⟩)] w fun e w' => e = .returned (.bool D.down) ∧ w' = w := dv_Down w b g vc D h.dv
theorem st_CountsG (h : St w0 w b g vc D R) :
    Calls Try.prog 32 #[.pointer (some ⟨b, 0, none⟩)] w fun e w' => e = .returned (cntV D) ∧ St w0 w' b g vc D R :=
  (dv_Counts w b g vc D h.dv).mono fun e w' ⟨h1, h2⟩ => ⟨h1, h.below h2⟩
end
end Go.Proofs.Ytggoaelbglhehaa
/- Slices of the call's own beside a device and rows: nil, or in one block; append of one element. -/
set_option linter.unusedVariables false
set_option linter.unusedSimpArgs false
set_option maxRecDepth 100000
namespace Go.Proofs.Ytggoaelbglhehaa
open Go.RowKit
def RowZ (t : TypeId) (sz : Nat) (o : Obj) (n c : Nat) (vs : List Value) : Prop := ∃ cur : Array Value, o = .cells cur t (0, 0) ∧ vs.length = n * sz ∧ n ≤ c ∧ c ≤ maxLen ∧ cur.size = c * sz ∧ cur.toList.take (n * sz) = vs
/-- a slice of the call's own: nil, or in the one block of Q -/
def QV (t : TypeId) (sz : Nat) (v : Value) (n : Nat) (vs : List Value) (Q : List (Nat × Obj)) : Prop :=
  (v = .slice none 0 0 ∧ n = 0 ∧ vs = [] ∧ Q = []) ∨ ∃ k c o, v = .slice (some ⟨k, 0, none⟩) n c ∧ Q = [(k, o)] ∧ RowZ t sz o n c vs
theorem QV.nil (t : TypeId) (sz : Nat) : QV t sz (.slice none 0 0) 0 [] [] := .inl ⟨rfl, rfl, rfl, rfl⟩
theorem RowZ.owns {t : TypeId} {sz k n c base : Nat} {o : Obj} {vs : List Value} {w : World} (h : RowZ t sz o n c vs) (hk : w.heap[k]? = some o) (hb : base ≤ k) : w.ownsRow base t sz (.slice (some ⟨k, 0, none⟩) n c) n vs := by
  obtain ⟨cur, rfl, h1, h2, h3, h4, h5⟩ := h
  exact ⟨h1, .inr ⟨k, c, cur, rfl, hb, hk, h2, h3, h4, h5⟩⟩
theorem RowZ.of {t : TypeId} {sz n base : Nat} {vs : List Value} {v : Value} {w : World} (h : w.ownsRow base t sz v n vs) (hn : 0 < n) : ∃ k c o, v = .slice (some ⟨k, 0, none⟩) n c ∧ w.heap[k]? = some o ∧ RowZ t sz o n c vs := by
  rcases h.2 with ⟨_, h0⟩ | ⟨g, cap, cur, rfl, hb, hh, h1, h2, h3, h4⟩
  · omega
  · exact ⟨g, cap, _, rfl, hh, cur, rfl, h.1, h1, h2, h3, h4⟩
theorem QV.owns {t : TypeId} {sz n : Nat} {vs : List Value} {v : Value} {Q : List (Nat × Obj)} {w : World} (h : QV t sz v n vs Q) (hQ : ∀ p ∈ Q, w.heap[p.1]? = some p.2) : w.ownsRow 0 t sz v n vs := by
  rcases h with ⟨rfl, rfl, rfl, rfl⟩ | ⟨k, c, o, rfl, rfl, hr⟩
  · exact World.ownsRow_nil _ _ _ _
  · exact hr.owns (hQ (k, o) (by simp)) (Nat.zero_le _)
theorem QV.slice {t : TypeId} {sz n : Nat} {vs : List Value} {v : Value} {Q : List (Nat × Obj)} (h : QV t sz v n vs Q) : ∃ A c, v = .slice A n c := by
  rcases h with ⟨rfl, rfl, rfl, rfl⟩ | ⟨k, c, o, rfl, rfl, hr⟩
  · exact ⟨none, 0, rfl⟩
  · exact ⟨_, c, rfl⟩
section
variable {w0 w w' : World} {b g : Nat} {vc : Value} {D : DS} {R : List (Nat × Obj)}
theorem St.perm {R' : List (Nat × Obj)} (h : St w0 w b g vc D R) (hp : R.Perm R') : St w0 w b g vc D R' :=
  ⟨h.dv, ⟨fun p hp' => h.kp.all p (hp.mem_iff.2 hp'), fun p hp' => h.kp.out p (hp.mem_iff.2 hp'), (hp.map Prod.fst).nodup_iff.1 h.kp.nd⟩, h.bl, h.sl, fun p hp' => h.rl p (hp.mem_iff.2 hp')⟩
theorem St.cons' (h : St w0 w b g vc D R) {k : Nat} {o : Obj} (hne : ∀ p ∈ R, p.1 ≠ k) (hS : k ∉ dvS b g vc) (hge : w0.heap.size ≤ k) (ho : w.heap[k]? = some o) : St w0 w b g vc D ((k, o) :: R) := by
  refine ⟨h.dv, ⟨fun p hp => ?_, fun p hp => ?_, ?_⟩, h.bl, h.sl, fun p hp => ?_⟩
  · rcases List.mem_cons.1 hp with rfl | hp
    · exact ho
    · exact h.kp.all p hp
  · rcases List.mem_cons.1 hp with rfl | hp
    · exact hS
    · exact h.kp.out p hp
  · rw [List.map_cons, List.nodup_cons]
    refine ⟨fun hm => ?_, h.kp.nd⟩
    obtain ⟨p, hp, he⟩ := List.mem_map.1 hm
    exact hne p hp he
  · rcases List.mem_cons.1 hp with rfl | hp
    · exact hge
    · exact h.rl p hp
/-- what a growing append leaves of the state -/
theorem St.appQ {t : TypeId} {sz n : Nat} {vs vs1 : List Value} {v v1 : Value} {P Q T : List (Nat × Obj)} (h : St w0 w b g vc D (P ++ (Q ++ T))) (hQ : QV t sz v n vs Q)
    (ho : w'.ownsRow 0 t sz v1 (n + 1) vs1) (hg : w.grownBy w' v.ownBlock) (hat : v1.ownBlock = v.ownBlock ∨ v1.ownBlock = some w.heap.size) : ∃ Q1, QV t sz v1 (n + 1) vs1 Q1 ∧ St w0 w' b g vc D (P ++ (Q1 ++ T)) := by
  obtain ⟨k1, c1, o1, rfl, hk1, hr1⟩ := RowZ.of ho (by omega)
  refine ⟨[(k1, o1)], .inr ⟨k1, c1, o1, rfl, rfl, hr1⟩, ?_⟩
  have fresh : ∀ w2 : World, w2 = w' → ∀ R', St w0 w' b g vc D R' → (∀ p ∈ R', p.1 < w.heap.size) → k1 = w.heap.size → R' = P ++ T → St w0 w' b g vc D (P ++ ([(k1, o1)] ++ T)) := by
    rintro _ _ R' hS hlt hk rfl
    refine (hS.cons' (k := k1) (o := o1) (fun p hp e => by have := hlt p hp; omega) (fun hm => by have := h.dv.lt k1 hm; omega) (by have := h.bl.size; omega) hk1).perm ?_
    exact List.perm_middle.symm
  rcases hQ with ⟨rfl, rfl, rfl, rfl⟩ | ⟨k, c, o, rfl, rfl, hr⟩
  · have hk : k1 = w.heap.size := by
      rcases hat with h1 | h1
      · simp [Value.ownBlock] at h1
      · simpa [Value.ownBlock] using h1
    have hb : Below w.heap.size w w' := ⟨hg.os, hg.tape, hg.output, hg.size, fun i hi => hg.block i hi (by simp [Value.ownBlock])⟩
    refine fresh w' rfl _ (h.below hb) (fun p hp => lt_of_block (h.kp.all p hp)) hk (by simp)
  · have hkl : k < w.heap.size := lt_of_block (h.kp.all (k, o) (by simp))
    have hO : Only [k] w w' := ⟨hg.os, hg.tape, hg.output, hg.size, fun i hi hn => hg.block i hi (by simp [Value.ownBlock]; simpa using fun e => hn (by simp [e]))⟩
    have hidx : (P ++ ([(k, o)] ++ T))[P.length]? = some (k, o) := by rw [List.getElem?_append_right (Nat.le_refl _), Nat.sub_self]; rfl
    have hset : ∀ o' : Obj, (P ++ ([(k, o)] ++ T)).set P.length (k, o') = P ++ ([(k, o')] ++ T) := fun o' => by
      rw [List.set_append_right _ _ (Nat.le_refl _), Nat.sub_self]; rfl
    have hw' : k < w'.heap.size := Nat.lt_of_lt_of_le hkl hg.size
    rcases hat with h1 | h1
    · have hkk : k1 = k := by simpa [Value.ownBlock] using h1
      subst hkk
      have h2 := h.upd P.length hidx hO hk1
      rwa [hset] at h2
    · have hkk : k1 = w.heap.size := by simpa [Value.ownBlock] using h1
      have h2 := h.upd P.length hidx hO (o' := w'.heap[k]) (by rw [Array.getElem?_eq_getElem hw'])
      rw [hset] at h2
      have h3 := h2.sub (R' := P ++ T) (List.Sublist.append (List.Sublist.refl _) (List.sublist_cons_self _ _))
      refine fresh w' rfl _ h3 (fun p hp => ?_) hkk rfl
      rcases List.mem_append.1 hp with hp | hp
      · exact lt_of_block (h.kp.all p (by simp [hp]))
      · exact lt_of_block (h.kp.all p (by simp [hp]))
end
section
variable {ops : Array Oper} {rest : List Oper} {o : Oper} {a : Act} {Q' : Exit → Act → World → Prop}
/-- append(v, e): one element, behind its box -/
theorem wp_appQ {w0 W : World} {b g : Nat} {vc : Value} {D : DS} {tS t : TypeId} {i0 : TypeInfo} {z : Value} {sz bytes : Nat} (ht : Try.prog.underlying tS = some (.slice t)) (hi : Try.prog.info? t = some i0) (hz0 : i0.zero = some z) (hz1 : i0.size = sz) (hz2 : i0.bytes = bytes) (hzs : z.cells.size = sz) (hsz : 0 < sz)
    {v : Value} {n : Nat} {vs : List Value} {P Q T : List (Nat × Obj)} (hS : St w0 W b g vc D (P ++ (Q ++ T))) (hQ : QV t sz v n vs Q) (news : List Value) (hnl : news.length = sz) (h1 : ∀ u ∈ news, u.oneCell' = true) (hlim : (n + 1) * bytes ≤ 140737488355328) (hmax : n + 1 ≤ maxLen)
    (s x : Operand) (hgd : o.guard = none) (ho : o.op = .call { callee := .builtin .append, args := #[s, x], argTypes := #[tS, tS] }) (hs : a.eval s = v) (hx : a.eval x = .slice (some ⟨W.heap.size, 0, none⟩) 1 1)
    (h : ∀ v1 w1 Q1, QV t sz v1 (n + 1) (vs ++ news) Q1 → St w0 w1 b g vc D (P ++ (Q1 ++ T)) → wpList Try.prog ops Q' rest (a.put o.dst v1) w1) :
    wpList Try.prog ops Q' (o :: rest) a (W.alloc (.cells news.toArray t)) := by
  have hS2 := hS.alloc (.cells news.toArray t)
  obtain ⟨v1, w1, hr, h3, h4, _, h5⟩ := run_append_own_at (P := Try.prog) (W.alloc (.cells news.toArray t)) 0 tS o.type t i0 z sz bytes ht hi hz0 hz1 hz2 hzs hsz v n vs (hQ.owns (fun p hp => hS2.kp.all p (by simp [hp]))) ⟨W.heap.size, 0, none⟩ 1 1 news (by omega) (fun j u hu => by
    rw [Addr.add_mid, Nat.zero_add, cell_of_row _ _ _ _ _ _ (heap_alloc_new W _)]
    simpa using hu) h1 hmax hlim (Nat.zero_le _)
  obtain ⟨Q1, hq, hSt⟩ := hS2.appQ hQ h3 h4 h5
  refine wpList_plain hgd fun K hK => ?_
  unfold Oper.wp execOp
  simp only [ho, resolve, invoke, builtin, Sem.run_bind, Sem.run_pure, Result.andThen_ok, List.map_toArray, List.map_cons, List.map_nil, hs, hx, hr]
  exact hK _ _ (h v1 w1 Q1 hq hSt)
end
end Go.Proofs.Ytggoaelbglhehaa
