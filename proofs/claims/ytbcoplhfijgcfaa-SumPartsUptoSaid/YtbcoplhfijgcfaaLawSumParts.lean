/- The walk of SumParts: it returns true for every list of slices that are together of at most 1048576 bytes. -/
import Derived.Test.YtbcoplhfijgcfaaSumL2
import Derived.Test.YtbcoplhfijgcfaaSumW11
import Derived.Deep.AppendLies
import Derived.Deep.QuietTactic
import Derived.BigQuiet
set_option linter.unusedVariables false
set_option linter.unusedSimpArgs false
namespace Go.Proofs.Ytbcoplhfijgcfaa
open Go.RowKit SumMath
theorem info_bs : (Try.prog.info? 24).map (fun i => (i.zero, i.size, i.bytes)) = some (some (.slice none 0 0), 1, 24) := by kernel_rfl
/-- a row of slices of bytes of the call's own, each in a block of its own -/
structure OwnS (w : World) (base : Nat) (v : Value) (n : Nat) (us : List Value) (ls : List (List UInt8)) : Prop where
  row : w.ownsRow base 24 1 v n us
  len : ls.length = us.length
  el : ∀ j, j < us.length → ∃ n1, Own w base (us.getD j undef) n1 (ls.getD j []) ∧ n1 ≤ 1048576
theorem OwnS.n_eq {w : World} {base n : Nat} {v : Value} {us : List Value} {ls : List (List UInt8)} (h : OwnS w base v n us ls) : us.length = n := by have := h.row.1; rwa [Nat.mul_one] at this
theorem OwnS.nil (w : World) (base : Nat) : OwnS w base (.slice none 0 0) 0 [] [] := ⟨World.ownsRow_nil w base _ _, rfl, fun j hj => absurd hj (by simp)⟩
theorem OwnS.ext {w w' : World} {base n : Nat} {v : Value} {us : List Value} {ls : List (List UInt8)} (h : OwnS w base v n us ls) (hb : Below w.heap.size w w') : OwnS w' base v n us ls :=
  ⟨World.ownsRow.kept (row := none) h.row ⟨hb.os, hb.tape, hb.output, hb.size, fun i hi _ => hb.block i hi⟩ (by cases v.ownBlock <;> simp), h.len, fun j hj => by
    obtain ⟨n1, h1, h2⟩ := h.el j hj
    exact ⟨n1, h1.ext hb, h2⟩⟩
theorem own_apart {w : World} {b b' n n' : Nat} {v v' : Value} {l : List UInt8} {us : List Value} (h : Own w b v n l) (h' : w.ownsRow b' 24 1 v' n' us) : v.ownBlock = none ∨ v.ownBlock ≠ v'.ownBlock := by
  rcases h.2 with ⟨rfl, _⟩ | ⟨g, cap, cur, rfl, _, hh, _⟩
  · exact .inl rfl
  · refine .inr fun hk => ?_
    rcases h'.2 with ⟨rfl, _⟩ | ⟨g', cap', cur', rfl, _, hh', _⟩
    · simp [Value.ownBlock] at hk
    · have : g = g' := by simpa [Value.ownBlock] using hk
      subst this
      rw [hh] at hh'
      injection hh' with hh'
      injection hh' with _ ht
      exact absurd ht (by decide)
theorem getD_snoc_lt {α : Type} (l : List α) (a d : α) (j : Nat) (h : j < l.length) : (l ++ [a]).getD j d = l.getD j d := by
  simp [List.getD_eq_getElem?_getD, List.getElem?_append_left h]
theorem getD_snoc_eq {α : Type} (l : List α) (a d : α) : (l ++ [a]).getD l.length d = a := by
  simp [List.getD_eq_getElem?_getD]
theorem OwnS.rds {w : World} {base n : Nat} {v : Value} {us : List Value} {ls : List (List UInt8)} (h : OwnS w base v n us ls) (hm : n ≤ 140737488355328) : ∃ A c, v = .slice A n c ∧ Rds w A n c ls := by
  have hl := h.n_eq
  have hll := h.len
  rcases h.row.2 with ⟨rfl, h0⟩ | ⟨g, cap, cur, rfl, hb, hh, h1, h2, h3, h4⟩
  · subst h0
    exact ⟨none, 0, rfl, by omega, Nat.le_refl _, by omega, fun hp => absurd hp (by omega)⟩
  · refine ⟨_, cap, rfl, by omega, h1, hm, fun hp => ⟨g, 0, rfl, fun j hj => ?_⟩⟩
    obtain ⟨n1, ho, hn1⟩ := h.el j (by omega)
    obtain ⟨A1, c1, he, hr⟩ := ho.rd (by omega)
    refine ⟨A1, n1, c1, ?_, hr⟩
    have hj' : j < us.length := by omega
    have := World.ownsRow.cells h.row (g := g) rfl j (us.getD j undef) (by simp [List.getD_eq_getElem?_getD, List.getElem?_eq_getElem hj'])
    rw [Addr.add_mid] at this
    rw [this, he]
theorem wp_appS {w0 W : World} {ops : Array Oper} {rest : List Oper} {o : Oper} {a : Act} {Q : Exit → Act → World → Prop} (base : Nat) {v u : Value} {n n1 : Nat} {us : List Value} {ls : List (List UInt8)} {l : List UInt8}
    (HO : OwnS W base v n us ls) (HU : Own W base u n1 l) (hn1 : n1 ≤ 1048576) (h1 : u.oneCell' = true) (HB : Below base w0 W) (hbase : base ≤ W.heap.size) (hl : n ≤ 1048576) (s x : Operand) (hgd : o.guard = none)
    (ho : o.op = .call { callee := .builtin .append, args := #[s, x], argTypes := #[22, 22] }) (hs : a.eval s = v) (hx : a.eval x = .slice (some ⟨W.heap.size, 0, none⟩) 1 1)
    (h : ∀ v1 w1, OwnS w1 base v1 (n + 1) (us ++ [u]) (ls ++ [l]) → Below base w0 w1 → wpList Try.prog ops Q rest (a.put o.dst v1) w1) :
    wpList Try.prog ops Q (o :: rest) a (W.alloc (.cells #[u] 24)) := by
  obtain ⟨i0, hi, hzz⟩ := Option.map_eq_some_iff.1 info_bs
  simp only [Prod.mk.injEq] at hzz
  obtain ⟨hz0, hz1, hz2⟩ := hzz
  refine wpList_append_own_at (W.alloc (.cells #[u] 24)) hgd s x 22 ho base 24 i0 (.slice none 0 0) 1 24 Try.underlying22 hi hz0 hz1 hz2 rfl (by omega) v n us hs (HO.row.alloc _) ⟨W.heap.size, 0, none⟩ 1 1 [u] hx rfl
    (World.news_of_block (cs := #[u]) (t := 24) (fr := (0, 0)) (heap_alloc_new W _)) (by simpa using h1) (by simp only [maxLen]; omega) (by omega) (by simp; omega) ?_
  intro v1 w1 hown hg _ hat
  have hW : Below W.heap.size W (W.alloc (.cells #[u] 24)) := (Below.refl _ _).alloc (Nat.le_refl _) _
  have hrowW := HO.row.alloc (.cells #[u] 24)
  refine h v1 w1 ⟨hown, by simp [HO.len], fun j hj => ?_⟩ ((HB.alloc hbase _).grown hg (by simp; omega) (fun k hk => ((World.ownsRow.lt HO.row) k hk).1))
  simp only [List.length_append, List.length_singleton] at hj
  by_cases hj' : j < us.length
  · obtain ⟨m1, h2, h3⟩ := HO.el j hj'
    refine ⟨m1, ?_, h3⟩
    rw [getD_snoc_lt _ _ _ _ hj', getD_snoc_lt _ _ _ _ (by rw [HO.len]; exact hj')]
    exact (h2.ext hW).other hg (own_apart (h2.ext hW) hrowW)
  · have : j = us.length := by omega
    subst this
    refine ⟨n1, ?_, hn1⟩
    rw [getD_snoc_eq, show us.length = ls.length from HO.len.symm, getD_snoc_eq]
    exact (HU.ext hW).other hg (own_apart (HU.ext hW) hrowW)
theorem part_le (ls : List (List UInt8)) (k : Nat) (h : k < ls.length) : (ls.getD k []).length ≤ ls.flatten.length := by
  have h1 := flatten_take_le ls (k + 1)
  rw [flatten_take_succ ls k h, List.length_append] at h1
  omega
theorem walk_SumParts (A : Option Addr) (n c : Nat) (ls : List (List UInt8)) (W : World) (w0 : Rds W A n c ls) (z0 : ls.flatten.length ≤ 1048576 ∧ n ≤ 1048576) :
    Calls Try.prog 3 #[.slice A n c] W fun e W' => e = .returned (.bool true) ∧ Below W.heap.size W W' := by
  have HR := Lib.hid w0
  obtain ⟨z1, z2⟩ := z0
  clear w0
  go_enter Try.func3, Try.ntmps3
  go_wp2_with fail
  refine (law_fixed W).mono ?_
  rintro e w1 ⟨rfl, hb1⟩
  go_wp2_with fail
  go_loopw [4, 5] (fun v i wr => ∃ (k : Nat) (us : List Value), k ≤ n ∧ i = .int .i64 k ∧ OwnS wr W.heap.size v k us (ls.take k) ∧ Below W.heap.size W wr) (fun _ i _ => n - (intOf i).toNat)
  case atStart => exact ⟨0, [], by omega, rfl, OwnS.nil _ _, hb1⟩
  case round =>
    obtain ⟨k, us, hk, rfl, hO, hB⟩ := hrel
    have HO := Lib.hid hO
    have hz := hB.size
    clear hO
    by_cases hlt : k < n
    · obtain ⟨b, o, rfl, hc⟩ := HR.out.at_ (by omega)
      obtain ⟨A1, n1, c1, hcw, hR1⟩ := hc k hlt
      have hn1 : n1 ≤ 1048576 := by have := hR1.len; have := part_le ls k (by rw [HR.out.len]; exact hlt); omega
      have HR1 := Lib.hid (hR1.ext hB)
      have hcell := cell_ext hB hcw
      clear hc hR1 hcw
      have HT := Lib.hid (take_snoc ls k [] (by rw [HR.out.len]; exact hlt))
      generalize ls.getD k [] = l1 at *
      go_wp2_with fail
      refine (law_dup _ _ _ l1 _ HR1.out).mono ?_
      rintro e w2 ⟨v, rfl, hO1, hb2⟩
      have HO1 := Lib.hid (hO1.mono hz)
      obtain ⟨A2, c2, rfl, -⟩ := hO1.rd (by omega)
      have HO2 := Lib.hid (HO.out.ext hb2)
      have hB2 := hB.trans (hb2.mono hz)
      have hz2 := hB2.size
      clear hO1
      go_wp2_with (at_builtin; refine wp_appS (w0 := W) W.heap.size HO2.out HO1.out hn1 rfl hB2 hz2 (by omega) _ _ rfl rfl rfl rfl ?_; intro v1 w3 hO3 hB3; have HO3 := Lib.hid hO3; clear hO3)
      go_roundw
      case rel => exact ⟨k + 1, _, by omega, by go_num, by rw [HT.out]; exact HO3.out, hB3⟩
      case measure => simp [intOf]; omega
    · obtain rfl : k = n := by omega
      have HO1 := Lib.hid (show OwnS _ W.heap.size _ k us ls by have := HO.out; rwa [List.take_of_length_le (by rw [HR.out.len]; exact Nat.le_refl _)] at this)
      obtain ⟨A4, c4, rfl, hR4⟩ := HO1.out.rds (by omega)
      have HR4 := Lib.hid hR4
      clear hR4
      go_wp2_with fail
      refine (sum_Parts _ _ _ ls _ HR4.out).mono ?_
      rintro e w5 ⟨rfl, hb5⟩
      have hB5 := hB.trans (hb5.mono hz)
      go_wp2_with fail
      refine (ref_Parts _ _ _ ls _ (HR.out.ext hB5) z1).mono ?_
      rintro e w6 ⟨rfl, hb6⟩
      have hB6 := hB5.trans (hb6.mono hB5.size)
      have HR6 := Lib.hid ((HR4.out.ext hb5).ext hb6)
      have HP6 := Lib.hid (HR.out.ext hB6)
      go_wp2_with fail
      go_loopw [6] (fun i wr => ∃ j : Nat, j ≤ k ∧ i = .int .i64 j ∧ Rds wr A4 k c4 ls ∧ Rds wr A k c ls ∧ Below W.heap.size W wr) (fun i _ => k - (intOf i).toNat)
      case atStart => exact ⟨0, by omega, rfl, HR6.out, HP6.out, hB6⟩
      case round =>
        obtain ⟨j, hj, rfl, hRa, hRb, hBj⟩ := hrel
        have HRa := Lib.hid hRa
        have HRb := Lib.hid hRb
        clear hRa hRb
        by_cases hjk : j < k
        · obtain ⟨b, o, rfl, hc⟩ := HRa.out.at_ (by omega)
          obtain ⟨A1, n1, c1, hcell, hR1⟩ := hc j hjk
          obtain ⟨b', o', rfl, hc'⟩ := HRb.out.at_ (by omega)
          obtain ⟨A2, n2, c2, hcell', hR2⟩ := hc' j hjk
          have HE1 := Lib.hid hR1
          have HE2 := Lib.hid hR2
          clear hc hc' hR1 hR2
          have hj0 : (0 : Int) ≤ j ∧ (j : Int) < k := by omega
          go_wp2_with fail
          go_quiet ((go_at_call 17; refine Calls.quiet_of_same (law_same_true _ _ _ _ _ _ _ _ (HE1.out.drew _) (HE2.out.drew _))))
          go_wp2
          exact ⟨⟨j + 1, by omega, by go_num, HRa.out.drew _, HRb.out.drew _, below_drewN hBj _⟩, by simp [intOf]; omega⟩
        · go_wp2
          go_ret
          exact ⟨rfl, hBj⟩
end Go.Proofs.Ytbcoplhfijgcfaa
