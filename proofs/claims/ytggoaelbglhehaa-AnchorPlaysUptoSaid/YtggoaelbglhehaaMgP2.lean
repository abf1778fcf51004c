/- AnchorWhole, plain: a torn superblock is whole, or it is told by its generations. -/
import Derived.Test.YtggoaelbglhehaaMgP1
import Derived.Test.YtggoaelbglhehaaMgA12
import Derived.Laws.Rows
import Derived.Deep.RegionHeld3
/- AnchorWhole, plain: a torn superblock is whole, or it is told by its generations. -/
set_option linter.unusedVariables false
set_option linter.unusedSimpArgs false
set_option maxRecDepth 100000
namespace Go.Proofs.Ytggoaelbglhehaa
open Go.RowKit SumMath
def tear (X B : List UInt8) (k : Nat) : List UInt8 := X.take k ++ B.drop k
/-- a block that is to be written with generation g -/
def Pre (g : Int) (B : List UInt8) : Prop := B.length = 512 ∧ ((leN (seg B 504 8) = 0 ∨ (leN (seg B 504 8) : Int) + 2 ≤ g) ∨ (seg B 8 8 = leB 8 g ∧ seg B 504 8 ≠ leB 8 g))
theorem tear_len {X B : List UInt8} {k : Nat} (hx : X.length = 512) (hb : B.length = 512) : (tear X B k).length = 512 := by
  unfold tear
  rw [List.length_append, List.length_take, List.length_drop]; omega
theorem tear_get {X B : List UInt8} {k : Nat} (hx : X.length = 512) (hb : B.length = 512) (i : Nat) : (tear X B k)[i]? = if i < k then X[i]? else B[i]? := by
  unfold tear
  by_cases h : i < k
  · rw [if_pos h]
    by_cases h2 : i < 512
    · rw [List.getElem?_append_left (by rw [List.length_take]; omega), List.getElem?_take, if_pos h]
    · rw [List.getElem?_eq_none (by rw [List.length_append, List.length_take, List.length_drop]; omega), List.getElem?_eq_none (by omega)]
  · rw [if_neg h]
    by_cases h3 : k ≤ 512
    · rw [List.getElem?_append_right (by rw [List.length_take]; omega), List.length_take, List.getElem?_drop, show min k X.length = k by omega]
      congr 1; omega
    · rw [List.getElem?_eq_none (by rw [List.length_append, List.length_take, List.length_drop]; omega), List.getElem?_eq_none (by omega)]
theorem leN_gen (g : Int) (h0 : 0 ≤ g) (h1 : g ≤ 1152921500311879680) : (leN (leB 8 g) : Int) = g := by
  rw [leN_leB, Int.emod_eq_of_lt h0 (by have : ((256 ^ 8 : Nat) : Int) = 18446744073709551616 := by decide
                                        omega)]
theorem pre_end {g : Int} {B : List UInt8} (h : Pre g B) (h0 : 1 ≤ g) (h1 : g ≤ 1152921500311879680) : seg B 504 8 ≠ leB 8 g := fun e => by
  have h2 := leN_gen g (by omega) h1
  rcases h.2 with (h3 | h3) | h3
  · rw [e] at h3; omega
  · rw [e] at h3; omega
  · exact h3.2 e
theorem tear_pre {g : Int} {X B : List UInt8} (k : Nat) (h0 : 1 ≤ g) (h1 : g ≤ 1152921500311879680) (hx : X.length = 512) (hh : seg X 8 8 = leB 8 g) (he : seg X 504 8 = leB 8 g) (h : Pre g B) : tear X B k = X ∨ Pre g (tear X B k) := by
  have hb := h.1
  have hn := pre_end h h0 h1
  have hl := tear_len (k := k) hx hb
  by_cases hE : seg (tear X B k) 504 8 = leB 8 g
  · left
    have hk : 505 ≤ k := by
      rcases Nat.lt_or_ge k 505 with hk | hk
      · exfalso
        apply hn
        rw [← hE]
        apply List.ext_getElem?
        intro i
        rw [seg_get, seg_get]
        split
        · rw [tear_get hx hb, if_neg (by omega)]
        · rfl
      · exact hk
    apply List.ext_getElem?
    intro i
    by_cases h2 : i < 504
    · rw [tear_get hx hb, if_pos (by omega)]
    · by_cases h3 : i < 512
      · have h4 := congrArg (fun l => l[i - 504]?) (hE.trans he.symm)
        simp only [seg_get] at h4
        rw [if_pos (by omega), if_pos (by omega), show 504 + (i - 504) = i by omega] at h4
        exact h4
      · rw [List.getElem?_eq_none (by omega), List.getElem?_eq_none (by omega)]
  · right
    refine ⟨hl, ?_⟩
    by_cases hk : k ≤ 504
    · have e : seg (tear X B k) 504 8 = seg B 504 8 := by
        apply List.ext_getElem?
        intro i
        rw [seg_get, seg_get]
        split
        · rw [tear_get hx hb, if_neg (by omega)]
        · rfl
      rcases h.2 with h3 | h3
      · left; rw [e]; exact h3
      · right
        refine ⟨?_, hE⟩
        rw [← h3.1]
        apply List.ext_getElem?
        intro i
        have h5 := congrArg (fun l => l[i]?) (hh.trans h3.1.symm)
        simp only [seg_get] at h5
        rw [seg_get, seg_get]
        split
        · rename_i hi
          rw [if_pos hi, if_pos hi] at h5
          rw [tear_get hx hb]
          split
          · exact h5
          · rfl
        · rfl
    · right
      refine ⟨?_, hE⟩
      rw [← hh]
      apply List.ext_getElem?
      intro i
      rw [seg_get, seg_get]
      split
      · rw [tear_get hx hb, if_pos (by omega)]
      · rfl
theorem enc_head (s : Sp) : seg (encL s) 8 8 = leB 8 s.gen := enc_fld s 1 8 8 s.gen (by decide) rfl (by decide) (by intro f hf; simp [flds] at hf; rcases hf with rfl | rfl | rfl | rfl | rfl | rfl | rfl | rfl | rfl <;> (dsimp only; omega))
theorem enc_end (s : Sp) : seg (encL s) 504 8 = leB 8 s.gen := enc_fld s 10 504 8 s.gen (by decide) rfl (by decide) (by intro f hf; simp [flds] at hf)
/-- what such a block tells, if anything, lies two behind -/
theorem pre_old {g : Int} {B : List UInt8} (h : Pre g B) (hd : (decG B).2 = 0) : (decG B).1.gen + 2 ≤ g := by
  obtain ⟨h1, h2, h3⟩ := decG_ok hd
  have hg := h2.gen
  have e1 := enc_head (decG B).1
  have e2 := enc_end (decG B).1
  rw [h3] at e1 e2
  have h4 := leN_gen (decG B).1.gen (by omega) hg.2
  rcases h.2 with (h5 | h5) | h5
  · rw [e2] at h5; omega
  · rw [e2] at h5; omega
  · exact absurd (e2.trans (e1.symm.trans h5.1)) h5.2
theorem pre_zero (g : Int) : Pre g (List.replicate 512 0) := ⟨List.length_replicate, .inl (.inl (by
  have : ∀ n, leN (List.replicate n (0 : UInt8)) = 0 := fun n => by
    induction n with
    | zero => rfl
    | succ n ih => rw [List.replicate_succ, leN, ih]; rfl
  unfold seg
  rw [List.drop_replicate, List.take_replicate]
  exact this _))⟩
theorem pre_enc (s : Sp) (h0 : 1 ≤ s.gen) (h1 : s.gen ≤ 1152921500311879680) : Pre (s.gen + 2) (encL s) := ⟨encL_len s, .inl (.inr (by rw [enc_end, leN_gen _ (by omega) h1]; omega))⟩
/-! ### the device between two tries: c counts -/
structure Wh (D : DS) (c : Sp) : Prop where
  n : D.n = 64
  len : D.M.length = 64 * 512
  ca : D.C = []
  up : D.down = false
  is : (c.gen = 0 ∧ blkM D.M 0 = List.replicate 512 0 ∧ Pre 1 (blkM D.M 1)) ∨ (Vld c 64 ∧ blkM D.M (c.gen % 2).toNat = encL c ∧ Pre (c.gen + 1) (blkM D.M (1 - (c.gen % 2).toNat)))
theorem Wh.rd {D : DS} {c : Sp} (h : Wh D c) (k : Nat) : rdB D k = blkM D.M k := by unfold rdB; rw [h.ca]; rfl
theorem Wh.read {D : DS} {c : Sp} (h : Wh D c) : anR D = if c.gen = 0 then (zSp, 0, 5, { D with rd := D.rd + 2 }) else (c, c.gen % 2, 0, { D with rd := D.rd + 2 }) := by
  have hn : (D.n : Int) = 64 := by rw [h.n]; rfl
  rw [anR_two D h.up]
  have key : anB D 2 = if c.gen = 0 then (zSp, 0) else (c, c.gen % 2) := by
    rcases h.is with ⟨h0, h1, h2⟩ | ⟨hv, h1, h2⟩
    · rw [if_pos h0]
      have e1 : anB D 1 = (zSp, 0) := anB_one_no D (by
        by_cases hd : (decG (rdB D 0)).2 = 0
        · exfalso
          rw [h.rd, h1] at hd
          have h9 := pre_old (pre_zero 1) hd
          have := (decG_ok hd).2.1.gen
          omega
        · exact .inl hd)
      have e2 : anB D 2 = anB D 1 := anB_two_no D (by
        by_cases hd : (decG (rdB D 1)).2 = 0
        · exfalso
          rw [h.rd] at hd
          have h9 := pre_old h2 hd
          have := (decG_ok hd).2.1.gen
          omega
        · exact .inl hd)
      rw [e2, e1]
    · have hg := hv.gen
      rw [if_neg (by omega)]
      have hvn : Vld c D.n := by rw [hn]; exact hv
      rcases (show c.gen % 2 = 0 ∨ c.gen % 2 = 1 by omega) with hp | hp
      · rw [hp] at h1 h2 ⊢
        have e1 := anB_one D c (by rw [h.rd]; show decG (blkM D.M 0) = _; rw [show blkM D.M 0 = encL c from h1]; exact decG_enc c (by rw [hv.blocks]; exact hv)) hvn hp (by omega)
        have e2 : anB D 2 = anB D 1 := anB_two_no D (by
          by_cases hd : (decG (rdB D 1)).2 = 0
          · refine .inr (.inr ?_)
            rw [h.rd] at hd ⊢
            have h9 := pre_old (show Pre (c.gen + 1) (blkM D.M 1) from h2) hd
            rw [e1]
            show _ ≤ c.gen
            omega
          · exact .inl hd)
        rw [e2, e1]
      · rw [hp] at h1 h2 ⊢
        have e2 := anB_two D c (by rw [h.rd]; show decG (blkM D.M 1) = _; rw [show blkM D.M 1 = encL c from h1]; exact decG_enc c (by rw [hv.blocks]; exact hv)) hvn hp (by
          by_cases hd : (decG (rdB D 0)).2 = 0
          · have h8 := hd
            rw [h.rd] at hd
            have h9 := pre_old (show Pre (c.gen + 1) (blkM D.M 0) from h2) hd
            by_cases hv0 : Vld (decG (rdB D 0)).1 D.n ∧ (decG (rdB D 0)).1.gen % 2 = 0
            · have e1 := anB_one D (decG (rdB D 0)).1 (by rw [← h8]) hv0.1 hv0.2 (by have := hv0.1.gen; omega)
              rw [e1, h.rd]
              show (decG (blkM D.M 0)).1.gen < _
              omega
            · rw [show anB D 1 = (zSp, 0) from by
                show (if (decG (rdB D 0)).2 = 0 ∧ Vld (decG (rdB D 0)).1 D.n ∧ (decG (rdB D 0)).1.gen % 2 = (0 : Nat) ∧ (anB D 0).1.gen < (decG (rdB D 0)).1.gen then ((decG (rdB D 0)).1, ((0 : Nat) : Int)) else anB D 0) = _
                rw [if_neg (fun h => hv0 ⟨h.2.1, h.2.2.1⟩)]; rfl]
              show (0 : Int) < _
              omega
          · rw [anB_one_no D (.inl hd)]; show (0 : Int) < _; omega)
        rw [e2]
  rw [key]
  by_cases h0 : c.gen = 0
  · rw [if_pos h0, if_pos h0, if_pos (show zSp.gen = 0 from rfl)]
  · rw [if_neg h0, if_neg h0]
/-- a try: whatever becomes of it, what counts is as before or what was to be written -/
def whA (D : DS) (k : Int) : DS := if 0 ≤ k then (armD D k).2 else D
def whC (D : DS) (s : Sp) (crash : Bool) (F : List Ft) : DS := if (anW D s).1 = 0 ∧ crash = false then (anW D s).2 else crD (anW D s).2 F
theorem Wh.arm {D : DS} {c : Sp} (h : Wh D c) (k : Int) (hk : 0 ≤ k) : (armD D k).1 = 0 ∧ Wh (armD D k).2 c := by
  unfold armD
  rw [if_neg (by omega), if_neg (by rw [h.up]; decide)]
  exact ⟨rfl, h.n, h.len, h.ca, h.up, h.is⟩
theorem Wh.armed {D : DS} {c : Sp} (h : Wh D c) (k : Int) : Wh (whA D k) c := by
  unfold whA
  split
  · rename_i hk; exact (h.arm k hk).2
  · exact h
theorem blk_len {M : List UInt8} {k : Nat} (h : M.length = 64 * 512) (hk : k < 64) : (blkM M k).length = 512 := by
  unfold blkM; rw [List.length_take, List.length_drop]; omega
/-- the block laid, torn or whole -/
theorem Wh.lay {D D' : DS} {c s : Sp} (h : Wh D c) (hs : Vld s 64) (hg : s.gen = c.gen + 1) (k : Nat) (hn : D'.n = 64) (hc : D'.C = []) (hd : D'.down = false) (hm : D'.M = layP D.M ⟨(s.gen % 2).toNat, encL s⟩ k) : Wh D' c ∨ Wh D' s := by
  have hlt : (s.gen % 2).toNat < 64 := by omega
  have hl : D'.M.length = 64 * 512 := by rw [hm]; exact layP_len h.len hlt (encL_len s)
  have hsame : blkM D'.M (s.gen % 2).toNat = tear (encL s) (blkM D.M (s.gen % 2).toNat) k := by rw [hm]; exact layP_same h.len hlt (encL_len s)
  have hother : ∀ j, j ≠ (s.gen % 2).toNat → blkM D'.M j = blkM D.M j := fun j hj => by rw [hm]; exact layP_other h.len hlt (encL_len s) (fun e => hj e.symm)
  have hsg := hs.gen
  have hpre : Pre s.gen (blkM D.M (s.gen % 2).toNat) := by
    rcases h.is with ⟨h0, h1, h2⟩ | ⟨hv, h1, h2⟩
    · rw [show s.gen = 1 by omega]; exact h2
    · rw [hg, show ((c.gen + 1) % 2).toNat = 1 - (c.gen % 2).toNat by omega]; exact h2
  have hcase := tear_pre k hsg.1 hsg.2 (encL_len s) (enc_head s) (enc_end s) hpre
  rcases hcase with hw | hp
  · right
    refine ⟨hn, hl, hc, hd, .inr ⟨hs, by rw [hsame, hw], ?_⟩⟩
    rw [hother _ (by omega)]
    rcases h.is with ⟨h0, h1, h2⟩ | ⟨hv, h1, h2⟩
    · rw [show s.gen = 1 by omega]
      show Pre 2 (blkM D.M 0)
      rw [h1]; exact pre_zero 2
    · rw [hg, show 1 - ((c.gen + 1) % 2).toNat = (c.gen % 2).toNat by omega, h1, show c.gen + 1 + 1 = c.gen + 2 by omega]
      exact pre_enc c hv.gen.1 hv.gen.2
  · left
    refine ⟨hn, hl, hc, hd, ?_⟩
    rcases h.is with ⟨h0, h1, h2⟩ | ⟨hv, h1, h2⟩
    · left
      refine ⟨h0, by rw [hother 0 (by omega)]; exact h1, ?_⟩
      have e : (s.gen % 2).toNat = 1 := by omega
      rw [e] at hsame hp
      rw [hsame]
      rw [show s.gen = 1 by omega] at hp
      exact hp
    · right
      refine ⟨hv, by rw [hother _ (by omega)]; exact h1, ?_⟩
      rw [show 1 - (c.gen % 2).toNat = (s.gen % 2).toNat by omega, hsame, ← hg]
      exact hp
theorem wh_write {D : DS} {c s : Sp} (h : Wh D c) (hs : Vld s 64) (hg : s.gen = c.gen + 1) (crash : Bool) (F : List Ft) :
    ((anW D s).1 = 0 ∨ (anW D s).1 = 6) ∧ ((anW D s).1 = 0 → (anW D s).2.down = false) ∧ (Wh (whC D s crash F) c ∧ (anW D s).1 ≠ 0 ∨ Wh (whC D s crash F) s) := by
  have hn := h.n
  have hvn : Vld s D.n := by rw [hn]; exact hs
  have hk := actD_keeps D
  have hdn : (actD D).1 = true → (actD D).2.down = false := by
    unfold actD
    split
    · intro h; cases h
    · split
      · intro h; cases h
      · split <;> (intro _; exact h.up)
  have hw : wrD D (s.gen % 2) (encL s) = if (actD D).1 = true then (0, { (actD D).2 with C := [⟨(s.gen % 2).toNat, encL s⟩], wr := (actD D).2.wr + 1 }) else (6, (actD D).2) := by
    unfold wrD
    rw [if_neg (by rw [hn]; omega), if_neg (by rw [encL_len]; simp), hk.1, h.ca]; rfl
  have hmod := Int.emod_nonneg s.gen (show (2 : Int) ≠ 0 by omega)
  unfold whC
  have ha : anW D s = if (wrD D (s.gen % 2) (encL s)).1 = 0 then (if (flD (wrD D (s.gen % 2) (encL s)).2).1 = 0 then (0, (flD (wrD D (s.gen % 2) (encL s)).2).2) else (6, (flD (wrD D (s.gen % 2) (encL s)).2).2)) else (6, (wrD D (s.gen % 2) (encL s)).2) := by
    unfold anW; rw [if_pos hvn]
  by_cases h1 : (actD D).1 = true
  · rw [if_pos h1] at hw
    rw [hw] at ha
    rw [if_pos rfl] at ha
    obtain ⟨D1, hD1⟩ : ∃ D1, D1 = ({ (actD D).2 with C := [⟨(s.gen % 2).toNat, encL s⟩], wr := (actD D).2.wr + 1 } : DS) := ⟨_, rfl⟩
    have h1n : D1.n = 64 := by rw [hD1]; exact hk.2.2.1.trans hn
    have h1m : D1.M = D.M := by rw [hD1]; exact hk.2.1
    have h1c : D1.C = [⟨(s.gen % 2).toNat, encL s⟩] := by rw [hD1]
    have h1d : D1.down = false := by rw [hD1]; exact hdn h1
    dsimp only at ha
    rw [← hD1] at ha
    clear hD1
    have hk1 := actD_keeps D1
    have hdn1 : (actD D1).1 = true → (actD D1).2.down = false := by
      unfold actD
      split
      · intro h; cases h
      · split
        · intro h; cases h
        · split <;> (intro _; exact h1d)
    by_cases h2 : (actD D1).1 = true
    · have hf : flD D1 = (0, { (actD D1).2 with C := [], M := layP D.M ⟨(s.gen % 2).toNat, encL s⟩ 512, fl := (actD D1).2.fl + 1 }) := by
        unfold flD; rw [if_pos h2, hk1.1, h1c, hk1.2.1, h1m]; rfl
      rw [hf, if_pos rfl] at ha
      rw [ha]
      refine ⟨.inl rfl, fun _ => hdn1 h2, .inr ?_⟩
      have hwh : ∀ D' : DS, D'.n = 64 → D'.C = [] → D'.down = false → D'.M = layP D.M ⟨(s.gen % 2).toNat, encL s⟩ 512 → Wh D' s := fun D' a1 a2 a3 a4 => by
        have hlt : (s.gen % 2).toNat < 64 := by omega
        have hl : D'.M.length = 64 * 512 := by rw [a4]; exact layP_len h.len hlt (encL_len s)
        have hsame : blkM D'.M (s.gen % 2).toNat = encL s := by
          rw [a4, layP_same h.len hlt (encL_len s)]
          show (encL s).take 512 ++ _ = _
          rw [List.take_of_length_le (by rw [encL_len]; omega), List.drop_eq_nil_of_le (by rw [blk_len h.len hlt]; omega), List.append_nil]
        have hother : ∀ j, j ≠ (s.gen % 2).toNat → blkM D'.M j = blkM D.M j := fun j hj => by rw [a4]; exact layP_other h.len hlt (encL_len s) (fun e => hj e.symm)
        refine ⟨a1, hl, a2, a3, .inr ⟨hs, hsame, ?_⟩⟩
        rw [hother _ (by omega)]
        rcases h.is with ⟨h0, h1, h2⟩ | ⟨hv, h1, h2⟩
        · rw [show s.gen = 1 by omega]
          show Pre 2 (blkM D.M 0)
          rw [h1]; exact pre_zero 2
        · rw [hg, show 1 - ((c.gen + 1) % 2).toNat = (c.gen % 2).toNat by omega, h1, show c.gen + 1 + 1 = c.gen + 2 by omega]
          exact pre_enc c hv.gen.1 hv.gen.2
      cases crash
      · rw [if_pos ⟨rfl, rfl⟩]
        exact hwh _ (hk1.2.2.1.trans h1n) rfl (hdn1 h2) rfl
      · rw [if_neg (fun h => by have := h.2; cases this)]
        exact hwh _ (hk1.2.2.1.trans h1n) rfl rfl rfl
    · have hf : flD D1 = (6, (actD D1).2) := by unfold flD; rw [if_neg h2]
      rw [hf, if_neg (show ¬ (6 : Int) = 0 by decide)] at ha
      rw [ha]
      refine ⟨.inr rfl, fun h => absurd (show (6 : Int) = 0 from h) (by decide), ?_⟩
      rw [if_neg (fun h => absurd (show (6 : Int) = 0 from h.1) (by decide))]
      have hl : (crD (actD D1).2 F).M = layP D.M ⟨(s.gen % 2).toNat, encL s⟩ (crN F 0) := by
        show layA (crN F) 0 (actD D1).2.C (actD D1).2.M = _
        rw [hk1.1, h1c, hk1.2.1, h1m]; rfl
      rcases h.lay hs hg _ (show (crD (actD D1).2 F).n = 64 from hk1.2.2.1.trans h1n) rfl rfl hl with h3 | h3
      · exact .inl ⟨h3, show ¬ (6 : Int) = 0 by decide⟩
      · exact .inr h3
  · rw [if_neg h1] at hw
    rw [hw, if_neg (show ¬ (6 : Int) = 0 by decide)] at ha
    rw [ha]
    refine ⟨.inr rfl, fun h => absurd (show (6 : Int) = 0 from h) (by decide), .inl ⟨?_, show ¬ (6 : Int) = 0 by decide⟩⟩
    rw [if_neg (fun h => absurd (show (6 : Int) = 0 from h.1) (by decide))]
    refine ⟨hk.2.2.1.trans hn, ?_, rfl, rfl, ?_⟩
    · show (layA (crN F) 0 (actD D).2.C (actD D).2.M).length = _
      rw [hk.1, h.ca, hk.2.1]; exact h.len
    · have e : (crD (actD D).2 F).M = D.M := by
        show layA (crN F) 0 (actD D).2.C (actD D).2.M = _
        rw [hk.1, h.ca, hk.2.1]; rfl
      have h9 := h.is
      rw [← e] at h9
      exact h9
end Go.Proofs.Ytggoaelbglhehaa
/- The laws' helper ownFates: fates copied one by one. -/
set_option linter.unusedVariables false
set_option linter.unusedSimpArgs false
set_option maxRecDepth 100000
namespace Go.Proofs.Ytggoaelbglhehaa
open Go.RowKit
def OwnF (w : World) (base : Nat) (v : Value) (n : Nat) (l : List Ft) : Prop := w.ownsRow base 99 2 v n (fv l)
theorem OwnF.len {w : World} {base n : Nat} {v : Value} {l : List Ft} (h : OwnF w base v n l) : l.length = n := by
  have h1 := h.1
  rw [fv_len] at h1
  omega
theorem OwnF.nil (w : World) (base : Nat) : OwnF w base (.slice none 0 0) 0 [] := World.ownsRow_nil w base _ _
theorem fv_snoc (l : List Ft) (f : Ft) : fv (l ++ [f]) = fv l ++ [.int .i64 f.kind, .int .i64 f.at_] := by simp [fv]
theorem OwnF.rd {w : World} {base n : Nat} {v : Value} {l : List Ft} (h : OwnF w base v n l) (hm : n ≤ 140737488355328) : ∃ A c, v = .slice A n c ∧ RdF w A n c l ∧ (∀ p, A = some p → base ≤ p.block) := by
  have hl := h.len
  rcases h.2 with ⟨rfl, h0⟩ | ⟨g, cap, cur, rfl, hb, hh, h1, h2, h3, h4⟩
  · subst h0
    exact ⟨none, 0, rfl, ⟨hl, Nat.le_refl _, by omega, fun hp => absurd hp (by omega)⟩, by simp⟩
  · refine ⟨_, cap, rfl, ⟨hl, h1, hm, fun hp => ⟨g, 0, rfl, fun j hj => ?_⟩⟩, fun p hp => by injection hp with hp; subst hp; exact hb⟩
    have hg := fv_get l j (by omega)
    have c0 := World.ownsRow.cells h (g := g) rfl _ _ hg.1
    have c1 := World.ownsRow.cells h (g := g) rfl _ _ hg.2
    rw [Addr.add_mid] at c0 c1
    exact ⟨c0, c1⟩
section
variable {ops : Array Oper} {rest : List Oper} {o : Oper} {a : Act} {Q : Exit → Act → World → Prop}
theorem wp_appF1 {w0 W : World} (base : Nat) {v : Value} {n : Nat} {xs : List Ft} (f : Ft)
    (HO : OwnF W base v n xs) (HB : Below base w0 W) (hbase : base ≤ W.heap.size) (hl : (n + 1) * 16 ≤ 140737488355328) (s x : Operand) (hgd : o.guard = none)
    (ho : o.op = .call { callee := .builtin .append, args := #[s, x], argTypes := #[53, 53] }) (hs : a.eval s = v) (hx : a.eval x = .slice (some ⟨W.heap.size, 0, none⟩) 1 1)
    (h : ∀ v1 w1, OwnF w1 base v1 (n + 1) (xs ++ [f]) → Below base w0 w1 → wpList Try.prog ops Q rest (a.put o.dst v1) w1) :
    wpList Try.prog ops Q (o :: rest) a (W.alloc (.cells #[.int .i64 f.kind, .int .i64 f.at_] 99)) := by
  obtain ⟨i0, hi, hzz⟩ := Option.map_eq_some_iff.1 info_ft
  simp only [Prod.mk.injEq] at hzz
  obtain ⟨hz0, hz1, hz2⟩ := hzz
  have HO2 : (W.alloc (.cells #[.int .i64 f.kind, .int .i64 f.at_] 99)).ownsRow base 99 2 v n (fv xs) := World.ownsRow.alloc HO _
  obtain ⟨v1, w1, hr, h3, h4, _, h5⟩ := run_append_own_at (P := Try.prog) (W.alloc (.cells #[.int .i64 f.kind, .int .i64 f.at_] 99)) base 53 o.type 99 i0 _ 2 16 Try.underlying53 hi hz0 hz1 hz2 (by rfl) (by omega) v n (fv xs) HO2 ⟨W.heap.size, 0, none⟩ 1 1 [.int .i64 f.kind, .int .i64 f.at_] (by rfl) (fun j u hu => by
    rw [Addr.add_mid, Nat.zero_add, cell_of_row _ _ _ _ _ _ (heap_alloc_new W _)]
    simpa using hu) (by simp [Value.oneCell']) (by simp only [maxLen]; omega) hl (by rw [World.size_alloc]; omega)
  refine wpList_plain hgd fun K hK => ?_
  unfold Oper.wp execOp
  simp only [ho, resolve, invoke, builtin, Sem.run_bind, Sem.run_pure, Result.andThen_ok, List.map_toArray, List.map_cons, List.map_nil, hs, hx, hr]
  refine hK _ _ (h v1 w1 (by unfold OwnF; rw [fv_snoc]; exact h3) ((HB.alloc hbase _).grown h4 (by rw [World.size_alloc]; omega) ?_))
  intro k hk
  exact ((World.ownsRow.lt HO) k hk).1
end
theorem l11_ownFates (w : World) (A : Option Addr) (n c : Nat) (l : List Ft) (hr : RdF w A n c l) (hn : n ≤ 8796093022207) :
    Calls Try.prog 28 #[.slice A n c] w fun e w' => ∃ u, e = .returned u ∧ OwnF w' w.heap.size u n l ∧ Below w.heap.size w w' := by
  have HR := Lib.hid hr
  have hl := Lib.hid hr.len
  clear hr
  go_enter Try.func28, Try.ntmps28
  go_wp2_with fail
  go_loopw [3, 4] (fun v x wx => ∃ k : Nat, k ≤ n ∧ x = .int .i64 k ∧ OwnF wx w.heap.size v k (l.take k) ∧ Below w.heap.size w wx) (fun _ x _ => n - (intOf x).toNat)
  case atStart => exact ⟨0, by omega, rfl, OwnF.nil _ _, Below.refl _ _⟩
  case round =>
    obtain ⟨k, hk, rfl, hO, hB⟩ := hrel
    have HO := Lib.hid hO
    have HB := Lib.hid hB
    have hz := hB.size
    clear hO hB
    by_cases hkn : k < n
    · obtain ⟨b, o, rfl, hc⟩ := (HR.out.ext HB.out).at_ (by omega)
      have hcell := hc k hkn
      obtain ⟨y, hy⟩ : ∃ y, y = l.getD k default := ⟨_, rfl⟩
      rw [← hy] at hcell
      have HST := Lib.hid (show l.take (k + 1) = l.take k ++ [y] by rw [hy]; exact take_snoc l k default (by rw [hl.out]; exact hkn))
      have hki : (0 : Int) ≤ (k : Int) ∧ (k : Int) < (n : Int) := by omega
      clear hc hy
      obtain ⟨yk, ya⟩ := y
      dsimp only at hcell
      go_wp2_with (at_builtin; refine wp_appF1 (w0 := w) w.heap.size ⟨yk, ya⟩ HO.out HB.out hz (by omega) _ _ rfl rfl rfl rfl ?_; intro v1 w1 hO1 hB1; have HO1 := Lib.hid hO1; have HB1 := Lib.hid hB1; clear hO1 hB1)
      go_roundw
      case rel => exact ⟨k + 1, by omega, by go_num, by rw [HST.out]; exact HO1.out, HB1.out⟩
      case measure => simp [intOf]; omega
    · obtain rfl : k = n := by omega
      have HT := Lib.hid (show l.take k = l from List.take_of_length_le (by rw [hl.out]; exact Nat.le_refl _))
      rw [HT.out] at HO
      go_wp2
      go_ret
      exact ⟨_, rfl, HO.out, HB.out⟩
end Go.Proofs.Ytggoaelbglhehaa
/- AnchorWhole: the tries in memory; numbers that stay small. -/
set_option linter.unusedVariables false
set_option linter.unusedSimpArgs false
set_option maxRecDepth 100000
namespace Go.Proofs.Ytggoaelbglhehaa
open Go.RowKit SumMath
structure TryD where
  s : Sp
  arm : Int
  crash : Bool
  F : List Ft
instance : Inhabited Sp := ⟨zSp⟩
instance : Inhabited TryD := ⟨⟨default, 0, false, []⟩⟩
structure TryD.ok (x : TryD) : Prop where
  s : x.s.ok
  arm : -9223372036854775808 ≤ x.arm ∧ x.arm < 9223372036854775808
  F : x.F.length ≤ 8796093022207
structure TryAt (w : World) (b o : Nat) (x : TryD) : Prop where
  ok : x.ok
  c0 : w.cell? ⟨b, o, none⟩ = some (.int .i64 x.s.gen)
  c1 : w.cell? ⟨b, o + 1, none⟩ = some (.int .i64 x.s.epoch)
  c2 : w.cell? ⟨b, o + 2, none⟩ = some (.int .i64 x.s.blocks)
  c3 : w.cell? ⟨b, o + 3, none⟩ = some (.int .i64 x.s.log)
  c4 : w.cell? ⟨b, o + 4, none⟩ = some (.int .i64 x.s.stamp)
  c5 : w.cell? ⟨b, o + 5, none⟩ = some (.int .i64 x.s.at_)
  c6 : w.cell? ⟨b, o + 6, none⟩ = some (.int .i64 x.s.root)
  c7 : w.cell? ⟨b, o + 7, none⟩ = some (.int .i64 x.s.count)
  c8 : w.cell? ⟨b, o + 8, none⟩ = some (.int .i64 x.s.version)
  c9 : w.cell? ⟨b, o + 9, none⟩ = some (.int .i64 x.arm)
  c10 : w.cell? ⟨b, o + 10, none⟩ = some (.bool x.crash)
  c11 : ∃ A n c, w.cell? ⟨b, o + 11, none⟩ = some (.slice A n c) ∧ RdF w A n c x.F
structure RdTry (w : World) (A : Option Addr) (n c : Nat) (l : List TryD) : Prop where
  len : l.length = n
  cap : n ≤ c
  max : n ≤ 140737488355328
  at_ : 0 < n → ∃ b o, A = some ⟨b, o, none⟩ ∧ ∀ j, j < n → TryAt w b (o + j * 12) (l.getD j default)
theorem TryAt.ext {w w' : World} {b o : Nat} {x : TryD} (h : TryAt w b o x) (hb : Below w.heap.size w w') : TryAt w' b o x := by
  obtain ⟨A7, n7, c7, h7, r7⟩ := h.c11
  exact ⟨h.ok, cell_ext hb h.c0, cell_ext hb h.c1, cell_ext hb h.c2, cell_ext hb h.c3, cell_ext hb h.c4, cell_ext hb h.c5, cell_ext hb h.c6, cell_ext hb h.c7, cell_ext hb h.c8, cell_ext hb h.c9, cell_ext hb h.c10, ⟨A7, n7, c7, cell_ext hb h7, r7.ext hb⟩⟩
theorem RdTry.ext {w w' : World} {A : Option Addr} {n c : Nat} {l : List TryD} (h : RdTry w A n c l) (hb : Below w.heap.size w w') : RdTry w' A n c l :=
  ⟨h.len, h.cap, h.max, fun hn => by
    obtain ⟨b, o, e, hc⟩ := h.at_ hn
    exact ⟨b, o, e, fun j hj => (hc j hj).ext hb⟩⟩
def tryC (s : Sp) (k : Int) (cr : Bool) (v : Value) : Array Value := #[.int .i64 s.gen, .int .i64 s.epoch, .int .i64 s.blocks, .int .i64 s.log, .int .i64 s.stamp, .int .i64 s.at_, .int .i64 s.root, .int .i64 s.count, .int .i64 s.version, .int .i64 k, .bool cr, v]
theorem cell12 {W : World} {q : Nat} {s : Sp} {k : Int} {cr : Bool} {v : Value} {t : TypeId} (h : W.heap[q]? = some (.cells (tryC s k cr v) t (0, 0))) : W.cell? ⟨q, 0, none⟩ = some (.int .i64 s.gen) ∧ W.cell? ⟨q, 1, none⟩ = some (.int .i64 s.epoch) ∧ W.cell? ⟨q, 2, none⟩ = some (.int .i64 s.blocks) ∧ W.cell? ⟨q, 3, none⟩ = some (.int .i64 s.log) ∧ W.cell? ⟨q, 4, none⟩ = some (.int .i64 s.stamp) ∧ W.cell? ⟨q, 5, none⟩ = some (.int .i64 s.at_) ∧ W.cell? ⟨q, 6, none⟩ = some (.int .i64 s.root) ∧ W.cell? ⟨q, 7, none⟩ = some (.int .i64 s.count) ∧ W.cell? ⟨q, 8, none⟩ = some (.int .i64 s.version) ∧ W.cell? ⟨q, 9, none⟩ = some (.int .i64 k) ∧ W.cell? ⟨q, 10, none⟩ = some (.bool cr) ∧ W.cell? ⟨q, 11, none⟩ = some v :=
  ⟨cell_of_row W q 0 _ _ _ h, cell_of_row W q 1 _ _ _ h, cell_of_row W q 2 _ _ _ h, cell_of_row W q 3 _ _ _ h, cell_of_row W q 4 _ _ _ h, cell_of_row W q 5 _ _ _ h, cell_of_row W q 6 _ _ _ h, cell_of_row W q 7 _ _ _ h, cell_of_row W q 8 _ _ _ h, cell_of_row W q 9 _ _ _ h, cell_of_row W q 10 _ _ _ h, cell_of_row W q 11 _ _ _ h⟩
/-! ### numbers that stay small -/
structure Wb (D : DS) (i : Nat) : Prop where
  left : D.left < 9223372036854775808
  rd : D.rd ≤ 2 * i
  wr : D.wr ≤ i
  fl : D.fl ≤ i
theorem act_left (D : DS) : (actD D).2.left ≤ D.left := by
  unfold actD; split
  · exact Nat.le_refl _
  · split
    · exact Nat.le_refl _
    · split
      · exact Nat.sub_le _ _
      · exact Nat.le_refl _
theorem Wb.arm {D : DS} {i : Nat} (h : Wb D i) (k : Int) (hk : k < 9223372036854775808) : Wb (whA D k) i := by
  unfold whA
  split
  · unfold armD
    split
    · exact h
    · split
      · exact h
      · exact ⟨by show k.toNat < _; omega, h.rd, h.wr, h.fl⟩
  · exact h
/-- what Write leaves -/
theorem anW_le {D : DS} {c s : Sp} (h : Wh D c) : (anW D s).2.C.length ≤ 1 ∧ (anW D s).2.left ≤ D.left ∧ (anW D s).2.rd = D.rd ∧ (anW D s).2.wr ≤ D.wr + 1 ∧ (anW D s).2.fl ≤ D.fl + 1 := by
  have base : D.C.length ≤ 1 ∧ D.left ≤ D.left ∧ D.rd = D.rd ∧ D.wr ≤ D.wr + 1 ∧ D.fl ≤ D.fl := ⟨by rw [h.ca]; exact Nat.zero_le _, Nat.le_refl _, rfl, by omega, by omega⟩
  have hk := actD_keeps D
  have hl := act_left D
  have hw : (wrD D (s.gen % 2) (encL s)).2.C.length ≤ 1 ∧ (wrD D (s.gen % 2) (encL s)).2.left ≤ D.left ∧ (wrD D (s.gen % 2) (encL s)).2.rd = D.rd ∧ (wrD D (s.gen % 2) (encL s)).2.wr ≤ D.wr + 1 ∧ (wrD D (s.gen % 2) (encL s)).2.fl ≤ D.fl := by
    unfold wrD
    split
    · exact base
    · split
      · exact base
      · split
        · refine ⟨?_, hl, hk.2.2.2.1, ?_, ?_⟩
          · show ((actD D).2.C ++ [_]).length ≤ 1
            rw [hk.1, h.ca]; exact Nat.le_refl _
          · show (actD D).2.wr + 1 ≤ _
            rw [hk.2.2.2.2.1]; omega
          · show (actD D).2.fl ≤ _
            rw [hk.2.2.2.2.2]; omega
        · refine ⟨?_, hl, hk.2.2.2.1, ?_, ?_⟩
          · show (actD D).2.C.length ≤ 1
            rw [hk.1, h.ca]; exact Nat.zero_le _
          · show (actD D).2.wr ≤ _
            rw [hk.2.2.2.2.1]; omega
          · show (actD D).2.fl ≤ _
            rw [hk.2.2.2.2.2]; omega
  obtain ⟨D1, hD1⟩ : ∃ D1, D1 = (wrD D (s.gen % 2) (encL s)).2 := ⟨_, rfl⟩
  have hk1 := actD_keeps D1
  have hl1 := act_left D1
  have hf : (flD D1).2.C.length ≤ D1.C.length ∧ (flD D1).2.left ≤ D1.left ∧ (flD D1).2.rd = D1.rd ∧ (flD D1).2.wr = D1.wr ∧ (flD D1).2.fl ≤ D1.fl + 1 := by
    unfold flD
    split
    · refine ⟨Nat.zero_le _, hl1, hk1.2.2.2.1, hk1.2.2.2.2.1, ?_⟩
      show (actD D1).2.fl + 1 ≤ _
      rw [hk1.2.2.2.2.2]; omega
    · refine ⟨?_, hl1, hk1.2.2.2.1, hk1.2.2.2.2.1, ?_⟩
      · show (actD D1).2.C.length ≤ _
        rw [hk1.1]; exact Nat.le_refl _
      · show (actD D1).2.fl ≤ _
        rw [hk1.2.2.2.2.2]; omega
  rw [← hD1] at hw
  unfold anW
  rw [← hD1]
  split
  · split
    · split
      · exact ⟨by show (flD D1).2.C.length ≤ 1; omega, by show (flD D1).2.left ≤ _; omega, by show (flD D1).2.rd = _; omega, by show (flD D1).2.wr ≤ _; omega, by show (flD D1).2.fl ≤ _; omega⟩
      · exact ⟨by show (flD D1).2.C.length ≤ 1; omega, by show (flD D1).2.left ≤ _; omega, by show (flD D1).2.rd = _; omega, by show (flD D1).2.wr ≤ _; omega, by show (flD D1).2.fl ≤ _; omega⟩
    · exact ⟨hw.1, hw.2.1, hw.2.2.1, hw.2.2.2.1, by show D1.fl ≤ _; omega⟩
  · exact ⟨base.1, base.2.1, base.2.2.1, base.2.2.2.1, by show D.fl ≤ _; omega⟩
theorem Wb.round {D : DS} {c s : Sp} {i : Nat} (h : Wh D c) (hb : Wb D i) (cr : Bool) (F : List Ft) : Wb { whC D s cr F with rd := (whC D s cr F).rd + 2 } (i + 1) := by
  obtain ⟨h1, h2, h3, h4, h5⟩ := anW_le (s := s) h
  have a := hb.left; have b := hb.rd; have d := hb.wr; have e := hb.fl
  have key : (whC D s cr F).left ≤ D.left ∧ (whC D s cr F).rd = D.rd ∧ (whC D s cr F).wr ≤ D.wr + 1 ∧ (whC D s cr F).fl ≤ D.fl + 1 := by
    unfold whC
    split
    · exact ⟨h2, h3, h4, h5⟩
    · exact ⟨Nat.zero_le _, h3, h4, h5⟩
  exact ⟨by show (whC D s cr F).left < _; omega, by show (whC D s cr F).rd + 2 ≤ _; omega, by show (whC D s cr F).wr ≤ _; omega, by show (whC D s cr F).fl ≤ _; omega⟩
theorem Wh.rdup {D : DS} {c : Sp} (h : Wh D c) (k : Nat) : Wh { D with rd := k } c := ⟨h.n, h.len, h.ca, h.up, h.is⟩
/-- another device over the same bytes -/
theorem Wh.of {D : DS} {c : Sp} (h : Wh D c) : Wh ⟨32768 / 512, D.M, [], 0, false, false, 0, 0, 0⟩ c := ⟨rfl, h.len, rfl, rfl, h.is⟩
theorem Wh.gen0 {D : DS} {c : Sp} (h : Wh D c) : 0 ≤ c.gen := by
  rcases h.is with ⟨h, _⟩ | ⟨h, _⟩
  · omega
  · have := h.gen; omega
theorem Wh.start : Wh D64 zSp := by
  have hz : ∀ k, k < 64 → blkM D64.M k = List.replicate 512 0 := fun k hk => by
    show ((List.replicate (64 * 512) (0 : UInt8)).drop (k * 512)).take 512 = _
    rw [List.drop_replicate, List.take_replicate, Nat.min_eq_left (by omega)]
  exact ⟨rfl, by show (List.replicate (64 * 512) (0 : UInt8)).length = _; rw [List.length_replicate], rfl, rfl, .inl ⟨rfl, hz 0 (by omega), by rw [hz 1 (by omega)]; exact pre_zero 1⟩⟩
end Go.Proofs.Ytggoaelbglhehaa
/- The reference's device, as rows beside a state: what it holds; copied. -/
set_option linter.unusedVariables false
set_option linter.unusedSimpArgs false
set_option maxRecDepth 100000
namespace Go.Proofs.Ytggoaelbglhehaa
open Go.RowKit
/-- a laying: so many bytes at a place of a block -/
structure Ly where
  blk : Nat
  at_ : Nat
  B : List UInt8
instance : Inhabited Ly := ⟨⟨0, 0, []⟩⟩
def lyvs (L : List (Ly × Value)) : List Value := L.flatMap fun p => [.int .i64 p.1.blk, .int .i64 p.1.at_, p.2]
theorem lyvs_len : ∀ L : List (Ly × Value), (lyvs L).length = L.length * 3
  | [] => rfl
  | f :: r => by
    have h := lyvs_len r
    unfold lyvs at h ⊢
    rw [List.flatMap_cons, List.length_append, h, List.length_cons]
    simp only [List.length_cons, List.length_nil]; omega
theorem lyvs_snoc (L : List (Ly × Value)) (p : Ly × Value) : lyvs (L ++ [p]) = lyvs L ++ [.int .i64 p.1.blk, .int .i64 p.1.at_, p.2] := by simp [lyvs]
theorem lyvs_get : ∀ (L : List (Ly × Value)) (i : Nat), i < L.length → (lyvs L)[i * 3]? = some (.int .i64 (L.getD i default).1.blk) ∧ (lyvs L)[i * 3 + 1]? = some (.int .i64 (L.getD i default).1.at_) ∧ (lyvs L)[i * 3 + 2]? = some (L.getD i default).2
  | [], i, h => by simp at h
  | f :: r, 0, _ => ⟨rfl, rfl, rfl⟩
  | f :: r, i + 1, h => by
    have ih := lyvs_get r i (by simpa using h)
    unfold lyvs at ih ⊢
    rw [List.flatMap_cons, show (i + 1) * 3 = i * 3 + 1 + 1 + 1 by omega]
    simpa using ih
/-- a laying's bytes lie in a row of K -/
structure LyOk (K : List (Nat × Obj)) (N : Nat) (p : Ly × Value) : Prop where
  blk : p.1.blk < N
  fit : p.1.at_ + p.1.B.length ≤ 512
  row : (p.2 = .slice none 0 0 ∧ p.1.B = []) ∨ ∃ k o c, p.2 = .slice (some ⟨k, 0, none⟩) p.1.B.length c ∧ (k, o) ∈ K ∧ RowB o p.1.B.length c p.1.B
theorem LyOk.mono {K K' : List (Nat × Obj)} {N : Nat} {p : Ly × Value} (h : LyOk K N p) (hk : ∀ q ∈ K, q ∈ K') : LyOk K' N p :=
  ⟨h.blk, h.fit, by
    rcases h.row with h1 | ⟨k, o, c, h1, h2, h3⟩
    · exact .inl h1
    · exact .inr ⟨k, o, c, h1, hk _ h2, h3⟩⟩
/-- what the reads of a laying's bytes see -/
theorem LyOk.rd {K : List (Nat × Obj)} {N : Nat} {p : Ly × Value} (h : LyOk K N p) {w : World} (hk : ∀ q ∈ K, w.heap[q.1]? = some q.2) : ∃ A c, p.2 = .slice A p.1.B.length c ∧ Rd w A p.1.B.length c p.1.B := by
  have hf := h.fit
  rcases h.row with ⟨h1, h2⟩ | ⟨k, o, c, h1, h2, h3⟩
  · rw [h2]
    exact ⟨none, 0, h1, Rd.nil w⟩
  · exact ⟨_, c, h1, h3.rd (hk (k, o) h2) (by omega)⟩
/-- layings over a medium -/
def plays (L : List Ly) (M : List UInt8) : List UInt8 := L.foldl (fun M x => splice M (x.blk * 512 + x.at_) x.B) M
theorem plays_snoc (L : List Ly) (x : Ly) (M : List UInt8) : plays (L ++ [x]) M = splice (plays L M) (x.blk * 512 + x.at_) x.B := by simp [plays]
/-- layings over one block -/
def plB (k : Nat) (L : List Ly) (M : List UInt8) : List UInt8 := L.foldl (fun M x => if x.blk = k then splice M x.at_ x.B else M) M
theorem plB_snoc (k : Nat) (L : List Ly) (x : Ly) (M : List UInt8) : plB k (L ++ [x]) M = if x.blk = k then splice (plB k L M) x.at_ x.B else plB k L M := by simp [plB]
structure LyFit (N : Nat) (x : Ly) : Prop where
  blk : x.blk < N
  fit : x.at_ + x.B.length ≤ 512
theorem splice_lenL {α : Type} (M X : List α) (off : Nat) (h : off + X.length ≤ M.length) : (splice M off X).length = M.length := by
  simp [splice]; omega
theorem blk_end {N k : Nat} (h : k < N) : k * 512 + 512 ≤ N * 512 := by have : (k + 1) * 512 ≤ N * 512 := Nat.mul_le_mul_right _ h; omega
theorem plays_len {N : Nat} : ∀ (L : List Ly) (M : List UInt8), (∀ x ∈ L, LyFit N x) → M.length = N * 512 → (plays L M).length = N * 512
  | [], M, _, h => h
  | x :: r, M, hl, h => by
    have hx := hl x (by simp)
    have h1 := blk_end hx.blk
    have h2 := hx.fit
    exact plays_len r (splice M (x.blk * 512 + x.at_) x.B) (fun y hy => hl y (by simp [hy])) (by rw [splice_lenL _ _ _ (by omega), h])
theorem plB_len (k : Nat) {N : Nat} : ∀ (L : List Ly) (M : List UInt8), (∀ x ∈ L, LyFit N x) → M.length = 512 → (plB k L M).length = 512
  | [], M, _, h => h
  | x :: r, M, hl, h => by
    have h2 := (hl x (by simp)).fit
    refine plB_len k r (if x.blk = k then splice M x.at_ x.B else M) (fun y hy => hl y (by simp [hy])) ?_
    split
    · rw [splice_lenL _ _ _ (by omega), h]
    · exact h
theorem blk_splice {N : Nat} (M : List UInt8) (x : Ly) (k : Nat) (hk : k < N) (hM : M.length = N * 512) (hx : LyFit N x) : blkM (splice M (x.blk * 512 + x.at_) x.B) k = if x.blk = k then splice (blkM M k) x.at_ x.B else blkM M k := by
  have h1 := blk_end hx.blk
  have h2 := hx.fit
  have hbl : (blkM M k).length = 512 := blkM_len M k (by rw [hM]; exact blk_end hk)
  by_cases he : x.blk = k
  · subst he
    rw [if_pos rfl]
    apply List.ext_getElem?
    intro i
    by_cases hi : i < 512
    · rw [blkM_get _ _ _ hi, splice_get _ _ _ _ (by omega), splice_get _ _ _ _ (by omega), blkM_get _ _ _ hi]
      by_cases h3 : x.at_ ≤ i ∧ i < x.at_ + x.B.length
      · rw [if_pos (by omega), if_pos h3]; congr 1; omega
      · rw [if_neg (by omega), if_neg h3]
    · rw [List.getElem?_eq_none (by unfold blkM; rw [List.length_take]; omega), List.getElem?_eq_none (by rw [splice_lenL _ _ _ (by omega)]; omega)]
  · rw [if_neg he]
    refine blkM_splice_out M x.B _ k (by omega) ?_
    rcases (by omega : x.blk < k ∨ k < x.blk) with h | h
    · left; omega
    · right; omega
theorem plays_blk {N : Nat} (k : Nat) (hk : k < N) : ∀ (L : List Ly) (M : List UInt8), (∀ x ∈ L, LyFit N x) → M.length = N * 512 → blkM (plays L M) k = plB k L (blkM M k)
  | [], M, _, _ => rfl
  | x :: r, M, hl, h => by
    have hx := hl x (by simp)
    have h1 := blk_end hx.blk
    have h2 := hx.fit
    have ih := plays_blk k hk r (splice M (x.blk * 512 + x.at_) x.B) (fun y hy => hl y (by simp [hy])) (by rw [splice_lenL _ _ _ (by omega), h])
    show blkM (plays r (splice M (x.blk * 512 + x.at_) x.B)) k = plB k r (if x.blk = k then splice (blkM M k) x.at_ x.B else blkM M k)
    rw [ih, blk_splice M x k hk h hx]
/-! ### the reference's struct -/
def rfO (N : Nat) (base vl vc : Value) (armed : Bool) (left : Int) (off : Bool) (rd wr fl : Nat) : Obj := .cells #[.int .i64 N, base, vl, vc, .bool armed, .int .i64 left, .bool off, .int .i64 rd, .int .i64 wr, .int .i64 fl] 94
/-- the bytes it began with -/
def BaseOk (base : Value) (K : List (Nat × Obj)) (N : Nat) (M0 : List UInt8) : Prop :=
  M0.length = N * 512 ∧ ((base = .slice none 0 0 ∧ M0 = List.replicate (N * 512) 0) ∨ ∃ k o c, base = .slice (some ⟨k, 0, none⟩) (N * 512) c ∧ (k, o) ∈ K ∧ RowB o (N * 512) c M0)
def lyPd (x : Ly) : Pd := ⟨x.blk, x.B⟩
/-- what the reference's device holds, in the state D -/
structure RfOk (r : Nat) (D : DS) where
  L : List (Ly × Value)
  C : List (Ly × Value)
  vl : Value
  vc : Value
  base : Value
  M0 : List UInt8
  left : Int
  Ql : List (Nat × Obj)
  Qc : List (Nat × Obj)
  K : List (Nat × Obj)
  ql : QV 102 3 vl L.length (lyvs L) Ql
  qc : QV 102 3 vc C.length (lyvs C) Qc
  bs : BaseOk base K D.n M0
  lo : ∀ p ∈ L, LyOk K D.n p
  co : ∀ p ∈ C, LyOk K D.n p ∧ p.1.at_ = 0 ∧ p.1.B.length = 512
  hM : D.M = plays (L.map Prod.fst) M0
  hC : D.C = C.map fun p => lyPd p.1
  hl : D.armed = true → left = D.left
  sm : 64 ≤ D.n ∧ D.n ≤ 4096
/-- its rows -/
def RfOk.rows {r : Nat} {D : DS} (h : RfOk r D) : List (Nat × Obj) := (r, rfO D.n h.base h.vl h.vc D.armed h.left D.down D.rd D.wr D.fl) :: (h.Ql ++ (h.Qc ++ h.K))
/-! ### copied -/
theorem rf_copied (w : World) (A : Option Addr) (n c : Nat) (l : List UInt8) (hr : Rd w A n c l) (hn : n ≤ 140737488355328) :
    Calls Try.prog 59 #[.slice A n c] w fun e w' => ∃ u, e = .returned u ∧ Own w' w.heap.size u n l ∧ Below w.heap.size w w' := by
  have HR := Lib.hid hr
  have hl := Lib.hid hr.len
  clear hr
  go_enter Try.func59, Try.ntmps59
  go_wp2_with fail
  go_loopw [3, 4] (fun v x wx => ∃ k : Nat, k ≤ n ∧ x = .int .i64 k ∧ Own wx w.heap.size v k (l.take k) ∧ Below w.heap.size w wx) (fun _ x _ => n - (intOf x).toNat)
  case atStart => exact ⟨0, by omega, rfl, Own.nil _ _, Below.refl _ _⟩
  case round =>
    obtain ⟨k, hk, rfl, hO, hB⟩ := hrel
    have HO := Lib.hid hO
    have HB := Lib.hid hB
    have hz := hB.size
    clear hO hB
    by_cases hkn : k < n
    · obtain ⟨b, o, rfl, hc⟩ := (HR.out.ext HB.out).at_ (by omega)
      have hcell := hc k hkn
      obtain ⟨y, hy⟩ : ∃ y, y = l.getD k 0 := ⟨_, rfl⟩
      rw [← hy] at hcell
      have HST := Lib.hid (show l.take (k + 1) = l.take k ++ [y] by rw [hy]; exact take_snoc l k 0 (by rw [hl.out]; exact hkn))
      have hki : (0 : Int) ≤ (k : Int) ∧ (k : Int) < (n : Int) := by omega
      clear hc hy
      go_wp2_with (at_builtin; refine wp_app1 (w0 := w) w.heap.size y HO.out HB.out hz (by omega) _ _ rfl rfl rfl rfl ?_; intro v1 w1 hO1 hB1 hG1 hA1; have HO1 := Lib.hid hO1; have HB1 := Lib.hid hB1; clear hO1 hB1 hG1 hA1)
      go_roundw
      case rel => exact ⟨k + 1, by omega, by go_num, by rw [HST.out]; exact HO1.out, HB1.out⟩
      case measure => simp [intOf]; omega
    · obtain rfl : k = n := by omega
      have HT := Lib.hid (show l.take k = l from List.take_of_length_le (by rw [hl.out]; exact Nat.le_refl _))
      rw [HT.out] at HO
      go_wp2
      go_ret
      exact ⟨_, rfl, HO.out, HB.out⟩
end Go.Proofs.Ytggoaelbglhehaa
/- The reference's device: there, act, Down, Blocks, Arm, New. -/
set_option linter.unusedVariables false
set_option linter.unusedSimpArgs false
set_option maxRecDepth 100000
namespace Go.Proofs.Ytggoaelbglhehaa
open Go.RowKit
section
variable {w0 w : World} {b g : Nat} {vp : Value} {Dp D : DS} {r : Nat} {T : List (Nat × Obj)}
theorem RfOk.cells (h : RfOk r D) (hS : St w0 w b g vp Dp (h.rows ++ T)) : w.cell? ⟨r, 0, none⟩ = some (.int .i64 D.n) ∧ w.cell? ⟨r, 1, none⟩ = some h.base ∧ w.cell? ⟨r, 2, none⟩ = some h.vl ∧ w.cell? ⟨r, 3, none⟩ = some h.vc ∧ w.cell? ⟨r, 4, none⟩ = some (.bool D.armed) ∧ w.cell? ⟨r, 5, none⟩ = some (.int .i64 h.left) ∧
    w.cell? ⟨r, 6, none⟩ = some (.bool D.down) ∧ w.cell? ⟨r, 7, none⟩ = some (.int .i64 D.rd) ∧ w.cell? ⟨r, 8, none⟩ = some (.int .i64 D.wr) ∧ w.cell? ⟨r, 9, none⟩ = some (.int .i64 D.fl) := by
  have h0 : w.heap[r]? = some (rfO D.n h.base h.vl h.vc D.armed h.left D.down D.rd D.wr D.fl) := hS.mem (by simp [RfOk.rows])
  have hc : ∀ j, w.cell? ⟨r, j, none⟩ = (#[.int .i64 D.n, h.base, h.vl, h.vc, .bool D.armed, .int .i64 h.left, .bool D.down, .int .i64 D.rd, .int .i64 D.wr, .int .i64 D.fl] : Array Value)[j]? := fun j => cell_of_row w r j _ _ _ h0
  exact ⟨hc 0, hc 1, hc 2, hc 3, hc 4, hc 5, hc 6, hc 7, hc 8, hc 9⟩
theorem RfOk.free (h : RfOk r D) (hS : St w0 w b g vp Dp (h.rows ++ T)) (j : Nat) : w.frozen? ⟨r, j, none⟩ = false := by
  have h0 : w.heap[r]? = some (rfO D.n h.base h.vl h.vc D.armed h.left D.down D.rd D.wr D.fl) := hS.mem (by simp [RfOk.rows])
  exact frozen_of_row w r j _ _ h0
/-- a cell of the struct is written: numbers only -/
theorem RfOk.set (h : RfOk r D) (hS : St w0 w b g vp Dp (h.rows ++ T)) (j : Nat) (u : Value) (D' : DS) (left' : Int) (hn : D'.n = D.n) (hM : D'.M = D.M) (hC : D'.C = D.C) (hl : D'.armed = true → left' = D'.left)
    (hst : (#[.int .i64 D.n, h.base, h.vl, h.vc, .bool D.armed, .int .i64 h.left, .bool D.down, .int .i64 D.rd, .int .i64 D.wr, .int .i64 D.fl] : Array Value).setIfInBounds j u = #[.int .i64 D.n, h.base, h.vl, h.vc, .bool D'.armed, .int .i64 left', .bool D'.down, .int .i64 D'.rd, .int .i64 D'.wr, .int .i64 D'.fl]) :
    ∃ h' : RfOk r D', (h'.L = h.L ∧ h'.C = h.C) ∧ St w0 (w.setCell ⟨r, j, none⟩ u) b g vp Dp (h'.rows ++ T) := by
  have h0 : w.heap[r]? = some (rfO D.n h.base h.vl h.vc D.armed h.left D.down D.rd D.wr D.fl) := hS.mem (by simp [RfOk.rows])
  have h1 : (w.setCell ⟨r, j, none⟩ u).heap[r]? = some (rfO D'.n h.base h.vl h.vc D'.armed left' D'.down D'.rd D'.wr D'.fl) := by
    rw [heap_setCell_same w r j _ _ u h0, hst, hn]; rfl
  have h2 := hS.store 0 j u (k := r) (o := rfO D.n h.base h.vl h.vc D.armed h.left D.down D.rd D.wr D.fl) rfl h1
  refine ⟨⟨h.L, h.C, h.vl, h.vc, h.base, h.M0, left', h.Ql, h.Qc, h.K, h.ql, h.qc, by rw [hn]; exact h.bs, by rw [hn]; exact h.lo, by rw [hn]; exact h.co, by rw [hM]; exact h.hM, by rw [hC]; exact h.hC, hl, by rw [hn]; exact h.sm⟩, ⟨rfl, rfl⟩, h2⟩
end
theorem rf_there {w0 w : World} {b g : Nat} {vp : Value} {Dp D : DS} {r : Nat} {T : List (Nat × Obj)} (num : Int) (h : RfOk r D) (hS : St w0 w b g vp Dp (h.rows ++ T)) :
    Calls Try.prog 58 #[.pointer (some ⟨r, 0, none⟩), .int .i64 num] w fun e w' => e = .returned (.bool (decide (0 ≤ num ∧ num < D.n))) ∧ w' = w := by
  have c0 := (h.cells hS).1
  clear h hS
  rcases (by omega : num < 0 ∨ (0 ≤ num ∧ num < (D.n : Int)) ∨ (0 ≤ num ∧ ¬ num < (D.n : Int))) with h1 | ⟨h1, h2⟩ | ⟨h1, h2⟩
  · rw [decide_eq_false (p := 0 ≤ num ∧ num < (D.n : Int)) (by omega)]
    have e1 : ¬ 0 ≤ num := by omega
    clear h1
    go_enter Try.func58, Try.ntmps58
    go_wp2
    go_ret
    exact ⟨rfl, rfl⟩
  · rw [decide_eq_true (p := 0 ≤ num ∧ num < (D.n : Int)) (by omega)]
    go_enter Try.func58, Try.ntmps58
    go_wp2
    go_ret
    exact ⟨by simp [h2], rfl⟩
  · rw [decide_eq_false (p := 0 ≤ num ∧ num < (D.n : Int)) (by omega)]
    go_enter Try.func58, Try.ntmps58
    go_wp2
    go_ret
    exact ⟨by simp [h2], rfl⟩
theorem rf_act {w0 w : World} {b g : Nat} {vp : Value} {Dp D : DS} {r : Nat} {T : List (Nat × Obj)} (h : RfOk r D) (hS : St w0 w b g vp Dp (h.rows ++ T)) (hl : D.left < 9223372036854775808) :
    Calls Try.prog 67 #[.pointer (some ⟨r, 0, none⟩)] w fun e w' => e = .returned (.bool (actD D).1) ∧ ∃ h' : RfOk r (actD D).2, (h'.L = h.L ∧ h'.C = h.C) ∧ St w0 w' b g vp Dp (h'.rows ++ T) := by
  obtain ⟨-, -, -, -, c4, c5, c6, -, -, -⟩ := h.cells hS
  have f5 := h.free hS 5
  have f6 := h.free hS 6
  have HE := Lib.hid (show ∃ h' : RfOk r D, (h'.L = h.L ∧ h'.C = h.C) ∧ St w0 w b g vp Dp (h'.rows ++ T) from ⟨h, ⟨rfl, rfl⟩, hS⟩)
  have HSET := Lib.hid (fun j u D' left' a1 a2 a3 a4 a5 => h.set hS j u D' left' a1 a2 a3 a4 a5)
  cases hd : D.down with
  | true =>
    rw [hd] at c6
    by_cases ha : D.armed = true ∧ D.left = 0
    · have HA := Lib.hid (show actD D = (false, D) by unfold actD; rw [if_pos ha, ← hd])
      rw [HA.out]
      clear hS hd ha
      go_enter Try.func67, Try.ntmps67
      go_wp2
      go_ret
      exact ⟨rfl, HE.out⟩
    · have HA := Lib.hid (show actD D = (false, D) by unfold actD; rw [if_neg ha, if_pos hd])
      rw [HA.out]
      clear hS hd ha
      go_enter Try.func67, Try.ntmps67
      go_wp2
      go_ret
      exact ⟨rfl, HE.out⟩
  | false =>
    rw [hd] at c6
    cases ha : D.armed with
    | false =>
      rw [ha] at c4
      have HA := Lib.hid (show actD D = (true, D) by unfold actD; rw [if_neg (by simp [ha]), if_neg (by simp [hd]), if_neg (by simp [ha])])
      rw [HA.out]
      clear hS hd ha
      go_enter Try.func67, Try.ntmps67
      go_wp2
      go_ret
      exact ⟨rfl, HE.out⟩
    | true =>
      rw [ha] at c4
      rw [h.hl ha] at c5
      by_cases h0 : D.left = 0
      · have e0 : ((D.left : Int) == 0) = true := by simp [h0]
        have HA := Lib.hid (show actD D = (false, { D with down := true }) by unfold actD; rw [if_pos ⟨ha, h0⟩])
        have HS := Lib.hid (HSET.out 6 (.bool true) { D with down := true } h.left rfl rfl rfl h.hl rfl)
        rw [HA.out]
        clear hS hd ha h0
        go_enter Try.func67, Try.ntmps67
        go_wp2
        go_ret
        exact ⟨rfl, HS.out⟩
      · have e0 : ((D.left : Int) == 0) = false := by simp [h0]
        have HA := Lib.hid (show actD D = (true, { D with left := D.left - 1 }) by unfold actD; rw [if_neg (by simp [h0]), if_neg (by simp [hd]), if_pos ha])
        have hw : IntKind.i64.wrap ((D.left : Int) - 1) = ((D.left - 1 : Nat) : Int) := by rw [IntWalk.i64_in _ (by omega)]; omega
        have HS := Lib.hid (HSET.out 5 (.int .i64 ((D.left - 1 : Nat) : Int)) { D with left := D.left - 1 } ((D.left - 1 : Nat) : Int) rfl rfl rfl (fun _ => rfl) rfl)
        rw [HA.out]
        clear hS hd ha h0
        go_enter Try.func67, Try.ntmps67
        go_wp2
        go_ret
        exact ⟨rfl, HS.out⟩
end Go.Proofs.Ytggoaelbglhehaa
/- The reference's device: Arm, Down, Blocks, Counts, New. -/
set_option linter.unusedVariables false
set_option linter.unusedSimpArgs false
set_option maxRecDepth 100000
namespace Go.Proofs.Ytggoaelbglhehaa
open Go.RowKit
section
variable {w0 w w' : World} {b g : Nat} {vp : Value} {Dp D : DS} {r : Nat} {T : List (Nat × Obj)}
theorem RfOk.heap (h : RfOk r D) (hS : St w0 w b g vp Dp (h.rows ++ T)) : w.heap[r]? = some (rfO D.n h.base h.vl h.vc D.armed h.left D.down D.rd D.wr D.fl) := hS.mem (by simp [RfOk.rows])
theorem RfOk.setW (h : RfOk r D) (hS : St w0 w b g vp Dp (h.rows ++ T)) (D' : DS) (left' : Int) (hn : D'.n = D.n) (hM : D'.M = D.M) (hC : D'.C = D.C) (hl : D'.armed = true → left' = D'.left) (hO : Only [r] w w')
    (h1 : w'.heap[r]? = some (rfO D'.n h.base h.vl h.vc D'.armed left' D'.down D'.rd D'.wr D'.fl)) : ∃ h' : RfOk r D', (h'.L = h.L ∧ h'.C = h.C) ∧ St w0 w' b g vp Dp (h'.rows ++ T) := by
  have h2 := hS.upd 0 (k := r) (o := rfO D.n h.base h.vl h.vc D.armed h.left D.down D.rd D.wr D.fl) rfl hO h1
  exact ⟨⟨h.L, h.C, h.vl, h.vc, h.base, h.M0, left', h.Ql, h.Qc, h.K, h.ql, h.qc, by rw [hn]; exact h.bs, by rw [hn]; exact h.lo, by rw [hn]; exact h.co, by rw [hM]; exact h.hM, by rw [hC]; exact h.hC, hl, by rw [hn]; exact h.sm⟩, ⟨rfl, rfl⟩, h2⟩
theorem rf_Blocks (h : RfOk r D) (hS : St w0 w b g vp Dp (h.rows ++ T)) :
    Calls Try.prog 53 #[.pointer (some ⟨r, 0, none⟩)] w fun e w' => e = .returned (.int .i64 D.n) ∧ w' = w := by
  obtain ⟨c0, -⟩ := h.cells hS
  clear hS
  go_enter Try.func53, Try.ntmps53
  go_wp2
  go_ret
  exact ⟨rfl, rfl⟩
theorem rf_Counts (h : RfOk r D) (hS : St w0 w b g vp Dp (h.rows ++ T)) :
    Calls Try.prog 33 #[.pointer (some ⟨r, 0, none⟩)] w fun e w' => e = .returned (cntV D) ∧ Below w.heap.size w w' := by
  obtain ⟨-, -, -, -, -, -, -, c7, c8, c9⟩ := h.cells hS
  have hb : r < w.heap.size := lt_of_block (h.heap hS)
  clear hS
  go_enter Try.func33, Try.ntmps33
  go_wp2
  (try simp only [Exit.inBlock, Exit.then])
  exact bodyPost_ret (results_cell_row rfl _ _ w.heap.size 63 _ (0, 0) _ rfl (heap_alloc_new w _) Try.underlying63 rfl sz_cnt) rfl ⟨rfl, (Below.refl _ w).alloc (Nat.le_refl _) _⟩
theorem rf_Arm (k : Int) (h : RfOk r D) (hS : St w0 w b g vp Dp (h.rows ++ T)) :
    Calls Try.prog 26 #[.pointer (some ⟨r, 0, none⟩), .int .i64 k] w fun e w' => e = .returned (.int .i64 (armD D k).1) ∧ ∃ h' : RfOk r (armD D k).2, (h'.L = h.L ∧ h'.C = h.C) ∧ St w0 w' b g vp Dp (h'.rows ++ T) := by
  obtain ⟨-, -, -, -, c4, c5, c6, -, -, -⟩ := h.cells hS
  have f4 := h.free hS 4
  have f5 := h.free hS 5
  have HE := Lib.hid (show ∃ h' : RfOk r D, (h'.L = h.L ∧ h'.C = h.C) ∧ St w0 w b g vp Dp (h'.rows ++ T) from ⟨h, ⟨rfl, rfl⟩, hS⟩)
  by_cases h0 : k < 0
  · have HA := Lib.hid (show armD D k = (1, D) from if_pos h0)
    rw [HA.out]
    clear hS
    go_enter Try.func26, Try.ntmps26
    go_wp2
    go_ret
    exact ⟨rfl, HE.out⟩
  · obtain ⟨m, rfl⟩ : ∃ m : Nat, k = m := ⟨k.toNat, by omega⟩
    cases hd : D.down with
    | true =>
      have HA := Lib.hid (show armD D m = (6, D) by unfold armD; rw [if_neg h0, if_pos hd])
      rw [HA.out]
      rw [hd] at c6
      clear hS hd
      go_enter Try.func26, Try.ntmps26
      go_wp2
      go_ret
      exact ⟨rfl, HE.out⟩
    | false =>
      have HA := Lib.hid (show armD D m = (0, { D with armed := true, left := m }) by unfold armD; rw [if_neg h0, if_neg (by simp [hd]), Int.toNat_natCast])
      have hh := h.heap hS
      have HW := Lib.hid (h.setW hS (w' := (w.setCell ⟨r, 4, none⟩ (.bool true)).setCell ⟨r, 5, none⟩ (.int .i64 m)) { D with armed := true, left := m } m rfl rfl rfl (fun _ => rfl) (((Only.refl [r] w).setCell (by simp) _).setCell (by simp) _) (by
        rw [heap_setCell_same _ r 5 _ _ _ (heap_setCell_same w r 4 _ _ (.bool true) hh)]; rfl))
      rw [HA.out]
      rw [hd] at c6
      clear hS hd hh
      go_enter Try.func26, Try.ntmps26
      go_wp2
      go_ret
      exact ⟨rfl, HW.out⟩
end
def newRf (n r : Nat) (h : 64 ≤ n ∧ n ≤ 4096) : RfOk r (newD n) :=
  ⟨[], [], .slice none 0 0, .slice none 0 0, .slice none 0 0, List.replicate (n * 512) 0, 0, [], [], [], QV.nil _ _, QV.nil _ _, ⟨List.length_replicate, .inl ⟨rfl, rfl⟩⟩, by simp, by simp, rfl, rfl, (fun h => by cases h), h⟩
theorem rf_New_ok (n : Nat) (h1 : 64 ≤ n) (h2 : n ≤ 4096) (w : World) :
    Calls Try.prog 22 #[.int .i64 n] w fun e w' => e = .returned (.tuple #[.pointer (some ⟨w.heap.size, 0, none⟩), .int .i64 0]) ∧ w' = w.alloc (rfO n (.slice none 0 0) (.slice none 0 0) (.slice none 0 0) false 0 false 0 0 0) := by
  have d1 : (64 : Int) ≤ (n : Int) := by omega
  have d2 : (n : Int) ≤ 4096 := by omega
  go_enter Try.func22, Try.ntmps22
  go_wp2
  go_ret2
  exact ⟨rfl, rfl⟩
theorem rf_New_bad (k : Int) (h : k < 64 ∨ 4096 < k) (w : World) :
    Calls Try.prog 22 #[.int .i64 k] w fun e w' => e = .returned (.tuple #[.pointer none, .int .i64 1]) ∧ w' = w := by
  by_cases h1 : k < 64
  · go_enter Try.func22, Try.ntmps22
    go_wp2
    go_ret2
    simp
  · have h2 : 4096 < k := by omega
    go_enter Try.func22, Try.ntmps22
    go_wp2
    go_ret2
    simp
end Go.Proofs.Ytggoaelbglhehaa
/- The reference's device: played, medium. -/
set_option linter.unusedVariables false
set_option linter.unusedSimpArgs false
set_option maxRecDepth 100000
namespace Go.Proofs.Ytggoaelbglhehaa
open Go.RowKit
theorem splice_step {α : Type} (M X : List α) (off j : Nat) (d : α) (h : off + X.length ≤ M.length) (hj : j < X.length) : (splice M off (X.take j)).set (off + j) (X.getD j d) = splice M off (X.take (j + 1)) := by
  have hl : ∀ m, (X.take m).length = min m X.length := fun m => List.length_take
  apply List.ext_getElem?
  intro i
  rw [List.getElem?_set, splice_get _ _ _ _ (by rw [hl]; omega), splice_get _ _ _ _ (by rw [hl]; omega), hl, hl]
  have hlen : (splice M off (X.take j)).length = M.length := splice_lenL _ _ _ (by rw [hl]; omega)
  by_cases h1 : off + j = i
  · subst h1
    rw [if_pos rfl, if_pos (by rw [hlen]; omega), if_pos (by omega), List.getElem?_take, if_pos (by omega), show off + j - off = j by omega, List.getD_eq_getElem?_getD, List.getElem?_eq_getElem hj]
    rfl
  · rw [if_neg h1]
    by_cases h2 : off ≤ i ∧ i < off + j
    · rw [if_pos (by omega), if_pos (by omega), List.getElem?_take, List.getElem?_take, if_pos (by omega), if_pos (by omega)]
    · rw [if_neg (by omega), if_neg (by omega)]
theorem splice_nil {α : Type} (M : List α) (off : Nat) : splice M off ([] : List α) = M := by simp [splice]
section
variable {w0 w : World} {b g : Nat} {vp : Value} {Dp : DS}
/-- the cells of a row of layings -/
theorem ly_cells {X : List (Nat × Obj)} {vl : Value} {L : List (Ly × Value)} {Ql : List (Nat × Obj)} (hS : St w0 w b g vp Dp X) (hq : QV 102 3 vl L.length (lyvs L) Ql) (hX : ∀ p ∈ Ql, p ∈ X) (i : Nat) (hi : i < L.length) :
    ∃ kl c, vl = .slice (some ⟨kl, 0, none⟩) L.length c ∧ w.cell? ⟨kl, i * 3, none⟩ = some (.int .i64 (L.getD i default).1.blk) ∧ w.cell? ⟨kl, i * 3 + 1, none⟩ = some (.int .i64 (L.getD i default).1.at_) ∧ w.cell? ⟨kl, i * 3 + 2, none⟩ = some (L.getD i default).2 := by
  have ho := hq.owns (fun p hp => hS.kp.all p (hX p hp))
  rcases hq with ⟨_, h0, _⟩ | ⟨kl, c, o, rfl, _, _⟩
  · omega
  · obtain ⟨g0, g1, g2⟩ := lyvs_get L i hi
    have h0 := World.ownsRow.cells ho (g := kl) rfl (i * 3) _ g0
    have h1 := World.ownsRow.cells ho (g := kl) rfl (i * 3 + 1) _ g1
    have h2 := World.ownsRow.cells ho (g := kl) rfl (i * 3 + 2) _ g2
    rw [Addr.add_mid, Nat.zero_add] at h0 h1 h2
    exact ⟨kl, c, rfl, h0, h1, h2⟩
theorem getD_mem {α : Type} (l : List α) (i : Nat) (d : α) (h : i < l.length) : l.getD i d ∈ l := by
  rw [List.getD_eq_getElem?_getD, List.getElem?_eq_getElem h]; exact List.getElem_mem h
theorem map_take_snoc {α β : Type} (f : α → β) (l : List α) (i : Nat) (d : α) (h : i < l.length) : (l.take (i + 1)).map f = (l.take i).map f ++ [f (l.getD i d)] := by
  rw [List.take_succ_eq_append_getElem h, List.getD_eq_getElem?_getD, List.getElem?_eq_getElem h, List.map_append]; rfl
set_option maxHeartbeats 1000000 in
theorem rf_played {X K Ql : List (Nat × Obj)} {kb cb N k : Nat} {ob : Obj} {cur : List UInt8} {vl : Value} {L : List (Ly × Value)} (hS : St w0 w b g vp Dp ((kb, ob) :: X)) (hr : RowB ob 512 cb cur) (hq : QV 102 3 vl L.length (lyvs L) Ql) (hX : ∀ p ∈ Ql, p ∈ X) (hK : ∀ p ∈ K, p ∈ X) (hl : ∀ p ∈ L, LyOk K N p) (hLn : L.length ≤ 100000000000) :
    Calls Try.prog 68 #[.slice (some ⟨kb, 0, none⟩) 512 cb, vl, .int .i64 k] w fun e w' => e = .returned (.slice (some ⟨kb, 0, none⟩) 512 cb) ∧ ∃ ob', RowB ob' 512 cb (plB k (L.map Prod.fst) cur) ∧ St w0 w' b g vp Dp ((kb, ob') :: X) := by
  obtain ⟨A, c, rfl⟩ := hq.slice
  have HS := Lib.hid hS
  have HR := Lib.hid hr
  have HQ := Lib.hid hq
  have HX := Lib.hid hX
  have HK := Lib.hid hK
  have HL := Lib.hid hl
  clear hS hr hq hX hK hl
  go_enter Try.func68, Try.ntmps68
  go_wp2_with fail
  go_loopw [7, 8] (fun x _ wx => ∃ i : Nat, ∃ o', i ≤ L.length ∧ x = .int .i64 i ∧ RowB o' 512 cb (plB k ((L.take i).map Prod.fst) cur) ∧ St w0 wx b g vp Dp ((kb, o') :: X)) (fun x _ _ => L.length - (intOf x).toNat)
  case atStart => exact ⟨0, ob, by omega, rfl, HR.out, HS.out⟩
  case round =>
    obtain ⟨i, o', hi, rfl, hr, hT⟩ := hrel
    have HR1 := Lib.hid hr
    have HT := Lib.hid hT
    clear hr hT
    by_cases hin : i < L.length
    · obtain ⟨kl, c9, hv, g0, g1, g2⟩ := ly_cells (HT.out.sub (List.sublist_cons_self _ _)) HQ.out HX.out i hin
      injection hv with e1 e2 e3
      subst e1 e3
      obtain ⟨p, hp⟩ : ∃ p, p = L.getD i default := ⟨_, rfl⟩
      rw [← hp] at g0 g1 g2
      have HP := Lib.hid (HL.out p (by rw [hp]; exact getD_mem L i default hin))
      have HST := Lib.hid (show plB k ((L.take (i + 1)).map Prod.fst) cur = if p.1.blk = k then splice (plB k ((L.take i).map Prod.fst) cur) p.1.at_ p.1.B else plB k ((L.take i).map Prod.fst) cur by rw [map_take_snoc _ L i default hin, plB_snoc, ← hp])
      have HG := Lib.hid (fun (W : World) (R9 : List (Nat × Obj)) (h9 : St w0 W b g vp Dp R9) (hx : ∀ q ∈ X, q ∈ R9) => ly_cells h9 HQ.out (fun q hq => hx q (HX.out q hq)) i hin)
      rw [← hp] at HG
      have hii : (0 : Int) ≤ (i : Int) ∧ (i : Int) < (L.length : Int) ∧ (L.length : Int) ≤ 100000000000 := by omega
      obtain ⟨⟨blk, at_, BB⟩, sv⟩ := p
      have hpf : at_ + BB.length ≤ 512 := HP.out.fit
      dsimp only at g0 g1 g2
      clear hp
      by_cases hbk : blk = k
      · subst hbk
        obtain ⟨cc, hcc⟩ : ∃ cc, cc = plB blk ((L.take i).map Prod.fst) cur := ⟨_, rfl⟩
        rw [← hcc] at HR1
        have HST2 := Lib.hid (show plB blk ((L.take (i + 1)).map Prod.fst) cur = splice cc at_ BB by rw [HST.out, if_pos rfl, ← hcc])
        have hcl : cc.length = 512 := HR1.out.len
        have HCL := Lib.hid hcl
        have hsv : ∃ Ab cb2, sv = .slice Ab BB.length cb2 := by
          rcases HP.out.row with ⟨h1, h2⟩ | ⟨k9, o9, c9, h1, _⟩
          · have h1' : sv = .slice none 0 0 := h1
            have h2' : BB = [] := h2
            rw [h1', h2']; exact ⟨none, 0, rfl⟩
          · exact ⟨_, c9, h1⟩
        obtain ⟨Ab, cb2, rfl⟩ := hsv
        clear hcc hcl
        go_wp2_with fail
        clear g0 g1 g2
        go_loopw [8] (fun x wx => ∃ j : Nat, ∃ o', j ≤ BB.length ∧ x = .int .i64 j ∧ RowB o' 512 cb (splice cc at_ (BB.take j)) ∧ St w0 wx b g vp Dp ((kb, o') :: X)) (fun x _ => BB.length - (intOf x).toNat)
        case atStart => exact ⟨0, o', by omega, rfl, by rw [List.take_zero, splice_nil]; exact HR1.out, HT.out⟩
        case round =>
          obtain ⟨j, o2, hj, rfl, hr2, hT2⟩ := hrel
          have HR2 := Lib.hid hr2
          have HT2 := Lib.hid hT2
          clear hr2 hT2
          obtain ⟨kl2, c2, hv2, g0, g1, g2⟩ := HG.out wr _ HT2.out (fun q hq => List.mem_cons_of_mem _ hq)
          injection hv2 with e1 e2 e3
          injection e1 with e1
          injection e1 with e1
          subst e1 e3
          (try dsimp only at g0 g1 g2)
          by_cases hjn : j < BB.length
          · rcases HP.out.row with ⟨h1, h2⟩ | ⟨kx, ox, cx, h1, hm, hrx⟩
            · have h2' : BB = [] := h2
              rw [h2'] at hjn
              exact absurd hjn (Nat.not_lt_zero j)
            · have h1' : Value.slice Ab BB.length cb2 = .slice (some ⟨kx, 0, none⟩) BB.length cx := h1
              injection h1' with e1 e2 e3
              subst e1 e3
              have hrx2 : RowB ox BB.length cb2 BB := hrx
              have HRX := Lib.hid hrx2
              have hmX := HK.out _ hm
              have g3 := hrx2.cell (HT2.out.mem (List.mem_cons_of_mem _ hmX)) j hjn
              obtain ⟨y, hy⟩ : ∃ y, y = BB.getD j 0 := ⟨_, rfl⟩
              rw [← hy] at g3
              have hcell := HT2.out.cell 0 rfl HR2.out (at_ + j) (by omega)
              have hfree := HR2.out.free (HT2.out.get 0 rfl) (at_ + j)
              generalize (splice cc at_ (BB.take j)).getD (at_ + j) 0 = y0 at hcell
              have hTd := HT2.out.drewN 1
              obtain ⟨o3, ho3, hr3⟩ := HR2.out.store (hTd.get 0 rfl) (at_ + j) y
              rw [hy, splice_step cc BB at_ j 0 (by rw [HCL.out]; omega) hjn] at hr3
              have hTs := hTd.store 0 (at_ + j) _ rfl ho3
              have HN := Lib.hid (And.intro hr3 hTs)
              obtain ⟨kl3, c3, hv3, t0, t1, t2⟩ := HG.out _ _ hTs (fun q hq => List.mem_cons_of_mem _ hq)
              injection hv3 with e1 e2 e3
              injection e1 with e1
              injection e1 with e1
              subst e1 e3
              have t3 := hrx2.cell (hTs.mem (List.mem_cons_of_mem _ hmX)) j hjn
              rw [← hy] at t3
              have hw1 : IntKind.i64.wrap ((at_ : Int) + (j : Int)) = (at_ : Int) + (j : Int) := IntWalk.i64_in _ (by omega)
              have hw2 : (0 : Int) ≤ (at_ : Int) + (j : Int) ∧ (at_ : Int) + (j : Int) < 512 ∧ (0 : Int) ≤ (j : Int) ∧ (j : Int) < (BB.length : Int) := by omega
              have hw3 : ((at_ : Int) + (j : Int)).toNat = at_ + j := by omega
              (try dsimp only at t0 t1 t2)
              clear ho3 hr3 hTs hTd hy hrx hrx2 h1 hm hmX
              go_wp2_with fail
              go_region_held3 (fun w' => w'.cell? ⟨kl, i * 3 + 1, none⟩ = some (.int .i64 (at_ : Int)) ∧ w'.cell? ⟨kl, i * 3 + 2, none⟩ = some (.slice (some ⟨kx, 0, none⟩) BB.length cb2) ∧ w'.cell? ⟨kx, j, none⟩ = some (.int .u8 (y.toNat : Int)))
                (first | exact ⟨t1, t2, t3⟩ | exact ⟨g1, g2, g3⟩) (fail)
              rename_i hHeld
              clear hHeld g0 g1 g2 g3 t0 t1 t2 t3 hw1 hw3
              go_wp2
              go_roundw
              case rel => exact ⟨j + 1, o3, by omega, by go_num, HN.out.1, HN.out.2⟩
              case measure => simp [intOf]; omega
          · obtain rfl : j = BB.length := by omega
            rw [List.take_length] at HR2
            go_wp2
            go_roundw
            case rel => exact ⟨i + 1, o2, by omega, by go_num, by rw [HST2.out]; exact HR2.out, HT2.out⟩
            case measure => simp [intOf]; omega
      · have hbn : ((blk : Int) != (k : Int)) = true := by simp; omega
        have HST2 := Lib.hid (show plB k ((L.take (i + 1)).map Prod.fst) cur = plB k ((L.take i).map Prod.fst) cur by rw [HST.out, if_neg hbk])
        clear hbk
        go_wp2
        go_roundw
        case rel => exact ⟨i + 1, o', by omega, by go_num, by rw [HST2.out]; exact HR1.out, HT.out⟩
        case measure => simp [intOf]; omega
    · obtain rfl : i = L.length := by omega
      rw [List.take_length] at HR1
      go_wp2
      go_ret
      exact ⟨rfl, o', HR1.out, HT.out⟩
end
end Go.Proofs.Ytggoaelbglhehaa
/- The reference's device: medium, Raw, Read. -/
set_option linter.unusedVariables false
set_option linter.unusedSimpArgs false
set_option maxRecDepth 100000
namespace Go.Proofs.Ytggoaelbglhehaa
open Go.RowKit
theorem lay_stepR (X M : List UInt8) (j : Nat) (hX : j < X.length) (hM : j < M.length) : (X.take j ++ M.drop j).set j (X.getD j 0) = X.take (j + 1) ++ M.drop (j + 1) := by
  rw [List.set_append_right _ _ (by rw [List.length_take]; omega), List.length_take, Nat.min_eq_left (by omega), Nat.sub_self, List.drop_eq_getElem_cons hM, List.set_cons_zero, take_snoc X j 0 hX, List.append_assoc]
  rfl
section
variable {w0 w : World} {b g : Nat} {vp : Value} {Dp D : DS} {r : Nat} {T : List (Nat × Obj)}
theorem LyOk.fits {K : List (Nat × Obj)} {N : Nat} {p : Ly × Value} (h : LyOk K N p) : LyFit N p.1 := ⟨h.blk, h.fit⟩
theorem RfOk.lfit (h : RfOk r D) : ∀ x ∈ h.L.map Prod.fst, LyFit D.n x := fun x hx => by
  obtain ⟨p, hp, rfl⟩ := List.mem_map.1 hx
  exact (h.lo p hp).fits
theorem RfOk.mlen (h : RfOk r D) : D.M.length = D.n * 512 := by rw [h.hM]; exact plays_len _ _ h.lfit h.bs.1
theorem RfOk.mblk (h : RfOk r D) (k : Nat) (hk : k < D.n) : blkM D.M k = plB k (h.L.map Prod.fst) (blkM h.M0 k) := by rw [h.hM]; exact plays_blk k hk _ _ h.lfit h.bs.1
theorem blkM_rep (N k : Nat) (h : k < N) : blkM (List.replicate (N * 512) 0) k = List.replicate 512 0 := by
  have := blk_end h
  unfold blkM
  rw [List.drop_replicate, List.take_replicate, Nat.min_eq_left (by omega)]
set_option maxHeartbeats 1000000 in
theorem rf_medium (k : Nat) (h : RfOk r D) (hS : St w0 w b g vp Dp (h.rows ++ T)) (hk : k < D.n) (hLn : h.L.length ≤ 100000000000) :
    Calls Try.prog 69 #[.pointer (some ⟨r, 0, none⟩), .int .i64 k] w fun e w' => ∃ j o, e = .returned (.slice (some ⟨j, 0, none⟩) 512 512) ∧ RowB o 512 512 (blkM D.M k) ∧ St w0 w' b g vp Dp ((j, o) :: (h.rows ++ T)) := by
  have hmk := mk512
  have hsm := h.sm
  have hkk : (0 : Int) ≤ (k : Int) ∧ (k : Int) < (D.n : Int) ∧ (D.n : Int) ≤ 4096 := by omega
  have hB0 : Below w.heap.size w (w.alloc (.cells (zc 512) 5)) := (Below.refl _ w).alloc (Nat.le_refl _) _
  have hO0 : Own (w.alloc (.cells (zc 512) 5)) w.heap.size (.slice (some ⟨w.heap.size, 0, none⟩) 512 512) 512 (List.replicate 512 0) := Own.row (Nat.le_refl _) (by simp) (by omega) (by rw [← zc_bv]; exact heap_alloc_new w _)
  obtain ⟨j0, o0, he, hj0, ho0, hr0⟩ := row512 (o := .cells #[] 0 (0, 0)) hO0 ⟨_, rfl⟩
  injection he with e1 e2 e3
  injection e1 with e1
  injection e1 with e1
  subst e1
  have HT0 := Lib.hid (hS.new hB0 (Nat.le_refl _) ho0)
  have HR0 := Lib.hid hr0
  have HMB := Lib.hid (h.mblk k hk)
  have HCL := Lib.hid (fun (W : World) (o : Obj) (q : Nat) (h9 : St w0 W b g vp Dp ((q, o) :: (h.rows ++ T))) => h.cells (T := T) (h9.sub (List.sublist_cons_self _ _)))
  have HPL := Lib.hid (fun (W : World) (o : Obj) (q : Nat) (cur : List UInt8) (h9 : St w0 W b g vp Dp ((q, o) :: (h.rows ++ T))) (hr9 : RowB o 512 512 cur) => rf_played (k := k) h9 hr9 h.ql (by intro p hp; simp [RfOk.rows, hp]) (K := h.K) (by intro p hp; simp [RfOk.rows, hp]) h.lo hLn)
  obtain ⟨-, c1, -⟩ := HCL.out _ _ _ HT0.out
  obtain ⟨q, hq⟩ : ∃ q, q = w.heap.size := ⟨_, rfl⟩
  rw [← hq] at HT0
  have HQ := Lib.hid hq
  rcases h.bs.2 with ⟨hb, hM0⟩ | ⟨kb, ob, cb, hb, hmb, hrb⟩
  · rw [hb] at c1
    have HPF := Lib.hid (HPL.out _ _ _ _ HT0.out HR0.out)
    rw [show List.replicate 512 0 = blkM h.M0 k by rw [hM0, blkM_rep D.n k hk], ← HMB.out] at HPF
    obtain ⟨-, -, c2, -⟩ := HCL.out _ _ _ HT0.out
    rw [hq] at HPF HT0
    clear hS hB0 hO0 ho0 hr0 hM0 hb hq
    go_enter Try.func69, Try.ntmps69
    go_wp2_with fail
    clear hmk
    go_loopw [6] (fun x wx => x = .int .i64 0 ∧ wx = w.alloc (.cells (zc 512) 5)) (fun x _ => 0)
    case atStart => exact ⟨rfl, rfl⟩
    case round =>
      obtain ⟨rfl, rfl⟩ := hrel
      go_wp2_with fail
      refine HPF.out.mono ?_
      rintro e w3 ⟨rfl, o3, hr3, hT3⟩
      have HE := Lib.hid (And.intro hr3 hT3)
      clear hr3 hT3
      go_wp2
      go_ret
      exact ⟨_, o3, rfl, HE.out.1, HE.out.2⟩
  · rw [hb] at c1
    have HRB := Lib.hid hrb
    have HMM := Lib.hid (show ∀ (o : Obj), (kb, ob) ∈ (q, o) :: (h.rows ++ T) from fun o => by simp [RfOk.rows, hmb])
    have HBL := Lib.hid (show (blkM h.M0 k).length = 512 from blkM_len _ _ (by rw [h.bs.1]; exact blk_end hk))
    have HBB := Lib.hid (show h.base = .slice (some ⟨kb, 0, none⟩) (D.n * 512) cb from hb)
    clear hS hB0 hO0 ho0 hr0 hb hmb hrb
    have HM0 := Lib.hid h.bs.1
    go_enter Try.func69, Try.ntmps69
    go_wp2_with fail
    rw [← hq]
    clear hmk hq c1
    go_loopw [6] (fun x wx => ∃ i : Nat, ∃ o', i ≤ 512 ∧ x = .int .i64 i ∧ RowB o' 512 512 ((blkM h.M0 k).take i ++ (List.replicate 512 0).drop i) ∧ St w0 wx b g vp Dp ((q, o') :: (h.rows ++ T))) (fun x _ => 512 - (intOf x).toNat)
    case atStart => exact ⟨0, o0, by omega, rfl, HR0.out, by rw [HQ.out] at HT0 ⊢; exact HT0.out⟩
    case round =>
      obtain ⟨i, o', hi, rfl, hr, hT⟩ := hrel
      have HR := Lib.hid hr
      have HT := Lib.hid hT
      obtain ⟨-, c1, c2, -⟩ := HCL.out _ _ _ hT
      rw [HBB.out] at c1
      have hw1 : IntKind.i64.wrap ((k : Int) * 512) = (k : Int) * 512 := IntWalk.i64_in _ (by omega)
      by_cases hin : i < 512
      · have g1 := hT.kp.all _ (HMM.out o')
        have g2 := HRB.out.cell g1 (k * 512 + i) (by have := blk_end hk; omega)
        obtain ⟨y, hy⟩ : ∃ y, y = h.M0.getD (k * 512 + i) 0 := ⟨_, rfl⟩
        rw [← hy] at g2
        have hcell := hT.cell 0 rfl hr i (by omega)
        have hfree := hr.free (hT.get 0 rfl) i
        generalize ((blkM h.M0 k).take i ++ (List.replicate 512 0).drop i).getD i 0 = y0 at hcell
        obtain ⟨o2, ho2, hr2⟩ := hr.store (hT.get 0 rfl) i y
        have hyX : y = (blkM h.M0 k).getD i 0 := by rw [hy, List.getD_eq_getElem?_getD, List.getD_eq_getElem?_getD, blkM_get _ _ _ hin]
        rw [hyX, lay_stepR _ _ i (by rw [HBL.out]; exact hin) (by simp; omega)] at hr2
        have HN := Lib.hid (And.intro hr2 (hT.store 0 i _ rfl ho2))
        have hw2 : IntKind.i64.wrap ((k : Int) * 512 + (i : Int)) = (k : Int) * 512 + (i : Int) := IntWalk.i64_in _ (by omega)
        have hw3 : (0 : Int) ≤ (k : Int) * 512 + (i : Int) ∧ (k : Int) * 512 + (i : Int) < (D.n : Int) * 512 ∧ (0 : Int) ≤ (i : Int) ∧ (i : Int) < 512 := by omega
        have hw4 : ((k : Int) * 512 + (i : Int)).toNat = k * 512 + i := by omega
        have hw5 : (0 : Int) < (D.n : Int) * 512 ∧ (((D.n * 512 : Nat) : Nat) : Int) = (D.n : Int) * 512 := by omega
        clear hr hT g1 ho2 hr2 hy hyX c2
        go_wp2
        go_roundw
        case rel => exact ⟨i + 1, o2, by omega, by go_num, HN.out.1, HN.out.2⟩
        case measure => simp [intOf]; omega
      · obtain rfl : i = 512 := by omega
        have hfull : (blkM h.M0 k).take 512 ++ (List.replicate 512 (0 : UInt8)).drop 512 = blkM h.M0 k := by
          rw [List.take_of_length_le (by rw [HBL.out]; exact Nat.le_refl _), List.drop_eq_nil_of_le (by simp), List.append_nil]
        rw [hfull] at HR
        have HPF := Lib.hid (HPL.out _ _ _ _ hT HR.out)
        rw [← HMB.out] at HPF
        clear hr hT hfull
        go_wp2_with fail
        refine HPF.out.mono ?_
        rintro e w3 ⟨rfl, o3, hr3, hT3⟩
        have HE := Lib.hid (And.intro hr3 hT3)
        clear hr3 hT3
        go_wp2
        go_ret
        exact ⟨_, o3, rfl, HE.out.1, HE.out.2⟩
end
end Go.Proofs.Ytggoaelbglhehaa
/- The reference's device: Raw, Read. -/
set_option linter.unusedVariables false
set_option linter.unusedSimpArgs false
set_option maxRecDepth 100000
namespace Go.Proofs.Ytggoaelbglhehaa
open Go.RowKit
theorem splice_all (M X : List UInt8) (h : X.length = M.length) : splice M 0 X = X := by
  simp [splice, h]
theorem plB_cache (k : Nat) : ∀ (C : List (Ly × Value)) (cur : List UInt8), cur.length = 512 → (∀ p ∈ C, p.1.at_ = 0 ∧ p.1.B.length = 512) → plB k (C.map Prod.fst) cur = rdC (C.map fun p => lyPd p.1) k cur
  | [], cur, _, _ => rfl
  | p :: r, cur, hl, hc => by
    have hp := hc p (by simp)
    show plB k (r.map Prod.fst) (if p.1.blk = k then splice cur p.1.at_ p.1.B else cur) = rdC (r.map fun p => lyPd p.1) k (if p.1.blk = k then p.1.B else cur)
    rw [hp.1]
    by_cases he : p.1.blk = k
    · rw [if_pos he, if_pos he, splice_all _ _ (by rw [hp.2, hl])]
      exact plB_cache k r _ hp.2 (fun q hq => hc q (by simp [hq]))
    · rw [if_neg he, if_neg he]
      exact plB_cache k r _ hl (fun q hq => hc q (by simp [hq]))
section
variable {w0 w : World} {b g : Nat} {vp : Value} {Dp D : DS} {r : Nat} {T : List (Nat × Obj)}
theorem rf_Read_bad (num : Int) (h : RfOk r D) (hS : St w0 w b g vp Dp (h.rows ++ T)) (hn : ¬ (0 ≤ num ∧ num < (D.n : Int))) :
    Calls Try.prog 60 #[.pointer (some ⟨r, 0, none⟩), .int .i64 num] w fun e w' => e = .returned (.tuple #[.slice none 0 0, .int .i64 60]) ∧ w' = w := by
  have HH := Lib.hid (rf_there num h hS)
  rw [decide_eq_false hn] at HH
  clear hS hn
  go_enter Try.func60, Try.ntmps60
  go_wp2_with fail
  refine HH.out.mono ?_
  rintro e w1 ⟨rfl, rfl⟩
  go_wp2
  go_ret2
  exact ⟨rfl, rfl⟩
theorem rf_Read_down (num : Int) (h : RfOk r D) (hS : St w0 w b g vp Dp (h.rows ++ T)) (hn : 0 ≤ num ∧ num < (D.n : Int)) (hd : D.down = true) :
    Calls Try.prog 60 #[.pointer (some ⟨r, 0, none⟩), .int .i64 num] w fun e w' => e = .returned (.tuple #[.slice none 0 0, .int .i64 6]) ∧ w' = w := by
  have HH := Lib.hid (rf_there num h hS)
  rw [decide_eq_true hn] at HH
  obtain ⟨-, -, -, -, -, -, c6, -, -, -⟩ := h.cells hS
  rw [hd] at c6
  clear hS hn hd
  go_enter Try.func60, Try.ntmps60
  go_wp2_with fail
  refine HH.out.mono ?_
  rintro e w1 ⟨rfl, rfl⟩
  go_wp2
  go_ret2
  exact ⟨rfl, rfl⟩
set_option maxHeartbeats 1000000 in
theorem rf_Read (k : Nat) (h : RfOk r D) (hS : St w0 w b g vp Dp (h.rows ++ T)) (hk : k < D.n) (hd : D.down = false) (hrd : D.rd < 9223372036854775807) (hLn : h.L.length ≤ 100000000000) (hCn : h.C.length ≤ 100000000000) :
    Calls Try.prog 60 #[.pointer (some ⟨r, 0, none⟩), .int .i64 k] w fun e w' => ∃ j o, e = .returned (.tuple #[.slice (some ⟨j, 0, none⟩) 512 512, .int .i64 0]) ∧ RowB o 512 512 (rdB D k) ∧ ∃ h' : RfOk r { D with rd := D.rd + 1 }, h'.L.length = h.L.length ∧ St w0 w' b g vp Dp ((j, o) :: (h'.rows ++ T)) := by
  have HH := Lib.hid (rf_there k h hS)
  rw [decide_eq_true (show 0 ≤ (k : Int) ∧ (k : Int) < (D.n : Int) by omega)] at HH
  obtain ⟨-, -, -, -, -, -, c6, c7, -, -⟩ := h.cells hS
  rw [hd] at c6
  have f7 := h.free hS 7
  have hh := h.heap hS
  let h' : RfOk r { D with rd := D.rd + 1 } := ⟨h.L, h.C, h.vl, h.vc, h.base, h.M0, h.left, h.Ql, h.Qc, h.K, h.ql, h.qc, h.bs, h.lo, h.co, h.hM, h.hC, h.hl, h.sm⟩
  have hT2 : St w0 (w.setCell ⟨r, 7, none⟩ (.int .i64 ((D.rd : Int) + 1))) b g vp Dp (h'.rows ++ T) := by
    have h2 := hS.upd 0 (k := r) (o := rfO D.n h.base h.vl h.vc D.armed h.left D.down D.rd D.wr D.fl) rfl ((Only.refl [r] w).setCell (by simp) (.int .i64 ((D.rd : Int) + 1))) (heap_setCell_same w r 7 _ _ _ hh)
    exact h2
  obtain ⟨W, hW⟩ : ∃ W, W = w.setCell ⟨r, 7, none⟩ (.int .i64 ((D.rd : Int) + 1)) := ⟨_, rfl⟩
  rw [← hW] at hT2
  have HT2 := Lib.hid hT2
  have HW := Lib.hid hW
  have hw7 : (0 : Int) ≤ (D.rd : Int) ∧ (D.rd : Int) < 9223372036854775807 := by omega
  have HM := Lib.hid (rf_medium k h' (hT2.drewN 1) hk hLn)
  have HCL := Lib.hid (fun (W9 : World) (R9 : List (Nat × Obj)) (h9 : St w0 W9 b g vp Dp R9) (hs : (h'.rows ++ T).Sublist R9) => (h'.cells (T := T) (h9.sub hs)).2.2.2.1)
  have d3 := HCL.out _ _ hT2 (List.Sublist.refl _)
  have HPL := Lib.hid (fun (W : World) (o : Obj) (q : Nat) (cur : List UInt8) (h9 : St w0 W b g vp Dp ((q, o) :: (h'.rows ++ T))) (hr9 : RowB o 512 512 cur) => rf_played (k := k) h9 hr9 h'.qc (by intro p hp; simp [RfOk.rows, hp]) (K := h'.K) (by intro p hp; simp [RfOk.rows, hp]) (fun p hp => (h'.co p hp).1) hCn)
  have HRD := Lib.hid (show plB k (h.C.map Prod.fst) (blkM D.M k) = rdB D k from by
    rw [plB_cache k h.C _ (blkM_len _ _ (by rw [h.mlen]; exact blk_end hk)) (fun p hp => (h.co p hp).2), rdB, h.hC])
  have HEX := Lib.hid (show ∀ (j : Nat) (o : Obj) (W9 : World), RowB o 512 512 (plB k (h'.C.map Prod.fst) (blkM D.M k)) → St w0 W9 b g vp Dp ((j, o) :: (h'.rows ++ T)) → RowB o 512 512 (rdB D k) ∧ ∃ h' : RfOk r { D with rd := D.rd + 1 }, h'.L.length = h.L.length ∧ St w0 W9 b g vp Dp ((j, o) :: (h'.rows ++ T)) from fun j o W9 h1 h2 => ⟨by rw [← HRD.out]; exact h1, h', rfl, h2⟩)
  have hvc : h'.vc = h.vc := rfl
  clear_value h'
  clear hS hk hd hh hT2 hvc
  go_enter Try.func60, Try.ntmps60
  go_wp2_with fail
  refine HH.out.mono ?_
  rintro e w1 ⟨rfl, rfl⟩
  rw [hW] at d3
  go_wp2_with fail
  rw [← hW]
  rw [← hW] at d3
  clear hW c6 c7 f7
  go_region_held3 (fun w' => w'.cell? ⟨r, 3, none⟩ = some h'.vc)
    (first | exact d5 | exact d4 | exact d3)
    (first | (go_at_call 69; refine HM.out.mono ?_; rintro e w4 ⟨j4, o4, rfl, hr4, hT4⟩; have HR4 := Lib.hid hr4; have HT4 := Lib.hid hT4; have d4 := HCL.out _ _ hT4 (List.sublist_cons_self _ _); clear hr4 hT4)
           | (go_at_call 68; refine (HPL.out _ _ _ _ HT4.out HR4.out).mono ?_; rintro e w5 ⟨rfl, o5, hr5, hT5⟩; have HE5 := Lib.hid (HEX.out _ _ _ hr5 hT5); have d5 := HCL.out _ _ hT5 (List.sublist_cons_self _ _); clear hr5 hT5))
  rename_i hHeld
  clear hHeld d3 d4 d5
  go_wp2
  go_ret2
  exact ⟨_, _, rfl, HE5.out.1, HE5.out.2⟩
end
end Go.Proofs.Ytggoaelbglhehaa
/- The reference's device: a laying more, in the cache or on the medium. -/
set_option linter.unusedVariables false
set_option linter.unusedSimpArgs false
set_option maxRecDepth 100000
namespace Go.Proofs.Ytggoaelbglhehaa
open Go.RowKit
theorem info_ly : (Try.prog.info? 102).map (fun i => (i.zero, i.size, i.bytes)) = some (some (.agg #[.int .i64 0, .int .i64 0, .slice none 0 0]), 3, 40) := by kernel_rfl
section
variable {ops : Array Oper} {o : Oper} {a : Act} {Q' : Exit → Act → World → Prop}
/-- append(v, e), one element, as a step of a region that draws: behind its box -/
theorem step_appQ {w0 W : World} {b g : Nat} {vc : Value} {D : DS} {tS t : TypeId} {i0 : TypeInfo} {z : Value} {sz bytes : Nat} {E : Prop} {Kp' : Act → World → Prop} (ht : Try.prog.underlying tS = some (.slice t)) (hi : Try.prog.info? t = some i0) (hz0 : i0.zero = some z) (hz1 : i0.size = sz) (hz2 : i0.bytes = bytes) (hzs : z.cells.size = sz) (hsz : 0 < sz)
    {v : Value} {n : Nat} {vs : List Value} {P Q T : List (Nat × Obj)} (hS : St w0 W b g vc D (P ++ (Q ++ T))) (hQ : QV t sz v n vs Q) (news : List Value) (hnl : news.length = sz) (h1 : ∀ u ∈ news, u.oneCell' = true) (hlim : (n + 1) * bytes ≤ 140737488355328) (hmax : n + 1 ≤ maxLen)
    (B : Nat) (hB : W.heap[B]? = some (.cells news.toArray t (0, 0)))
    (s x : Operand) (hgd : o.guard = none) (ho : o.op = .call { callee := .builtin .append, args := #[s, x], argTypes := #[tS, tS] }) (hs : a.eval s = v) (hx : a.eval x = .slice (some ⟨B, 0, none⟩) 1 1)
    (h : ∀ v1 w1 Q1, QV t sz v1 (n + 1) (vs ++ news) Q1 → St w0 w1 b g vc D (P ++ (Q1 ++ T)) → Kp' (a.put o.dst v1) w1) :
    if Region.wanted o (yielded ops a.tmps) = true then Oper.wp Try.prog o a W Kp' Q' else E := by
  have hw : Region.wanted o (yielded ops a.tmps) = true := by simp [Region.wanted, hgd]
  rw [if_pos hw]
  obtain ⟨v1, w1, hr, h3, h4, _, h5⟩ := run_append_own_at (P := Try.prog) W 0 tS o.type t i0 z sz bytes ht hi hz0 hz1 hz2 hzs hsz v n vs (hQ.owns (fun p hp => hS.kp.all p (by simp [hp]))) ⟨B, 0, none⟩ 1 1 news (by omega) (fun j u hu => by
    rw [Addr.add_mid, Nat.zero_add, cell_of_row _ _ _ _ _ _ hB]
    simpa using hu) h1 hmax hlim (Nat.zero_le _)
  obtain ⟨Q1, hq, hSt⟩ := hS.appQ hQ h3 h4 h5
  unfold Oper.wp execOp
  simp only [ho, resolve, invoke, builtin, Sem.run_bind, Sem.run_pure, Result.andThen_ok, List.map_toArray, List.map_cons, List.map_nil, hs, hx, hr]
  exact h v1 w1 Q1 hq hSt
end
/-- bytes just made, as a laying's -/
theorem Own.ly {w : World} {base n : Nat} {v : Value} {l : List UInt8} (h : Own w base v n l) : (v = .slice none 0 0 ∧ l = []) ∨ ∃ k c o, v = .slice (some ⟨k, 0, none⟩) n c ∧ base ≤ k ∧ w.heap[k]? = some o ∧ RowB o n c l := by
  rcases h.2 with ⟨h1, h0⟩ | ⟨g, cap, cur, h1, hb, hh, h2, h3, h4, h5⟩
  · exact .inl ⟨h1, List.eq_nil_of_length_eq_zero (by rw [h.len, h0])⟩
  · exact .inr ⟨g, cap, _, h1, hb, hh, cur, rfl, by rw [bv_length, h.len], h2, h3, by omega, by rwa [Nat.mul_one] at h5⟩
section
variable {w0 w w' : World} {b g : Nat} {vp : Value} {Dp D : DS} {r : Nat} {T : List (Nat × Obj)}
/-- more rows for bytes -/
def RfOk.addK (h : RfOk r D) (Kn : List (Nat × Obj)) : RfOk r D :=
  ⟨h.L, h.C, h.vl, h.vc, h.base, h.M0, h.left, h.Ql, h.Qc, Kn ++ h.K, h.ql, h.qc,
    ⟨h.bs.1, by
      rcases h.bs.2 with h1 | ⟨k, o, c, h1, h2, h3⟩
      · exact .inl h1
      · exact .inr ⟨k, o, c, h1, List.mem_append_right _ h2, h3⟩⟩,
    fun p hp => (h.lo p hp).mono (fun q hq => List.mem_append_right _ hq), fun p hp => ⟨((h.co p hp).1).mono (fun q hq => List.mem_append_right _ hq), (h.co p hp).2⟩, h.hM, h.hC, h.hl, h.sm⟩
theorem RfOk.addK_rows (h : RfOk r D) (k : Nat) (o : Obj) (hS : St w0 w b g vp Dp ((k, o) :: (h.rows ++ T))) : St w0 w b g vp Dp ((h.addK [(k, o)]).rows ++ T) := by
  refine hS.perm ?_
  show ((k, o) :: ((r, rfO D.n h.base h.vl h.vc D.armed h.left D.down D.rd D.wr D.fl) :: (h.Ql ++ (h.Qc ++ h.K)) ++ T)).Perm (((r, rfO D.n h.base h.vl h.vc D.armed h.left D.down D.rd D.wr D.fl) :: (h.Ql ++ (h.Qc ++ ([(k, o)] ++ h.K)))) ++ T)
  have e1 : ((r, rfO D.n h.base h.vl h.vc D.armed h.left D.down D.rd D.wr D.fl) :: (h.Ql ++ (h.Qc ++ h.K)) ++ T) = ((r, rfO D.n h.base h.vl h.vc D.armed h.left D.down D.rd D.wr D.fl) :: (h.Ql ++ h.Qc)) ++ (h.K ++ T) := by simp [List.append_assoc]
  have e2 : (((r, rfO D.n h.base h.vl h.vc D.armed h.left D.down D.rd D.wr D.fl) :: (h.Ql ++ (h.Qc ++ ([(k, o)] ++ h.K)))) ++ T) = ((r, rfO D.n h.base h.vl h.vc D.armed h.left D.down D.rd D.wr D.fl) :: (h.Ql ++ h.Qc)) ++ ((k, o) :: (h.K ++ T)) := by simp [List.append_assoc]
  rw [e1, e2]
  exact List.perm_middle.symm
/-- bytes just copied: the device, with them among its rows; the bytes as a laying's at any place -/
theorem RfOk.copied (h : RfOk r D) (hS : St w0 w b g vp Dp (h.rows ++ T)) (hb : Below w.heap.size w w') {u : Value} {n : Nat} {l : List UInt8} (hO : Own w' w.heap.size u n l) :
    ∃ h' : RfOk r D, h'.L = h.L ∧ h'.C = h.C ∧ h'.vl = h.vl ∧ h'.vc = h.vc ∧ St w0 w' b g vp Dp (h'.rows ++ T) ∧ ∀ blk at_, blk < D.n → at_ + l.length ≤ 512 → LyOk h'.K D.n (⟨blk, at_, l⟩, u) := by
  have hl := hO.len
  rcases hO.ly with ⟨rfl, rfl⟩ | ⟨k, c, o, rfl, hk, ho, hr⟩
  · exact ⟨h, rfl, rfl, rfl, rfl, hS.below hb, fun blk at_ h1 h2 => ⟨h1, h2, .inl ⟨rfl, rfl⟩⟩⟩
  · refine ⟨h.addK [(k, o)], rfl, rfl, rfl, rfl, h.addK_rows k o (hS.new hb hk ho), fun blk at_ h1 h2 => ⟨h1, h2, .inr ⟨k, o, c, ?_, by simp [RfOk.addK], ?_⟩⟩⟩
    · show Value.slice (some ⟨k, 0, none⟩) n c = .slice (some ⟨k, 0, none⟩) l.length c
      rw [hl]
    · show RowB o l.length c l
      rw [hl]; exact hr
/-- behind the append and the store: one more in the cache -/
theorem RfOk.pushC (h : RfOk r D) {v1 : Value} {Q1 : List (Nat × Obj)} (p : Ly × Value) (hp : LyOk h.K D.n p) (h0 : p.1.at_ = 0) (h5 : p.1.B.length = 512) (hq : QV 102 3 v1 (h.C.length + 1) (lyvs h.C ++ [.int .i64 p.1.blk, .int .i64 p.1.at_, p.2]) Q1)
    (hS : St w0 w b g vp Dp (((r, rfO D.n h.base h.vl h.vc D.armed h.left D.down D.rd D.wr D.fl) :: h.Ql) ++ (Q1 ++ (h.K ++ T)))) :
    ∃ h' : RfOk r { D with C := D.C ++ [lyPd p.1] }, h'.L = h.L ∧ h'.C = h.C ++ [p] ∧ St w0 (w.setCell ⟨r, 3, none⟩ v1) b g vp Dp (h'.rows ++ T) := by
  have hh : w.heap[r]? = some (rfO D.n h.base h.vl h.vc D.armed h.left D.down D.rd D.wr D.fl) := hS.mem (by simp)
  have h2 := hS.upd 0 (k := r) (o := rfO D.n h.base h.vl h.vc D.armed h.left D.down D.rd D.wr D.fl) rfl ((Only.refl [r] w).setCell (by simp) v1) (heap_setCell_same w r 3 _ _ v1 hh)
  refine ⟨⟨h.L, h.C ++ [p], h.vl, v1, h.base, h.M0, h.left, h.Ql, Q1, h.K, h.ql, by rw [List.length_append, lyvs_snoc]; exact hq, h.bs, h.lo, fun q hq' => ?_, h.hM, by show D.C ++ _ = _; rw [h.hC]; simp, h.hl, h.sm⟩, rfl, rfl, ?_⟩
  · rcases List.mem_append.1 hq' with hq' | hq'
    · exact h.co q hq'
    · rw [List.mem_singleton.1 hq']; exact ⟨hp, h0, h5⟩
  · have e : (((r, rfO D.n h.base h.vl v1 D.armed h.left D.down D.rd D.wr D.fl) :: (h.Ql ++ (Q1 ++ h.K))) ++ T) = (((r, rfO D.n h.base h.vl h.vc D.armed h.left D.down D.rd D.wr D.fl) :: h.Ql) ++ (Q1 ++ (h.K ++ T))).set 0 (r, rfO D.n h.base h.vl v1 D.armed h.left D.down D.rd D.wr D.fl) := by simp [List.append_assoc]
    show St w0 (w.setCell ⟨r, 3, none⟩ v1) b g vp Dp (((r, rfO D.n h.base h.vl v1 D.armed h.left D.down D.rd D.wr D.fl) :: (h.Ql ++ (Q1 ++ h.K))) ++ T)
    rw [e]
    exact h2
/-- .. on the medium -/
theorem RfOk.pushL (h : RfOk r D) {v1 : Value} {Q1 : List (Nat × Obj)} (p : Ly × Value) (hp : LyOk h.K D.n p) (hq : QV 102 3 v1 (h.L.length + 1) (lyvs h.L ++ [.int .i64 p.1.blk, .int .i64 p.1.at_, p.2]) Q1)
    (hS : St w0 w b g vp Dp ([(r, rfO D.n h.base h.vl h.vc D.armed h.left D.down D.rd D.wr D.fl)] ++ (Q1 ++ (h.Qc ++ (h.K ++ T))))) :
    ∃ h' : RfOk r { D with M := splice D.M (p.1.blk * 512 + p.1.at_) p.1.B }, h'.L = h.L ++ [p] ∧ h'.C = h.C ∧ St w0 (w.setCell ⟨r, 2, none⟩ v1) b g vp Dp (h'.rows ++ T) := by
  have hh : w.heap[r]? = some (rfO D.n h.base h.vl h.vc D.armed h.left D.down D.rd D.wr D.fl) := hS.mem (by simp)
  have h2 := hS.upd 0 (k := r) (o := rfO D.n h.base h.vl h.vc D.armed h.left D.down D.rd D.wr D.fl) rfl ((Only.refl [r] w).setCell (by simp) v1) (heap_setCell_same w r 2 _ _ v1 hh)
  refine ⟨⟨h.L ++ [p], h.C, v1, h.vc, h.base, h.M0, h.left, Q1, h.Qc, h.K, by rw [List.length_append, lyvs_snoc]; exact hq, h.qc, h.bs, fun q hq' => ?_, h.co, by show splice D.M _ _ = _; rw [List.map_append, h.hM]; exact (plays_snoc _ _ _).symm, h.hC, h.hl, h.sm⟩, rfl, rfl, ?_⟩
  · rcases List.mem_append.1 hq' with hq' | hq'
    · exact h.lo q hq'
    · rw [List.mem_singleton.1 hq']; exact hp
  · have e : (((r, rfO D.n h.base v1 h.vc D.armed h.left D.down D.rd D.wr D.fl) :: (Q1 ++ (h.Qc ++ h.K))) ++ T) = ([(r, rfO D.n h.base h.vl h.vc D.armed h.left D.down D.rd D.wr D.fl)] ++ (Q1 ++ (h.Qc ++ (h.K ++ T)))).set 0 (r, rfO D.n h.base v1 h.vc D.armed h.left D.down D.rd D.wr D.fl) := by simp [List.append_assoc]
    show St w0 (w.setCell ⟨r, 2, none⟩ v1) b g vp Dp (((r, rfO D.n h.base v1 h.vc D.armed h.left D.down D.rd D.wr D.fl) :: (Q1 ++ (h.Qc ++ h.K))) ++ T)
    rw [e]
    exact h2
end
end Go.Proofs.Ytggoaelbglhehaa
