/- AnchorWhole, plain: a torn superblock is whole, or it is told by its generations. -/
import Derived.Test.YtggoaelbglhehaaMgW1
import Derived.Test.YtggoaelbglhehaaMgA12
import Derived.Deep.DeepCutAuto
import Derived.Deep.Slices
import Derived.SizedLaws
import Derived.ChangeSlices
import Derived.ProofKit
import Derived.OpenShut
/- AnchorWhole, plain: a torn superblock is whole, or it is told by its generations. -/
set_option linter.unusedVariables false
set_option linter.unusedSimpArgs false
set_option maxRecDepth 100000
namespace Go.Proofs.Ytggoaelbglhehaa
open Go.RowKit SumMath
def tear (X B : List UInt8) (k : Nat) : List UInt8 := X.take k ++ B.drop k
/-- a block that is to be written with generation g -/
def Pre (g : Int) (B : List UInt8) : Prop := B.length = 512 ∧ ((leN (seg B 504 8) = 0 ∨ (leN (seg B 504 8) : Int) + 2 ≤ g) ∨ (seg B 8 8 = leB 8 g ∧ seg B 504 8 ≠ leB 8 g))
theorem tear_len {X B : List UInt8} {k : Nat} (hx : X.length = 512) (hb : B.length = 512) : (tear X B k).length = 512 := by
  unfold tear
  rw [List.length_append, List.length_take, List.length_drop]; omega
theorem tear_get {X B : List UInt8} {k : Nat} (hx : X.length = 512) (hb : B.length = 512) (i : Nat) : (tear X B k)[i]? = if i < k then X[i]? else B[i]? := by
  unfold tear
  by_cases h : i < k
  · rw [if_pos h]
    by_cases h2 : i < 512
    · rw [List.getElem?_append_left (by rw [List.length_take]; omega), List.getElem?_take, if_pos h]
    · rw [List.getElem?_eq_none (by rw [List.length_append, List.length_take, List.length_drop]; omega), List.getElem?_eq_none (by omega)]
  · rw [if_neg h]
    by_cases h3 : k ≤ 512
    · rw [List.getElem?_append_right (by rw [List.length_take]; omega), List.length_take, List.getElem?_drop, show min k X.length = k by omega]
      congr 1; omega
    · rw [List.getElem?_eq_none (by rw [List.length_append, List.length_take, List.length_drop]; omega), List.getElem?_eq_none (by omega)]
theorem leN_gen (g : Int) (h0 : 0 ≤ g) (h1 : g ≤ 1152921500311879680) : (leN (leB 8 g) : Int) = g := by
  rw [leN_leB, Int.emod_eq_of_lt h0 (by have : ((256 ^ 8 : Nat) : Int) = 18446744073709551616 := by decide
                                        omega)]
theorem pre_end {g : Int} {B : List UInt8} (h : Pre g B) (h0 : 1 ≤ g) (h1 : g ≤ 1152921500311879680) : seg B 504 8 ≠ leB 8 g := fun e => by
  have h2 := leN_gen g (by omega) h1
  rcases h.2 with (h3 | h3) | h3
  · rw [e] at h3; omega
  · rw [e] at h3; omega
  · exact h3.2 e
theorem tear_pre {g : Int} {X B : List UInt8} (k : Nat) (h0 : 1 ≤ g) (h1 : g ≤ 1152921500311879680) (hx : X.length = 512) (hh : seg X 8 8 = leB 8 g) (he : seg X 504 8 = leB 8 g) (h : Pre g B) : tear X B k = X ∨ Pre g (tear X B k) := by
  have hb := h.1
  have hn := pre_end h h0 h1
  have hl := tear_len (k := k) hx hb
  by_cases hE : seg (tear X B k) 504 8 = leB 8 g
  · left
    have hk : 505 ≤ k := by
      rcases Nat.lt_or_ge k 505 with hk | hk
      · exfalso
        apply hn
        rw [← hE]
        apply List.ext_getElem?
        intro i
        rw [seg_get, seg_get]
        split
        · rw [tear_get hx hb, if_neg (by omega)]
        · rfl
      · exact hk
    apply List.ext_getElem?
    intro i
    by_cases h2 : i < 504
    · rw [tear_get hx hb, if_pos (by omega)]
    · by_cases h3 : i < 512
      · have h4 := congrArg (fun l => l[i - 504]?) (hE.trans he.symm)
        simp only [seg_get] at h4
        rw [if_pos (by omega), if_pos (by omega), show 504 + (i - 504) = i by omega] at h4
        exact h4
      · rw [List.getElem?_eq_none (by omega), List.getElem?_eq_none (by omega)]
  · right
    refine ⟨hl, ?_⟩
    by_cases hk : k ≤ 504
    · have e : seg (tear X B k) 504 8 = seg B 504 8 := by
        apply List.ext_getElem?
        intro i
        rw [seg_get, seg_get]
        split
        · rw [tear_get hx hb, if_neg (by omega)]
        · rfl
      rcases h.2 with h3 | h3
      · left; rw [e]; exact h3
      · right
        refine ⟨?_, hE⟩
        rw [← h3.1]
        apply List.ext_getElem?
        intro i
        have h5 := congrArg (fun l => l[i]?) (hh.trans h3.1.symm)
        simp only [seg_get] at h5
        rw [seg_get, seg_get]
        split
        · rename_i hi
          rw [if_pos hi, if_pos hi] at h5
          rw [tear_get hx hb]
          split
          · exact h5
          · rfl
        · rfl
    · right
      refine ⟨?_, hE⟩
      rw [← hh]
      apply List.ext_getElem?
      intro i
      rw [seg_get, seg_get]
      split
      · rw [tear_get hx hb, if_pos (by omega)]
      · rfl
theorem enc_head (s : Sp) : seg (encL s) 8 8 = leB 8 s.gen := enc_fld s 1 8 8 s.gen (by decide) rfl (by decide) (by intro f hf; simp [flds] at hf; rcases hf with rfl | rfl | rfl | rfl | rfl | rfl | rfl | rfl | rfl <;> (dsimp only; omega))
theorem enc_end (s : Sp) : seg (encL s) 504 8 = leB 8 s.gen := enc_fld s 10 504 8 s.gen (by decide) rfl (by decide) (by intro f hf; simp [flds] at hf)
/-- what such a block tells, if anything, lies two behind -/
theorem pre_old {g : Int} {B : List UInt8} (h : Pre g B) (hd : (decG B).2 = 0) : (decG B).1.gen + 2 ≤ g := by
  obtain ⟨h1, h2, h3⟩ := decG_ok hd
  have hg := h2.gen
  have e1 := enc_head (decG B).1
  have e2 := enc_end (decG B).1
  rw [h3] at e1 e2
  have h4 := leN_gen (decG B).1.gen (by omega) hg.2
  rcases h.2 with (h5 | h5) | h5
  · rw [e2] at h5; omega
  · rw [e2] at h5; omega
  · exact absurd (e2.trans (e1.symm.trans h5.1)) h5.2
theorem pre_zero (g : Int) : Pre g (List.replicate 512 0) := ⟨List.length_replicate, .inl (.inl (by
  have : ∀ n, leN (List.replicate n (0 : UInt8)) = 0 := fun n => by
    induction n with
    | zero => rfl
    | succ n ih => rw [List.replicate_succ, leN, ih]; rfl
  unfold seg
  rw [List.drop_replicate, List.take_replicate]
  exact this _))⟩
theorem pre_enc (s : Sp) (h0 : 1 ≤ s.gen) (h1 : s.gen ≤ 1152921500311879680) : Pre (s.gen + 2) (encL s) := ⟨encL_len s, .inl (.inr (by rw [enc_end, leN_gen _ (by omega) h1]; omega))⟩
/-! ### the device between two tries: c counts -/
structure Wh (D : DS) (c : Sp) : Prop where
  n : D.n = 64
  len : D.M.length = 64 * 512
  ca : D.C = []
  up : D.down = false
  is : (c.gen = 0 ∧ blkM D.M 0 = List.replicate 512 0 ∧ Pre 1 (blkM D.M 1)) ∨ (Vld c 64 ∧ blkM D.M (c.gen % 2).toNat = encL c ∧ Pre (c.gen + 1) (blkM D.M (1 - (c.gen % 2).toNat)))
theorem Wh.rd {D : DS} {c : Sp} (h : Wh D c) (k : Nat) : rdB D k = blkM D.M k := by unfold rdB; rw [h.ca]; rfl
theorem Wh.read {D : DS} {c : Sp} (h : Wh D c) : anR D = if c.gen = 0 then (zSp, 0, 5, { D with rd := D.rd + 2 }) else (c, c.gen % 2, 0, { D with rd := D.rd + 2 }) := by
  have hn : (D.n : Int) = 64 := by rw [h.n]; rfl
  rw [anR_two D h.up]
  have key : anB D 2 = if c.gen = 0 then (zSp, 0) else (c, c.gen % 2) := by
    rcases h.is with ⟨h0, h1, h2⟩ | ⟨hv, h1, h2⟩
    · rw [if_pos h0]
      have e1 : anB D 1 = (zSp, 0) := anB_one_no D (by
        by_cases hd : (decG (rdB D 0)).2 = 0
        · exfalso
          rw [h.rd, h1] at hd
          have h9 := pre_old (pre_zero 1) hd
          have := (decG_ok hd).2.1.gen
          omega
        · exact .inl hd)
      have e2 : anB D 2 = anB D 1 := anB_two_no D (by
        by_cases hd : (decG (rdB D 1)).2 = 0
        · exfalso
          rw [h.rd] at hd
          have h9 := pre_old h2 hd
          have := (decG_ok hd).2.1.gen
          omega
        · exact .inl hd)
      rw [e2, e1]
    · have hg := hv.gen
      rw [if_neg (by omega)]
      have hvn : Vld c D.n := by rw [hn]; exact hv
      rcases (show c.gen % 2 = 0 ∨ c.gen % 2 = 1 by omega) with hp | hp
      · rw [hp] at h1 h2 ⊢
        have e1 := anB_one D c (by rw [h.rd]; show decG (blkM D.M 0) = _; rw [show blkM D.M 0 = encL c from h1]; exact decG_enc c (by rw [hv.blocks]; exact hv)) hvn hp (by omega)
        have e2 : anB D 2 = anB D 1 := anB_two_no D (by
          by_cases hd : (decG (rdB D 1)).2 = 0
          · refine .inr (.inr ?_)
            rw [h.rd] at hd ⊢
            have h9 := pre_old (show Pre (c.gen + 1) (blkM D.M 1) from h2) hd
            rw [e1]
            show _ ≤ c.gen
            omega
          · exact .inl hd)
        rw [e2, e1]
      · rw [hp] at h1 h2 ⊢
        have e2 := anB_two D c (by rw [h.rd]; show decG (blkM D.M 1) = _; rw [show blkM D.M 1 = encL c from h1]; exact decG_enc c (by rw [hv.blocks]; exact hv)) hvn hp (by
          by_cases hd : (decG (rdB D 0)).2 = 0
          · have h8 := hd
            rw [h.rd] at hd
            have h9 := pre_old (show Pre (c.gen + 1) (blkM D.M 0) from h2) hd
            by_cases hv0 : Vld (decG (rdB D 0)).1 D.n ∧ (decG (rdB D 0)).1.gen % 2 = 0
            · have e1 := anB_one D (decG (rdB D 0)).1 (by rw [← h8]) hv0.1 hv0.2 (by have := hv0.1.gen; omega)
              rw [e1, h.rd]
              show (decG (blkM D.M 0)).1.gen < _
              omega
            · rw [show anB D 1 = (zSp, 0) from by
                show (if (decG (rdB D 0)).2 = 0 ∧ Vld (decG (rdB D 0)).1 D.n ∧ (decG (rdB D 0)).1.gen % 2 = (0 : Nat) ∧ (anB D 0).1.gen < (decG (rdB D 0)).1.gen then ((decG (rdB D 0)).1, ((0 : Nat) : Int)) else anB D 0) = _
                rw [if_neg (fun h => hv0 ⟨h.2.1, h.2.2.1⟩)]; rfl]
              show (0 : Int) < _
              omega
          · rw [anB_one_no D (.inl hd)]; show (0 : Int) < _; omega)
        rw [e2]
  rw [key]
  by_cases h0 : c.gen = 0
  · rw [if_pos h0, if_pos h0, if_pos (show zSp.gen = 0 from rfl)]
  · rw [if_neg h0, if_neg h0]
/-- a try: whatever becomes of it, what counts is as before or what was to be written -/
def whA (D : DS) (k : Int) : DS := if 0 ≤ k then (armD D k).2 else D
def whC (D : DS) (s : Sp) (crash : Bool) (F : List Ft) : DS := if (anW D s).1 = 0 ∧ crash = false then (anW D s).2 else crD (anW D s).2 F
theorem Wh.arm {D : DS} {c : Sp} (h : Wh D c) (k : Int) (hk : 0 ≤ k) : (armD D k).1 = 0 ∧ Wh (armD D k).2 c := by
  unfold armD
  rw [if_neg (by omega), if_neg (by rw [h.up]; decide)]
  exact ⟨rfl, h.n, h.len, h.ca, h.up, h.is⟩
theorem Wh.armed {D : DS} {c : Sp} (h : Wh D c) (k : Int) : Wh (whA D k) c := by
  unfold whA
  split
  · rename_i hk; exact (h.arm k hk).2
  · exact h
theorem blk_len {M : List UInt8} {k : Nat} (h : M.length = 64 * 512) (hk : k < 64) : (blkM M k).length = 512 := by
  unfold blkM; rw [List.length_take, List.length_drop]; omega
/-- the block laid, torn or whole -/
theorem Wh.lay {D D' : DS} {c s : Sp} (h : Wh D c) (hs : Vld s 64) (hg : s.gen = c.gen + 1) (k : Nat) (hn : D'.n = 64) (hc : D'.C = []) (hd : D'.down = false) (hm : D'.M = layP D.M ⟨(s.gen % 2).toNat, encL s⟩ k) : Wh D' c ∨ Wh D' s := by
  have hlt : (s.gen % 2).toNat < 64 := by omega
  have hl : D'.M.length = 64 * 512 := by rw [hm]; exact layP_len h.len hlt (encL_len s)
  have hsame : blkM D'.M (s.gen % 2).toNat = tear (encL s) (blkM D.M (s.gen % 2).toNat) k := by rw [hm]; exact layP_same h.len hlt (encL_len s)
  have hother : ∀ j, j ≠ (s.gen % 2).toNat → blkM D'.M j = blkM D.M j := fun j hj => by rw [hm]; exact layP_other h.len hlt (encL_len s) (fun e => hj e.symm)
  have hsg := hs.gen
  have hpre : Pre s.gen (blkM D.M (s.gen % 2).toNat) := by
    rcases h.is with ⟨h0, h1, h2⟩ | ⟨hv, h1, h2⟩
    · rw [show s.gen = 1 by omega]; exact h2
    · rw [hg, show ((c.gen + 1) % 2).toNat = 1 - (c.gen % 2).toNat by omega]; exact h2
  have hcase := tear_pre k hsg.1 hsg.2 (encL_len s) (enc_head s) (enc_end s) hpre
  rcases hcase with hw | hp
  · right
    refine ⟨hn, hl, hc, hd, .inr ⟨hs, by rw [hsame, hw], ?_⟩⟩
    rw [hother _ (by omega)]
    rcases h.is with ⟨h0, h1, h2⟩ | ⟨hv, h1, h2⟩
    · rw [show s.gen = 1 by omega]
      show Pre 2 (blkM D.M 0)
      rw [h1]; exact pre_zero 2
    · rw [hg, show 1 - ((c.gen + 1) % 2).toNat = (c.gen % 2).toNat by omega, h1, show c.gen + 1 + 1 = c.gen + 2 by omega]
      exact pre_enc c hv.gen.1 hv.gen.2
  · left
    refine ⟨hn, hl, hc, hd, ?_⟩
    rcases h.is with ⟨h0, h1, h2⟩ | ⟨hv, h1, h2⟩
    · left
      refine ⟨h0, by rw [hother 0 (by omega)]; exact h1, ?_⟩
      have e : (s.gen % 2).toNat = 1 := by omega
      rw [e] at hsame hp
      rw [hsame]
      rw [show s.gen = 1 by omega] at hp
      exact hp
    · right
      refine ⟨hv, by rw [hother _ (by omega)]; exact h1, ?_⟩
      rw [show 1 - (c.gen % 2).toNat = (s.gen % 2).toNat by omega, hsame, ← hg]
      exact hp
theorem wh_write {D : DS} {c s : Sp} (h : Wh D c) (hs : Vld s 64) (hg : s.gen = c.gen + 1) (crash : Bool) (F : List Ft) :
    ((anW D s).1 = 0 ∨ (anW D s).1 = 6) ∧ ((anW D s).1 = 0 → (anW D s).2.down = false) ∧ (Wh (whC D s crash F) c ∧ (anW D s).1 ≠ 0 ∨ Wh (whC D s crash F) s) := by
  have hn := h.n
  have hvn : Vld s D.n := by rw [hn]; exact hs
  have hk := actD_keeps D
  have hdn : (actD D).1 = true → (actD D).2.down = false := by
    unfold actD
    split
    · intro h; cases h
    · split
      · intro h; cases h
      · split <;> (intro _; exact h.up)
  have hw : wrD D (s.gen % 2) (encL s) = if (actD D).1 = true then (0, { (actD D).2 with C := [⟨(s.gen % 2).toNat, encL s⟩], wr := (actD D).2.wr + 1 }) else (6, (actD D).2) := by
    unfold wrD
    rw [if_neg (by rw [hn]; omega), if_neg (by rw [encL_len]; simp), hk.1, h.ca]; rfl
  have hmod := Int.emod_nonneg s.gen (show (2 : Int) ≠ 0 by omega)
  unfold whC
  have ha : anW D s = if (wrD D (s.gen % 2) (encL s)).1 = 0 then (if (flD (wrD D (s.gen % 2) (encL s)).2).1 = 0 then (0, (flD (wrD D (s.gen % 2) (encL s)).2).2) else (6, (flD (wrD D (s.gen % 2) (encL s)).2).2)) else (6, (wrD D (s.gen % 2) (encL s)).2) := by
    unfold anW; rw [if_pos hvn]
  by_cases h1 : (actD D).1 = true
  · rw [if_pos h1] at hw
    rw [hw] at ha
    rw [if_pos rfl] at ha
    obtain ⟨D1, hD1⟩ : ∃ D1, D1 = ({ (actD D).2 with C := [⟨(s.gen % 2).toNat, encL s⟩], wr := (actD D).2.wr + 1 } : DS) := ⟨_, rfl⟩
    have h1n : D1.n = 64 := by rw [hD1]; exact hk.2.2.1.trans hn
    have h1m : D1.M = D.M := by rw [hD1]; exact hk.2.1
    have h1c : D1.C = [⟨(s.gen % 2).toNat, encL s⟩] := by rw [hD1]
    have h1d : D1.down = false := by rw [hD1]; exact hdn h1
    dsimp only at ha
    rw [← hD1] at ha
    clear hD1
    have hk1 := actD_keeps D1
    have hdn1 : (actD D1).1 = true → (actD D1).2.down = false := by
      unfold actD
      split
      · intro h; cases h
      · split
        · intro h; cases h
        · split <;> (intro _; exact h1d)
    by_cases h2 : (actD D1).1 = true
    · have hf : flD D1 = (0, { (actD D1).2 with C := [], M := layP D.M ⟨(s.gen % 2).toNat, encL s⟩ 512, fl := (actD D1).2.fl + 1 }) := by
        unfold flD; rw [if_pos h2, hk1.1, h1c, hk1.2.1, h1m]; rfl
      rw [hf, if_pos rfl] at ha
      rw [ha]
      refine ⟨.inl rfl, fun _ => hdn1 h2, .inr ?_⟩
      have hwh : ∀ D' : DS, D'.n = 64 → D'.C = [] → D'.down = false → D'.M = layP D.M ⟨(s.gen % 2).toNat, encL s⟩ 512 → Wh D' s := fun D' a1 a2 a3 a4 => by
        have hlt : (s.gen % 2).toNat < 64 := by omega
        have hl : D'.M.length = 64 * 512 := by rw [a4]; exact layP_len h.len hlt (encL_len s)
        have hsame : blkM D'.M (s.gen % 2).toNat = encL s := by
          rw [a4, layP_same h.len hlt (encL_len s)]
          show (encL s).take 512 ++ _ = _
          rw [List.take_of_length_le (by rw [encL_len]; omega), List.drop_eq_nil_of_le (by rw [blk_len h.len hlt]; omega), List.append_nil]
        have hother : ∀ j, j ≠ (s.gen % 2).toNat → blkM D'.M j = blkM D.M j := fun j hj => by rw [a4]; exact layP_other h.len hlt (encL_len s) (fun e => hj e.symm)
        refine ⟨a1, hl, a2, a3, .inr ⟨hs, hsame, ?_⟩⟩
        rw [hother _ (by omega)]
        rcases h.is with ⟨h0, h1, h2⟩ | ⟨hv, h1, h2⟩
        · rw [show s.gen = 1 by omega]
          show Pre 2 (blkM D.M 0)
          rw [h1]; exact pre_zero 2
        · rw [hg, show 1 - ((c.gen + 1) % 2).toNat = (c.gen % 2).toNat by omega, h1, show c.gen + 1 + 1 = c.gen + 2 by omega]
          exact pre_enc c hv.gen.1 hv.gen.2
      cases crash
      · rw [if_pos ⟨rfl, rfl⟩]
        exact hwh _ (hk1.2.2.1.trans h1n) rfl (hdn1 h2) rfl
      · rw [if_neg (fun h => by have := h.2; cases this)]
        exact hwh _ (hk1.2.2.1.trans h1n) rfl rfl rfl
    · have hf : flD D1 = (6, (actD D1).2) := by unfold flD; rw [if_neg h2]
      rw [hf, if_neg (show ¬ (6 : Int) = 0 by decide)] at ha
      rw [ha]
      refine ⟨.inr rfl, fun h => absurd (show (6 : Int) = 0 from h) (by decide), ?_⟩
      rw [if_neg (fun h => absurd (show (6 : Int) = 0 from h.1) (by decide))]
      have hl : (crD (actD D1).2 F).M = layP D.M ⟨(s.gen % 2).toNat, encL s⟩ (crN F 0) := by
        show layA (crN F) 0 (actD D1).2.C (actD D1).2.M = _
        rw [hk1.1, h1c, hk1.2.1, h1m]; rfl
      rcases h.lay hs hg _ (show (crD (actD D1).2 F).n = 64 from hk1.2.2.1.trans h1n) rfl rfl hl with h3 | h3
      · exact .inl ⟨h3, show ¬ (6 : Int) = 0 by decide⟩
      · exact .inr h3
  · rw [if_neg h1] at hw
    rw [hw, if_neg (show ¬ (6 : Int) = 0 by decide)] at ha
    rw [ha]
    refine ⟨.inr rfl, fun h => absurd (show (6 : Int) = 0 from h) (by decide), .inl ⟨?_, show ¬ (6 : Int) = 0 by decide⟩⟩
    rw [if_neg (fun h => absurd (show (6 : Int) = 0 from h.1) (by decide))]
    refine ⟨hk.2.2.1.trans hn, ?_, rfl, rfl, ?_⟩
    · show (layA (crN F) 0 (actD D).2.C (actD D).2.M).length = _
      rw [hk.1, h.ca, hk.2.1]; exact h.len
    · have e : (crD (actD D).2 F).M = D.M := by
        show layA (crN F) 0 (actD D).2.C (actD D).2.M = _
        rw [hk.1, h.ca, hk.2.1]; rfl
      have h9 := h.is
      rw [← e] at h9
      exact h9
end Go.Proofs.Ytggoaelbglhehaa
/- The laws' helper ownFates: fates copied one by one. -/
set_option linter.unusedVariables false
set_option linter.unusedSimpArgs false
set_option maxRecDepth 100000
namespace Go.Proofs.Ytggoaelbglhehaa
open Go.RowKit
def OwnF (w : World) (base : Nat) (v : Value) (n : Nat) (l : List Ft) : Prop := w.ownsRow base 99 2 v n (fv l)
theorem OwnF.len {w : World} {base n : Nat} {v : Value} {l : List Ft} (h : OwnF w base v n l) : l.length = n := by
  have h1 := h.1
  rw [fv_len] at h1
  omega
theorem OwnF.nil (w : World) (base : Nat) : OwnF w base (.slice none 0 0) 0 [] := World.ownsRow_nil w base _ _
theorem fv_snoc (l : List Ft) (f : Ft) : fv (l ++ [f]) = fv l ++ [.int .i64 f.kind, .int .i64 f.at_] := by simp [fv]
theorem OwnF.rd {w : World} {base n : Nat} {v : Value} {l : List Ft} (h : OwnF w base v n l) (hm : n ≤ 140737488355328) : ∃ A c, v = .slice A n c ∧ RdF w A n c l ∧ (∀ p, A = some p → base ≤ p.block) := by
  have hl := h.len
  rcases h.2 with ⟨rfl, h0⟩ | ⟨g, cap, cur, rfl, hb, hh, h1, h2, h3, h4⟩
  · subst h0
    exact ⟨none, 0, rfl, ⟨hl, Nat.le_refl _, by omega, fun hp => absurd hp (by omega)⟩, by simp⟩
  · refine ⟨_, cap, rfl, ⟨hl, h1, hm, fun hp => ⟨g, 0, rfl, fun j hj => ?_⟩⟩, fun p hp => by injection hp with hp; subst hp; exact hb⟩
    have hg := fv_get l j (by omega)
    have c0 := World.ownsRow.cells h (g := g) rfl _ _ hg.1
    have c1 := World.ownsRow.cells h (g := g) rfl _ _ hg.2
    rw [Addr.add_mid] at c0 c1
    exact ⟨c0, c1⟩
section
variable {ops : Array Oper} {rest : List Oper} {o : Oper} {a : Act} {Q : Exit → Act → World → Prop}
theorem wp_appF1 {w0 W : World} (base : Nat) {v : Value} {n : Nat} {xs : List Ft} (f : Ft)
    (HO : OwnF W base v n xs) (HB : Below base w0 W) (hbase : base ≤ W.heap.size) (hl : (n + 1) * 16 ≤ 140737488355328) (s x : Operand) (hgd : o.guard = none)
    (ho : o.op = .call { callee := .builtin .append, args := #[s, x], argTypes := #[53, 53] }) (hs : a.eval s = v) (hx : a.eval x = .slice (some ⟨W.heap.size, 0, none⟩) 1 1)
    (h : ∀ v1 w1, OwnF w1 base v1 (n + 1) (xs ++ [f]) → Below base w0 w1 → wpList Try.prog ops Q rest (a.put o.dst v1) w1) :
    wpList Try.prog ops Q (o :: rest) a (W.alloc (.cells #[.int .i64 f.kind, .int .i64 f.at_] 99)) := by
  obtain ⟨i0, hi, hzz⟩ := Option.map_eq_some_iff.1 info_ft
  simp only [Prod.mk.injEq] at hzz
  obtain ⟨hz0, hz1, hz2⟩ := hzz
  have HO2 : (W.alloc (.cells #[.int .i64 f.kind, .int .i64 f.at_] 99)).ownsRow base 99 2 v n (fv xs) := World.ownsRow.alloc HO _
  obtain ⟨v1, w1, hr, h3, h4, _, h5⟩ := run_append_own_at (P := Try.prog) (W.alloc (.cells #[.int .i64 f.kind, .int .i64 f.at_] 99)) base 53 o.type 99 i0 _ 2 16 Try.underlying53 hi hz0 hz1 hz2 (by rfl) (by omega) v n (fv xs) HO2 ⟨W.heap.size, 0, none⟩ 1 1 [.int .i64 f.kind, .int .i64 f.at_] (by rfl) (fun j u hu => by
    rw [Addr.add_mid, Nat.zero_add, cell_of_row _ _ _ _ _ _ (heap_alloc_new W _)]
    simpa using hu) (by simp [Value.oneCell']) (by simp only [maxLen]; omega) hl (by rw [World.size_alloc]; omega)
  refine wpList_plain hgd fun K hK => ?_
  unfold Oper.wp execOp
  simp only [ho, resolve, invoke, builtin, Sem.run_bind, Sem.run_pure, Result.andThen_ok, List.map_toArray, List.map_cons, List.map_nil, hs, hx, hr]
  refine hK _ _ (h v1 w1 (by unfold OwnF; rw [fv_snoc]; exact h3) ((HB.alloc hbase _).grown h4 (by rw [World.size_alloc]; omega) ?_))
  intro k hk
  exact ((World.ownsRow.lt HO) k hk).1
end
theorem l11_ownFates (w : World) (A : Option Addr) (n c : Nat) (l : List Ft) (hr : RdF w A n c l) (hn : n ≤ 8796093022207) :
    Calls Try.prog 28 #[.slice A n c] w fun e w' => ∃ u, e = .returned u ∧ OwnF w' w.heap.size u n l ∧ Below w.heap.size w w' := by
  have HR := Lib.hid hr
  have hl := Lib.hid hr.len
  clear hr
  go_enter Try.func28, Try.ntmps28
  go_wp2_with fail
  go_loopw [3, 4] (fun v x wx => ∃ k : Nat, k ≤ n ∧ x = .int .i64 k ∧ OwnF wx w.heap.size v k (l.take k) ∧ Below w.heap.size w wx) (fun _ x _ => n - (intOf x).toNat)
  case atStart => exact ⟨0, by omega, rfl, OwnF.nil _ _, Below.refl _ _⟩
  case round =>
    obtain ⟨k, hk, rfl, hO, hB⟩ := hrel
    have HO := Lib.hid hO
    have HB := Lib.hid hB
    have hz := hB.size
    clear hO hB
    by_cases hkn : k < n
    · obtain ⟨b, o, rfl, hc⟩ := (HR.out.ext HB.out).at_ (by omega)
      have hcell := hc k hkn
      obtain ⟨y, hy⟩ : ∃ y, y = l.getD k default := ⟨_, rfl⟩
      rw [← hy] at hcell
      have HST := Lib.hid (show l.take (k + 1) = l.take k ++ [y] by rw [hy]; exact take_snoc l k default (by rw [hl.out]; exact hkn))
      have hki : (0 : Int) ≤ (k : Int) ∧ (k : Int) < (n : Int) := by omega
      clear hc hy
      obtain ⟨yk, ya⟩ := y
      dsimp only at hcell
      go_wp2_with (at_builtin; refine wp_appF1 (w0 := w) w.heap.size ⟨yk, ya⟩ HO.out HB.out hz (by omega) _ _ rfl rfl rfl rfl ?_; intro v1 w1 hO1 hB1; have HO1 := Lib.hid hO1; have HB1 := Lib.hid hB1; clear hO1 hB1)
      go_roundw
      case rel => exact ⟨k + 1, by omega, by go_num, by rw [HST.out]; exact HO1.out, HB1.out⟩
      case measure => simp [intOf]; omega
    · obtain rfl : k = n := by omega
      have HT := Lib.hid (show l.take k = l from List.take_of_length_le (by rw [hl.out]; exact Nat.le_refl _))
      rw [HT.out] at HO
      go_wp2
      go_ret
      exact ⟨_, rfl, HO.out, HB.out⟩
end Go.Proofs.Ytggoaelbglhehaa
/- AnchorWhole: the tries in memory; numbers that stay small. -/
set_option linter.unusedVariables false
set_option linter.unusedSimpArgs false
set_option maxRecDepth 100000
namespace Go.Proofs.Ytggoaelbglhehaa
open Go.RowKit SumMath
structure TryD where
  s : Sp
  arm : Int
  crash : Bool
  F : List Ft
instance : Inhabited Sp := ⟨zSp⟩
instance : Inhabited TryD := ⟨⟨default, 0, false, []⟩⟩
structure TryD.ok (x : TryD) : Prop where
  s : x.s.ok
  arm : -9223372036854775808 ≤ x.arm ∧ x.arm < 9223372036854775808
  F : x.F.length ≤ 8796093022207
structure TryAt (w : World) (b o : Nat) (x : TryD) : Prop where
  ok : x.ok
  c0 : w.cell? ⟨b, o, none⟩ = some (.int .i64 x.s.gen)
  c1 : w.cell? ⟨b, o + 1, none⟩ = some (.int .i64 x.s.epoch)
  c2 : w.cell? ⟨b, o + 2, none⟩ = some (.int .i64 x.s.blocks)
  c3 : w.cell? ⟨b, o + 3, none⟩ = some (.int .i64 x.s.log)
  c4 : w.cell? ⟨b, o + 4, none⟩ = some (.int .i64 x.s.stamp)
  c5 : w.cell? ⟨b, o + 5, none⟩ = some (.int .i64 x.s.at_)
  c6 : w.cell? ⟨b, o + 6, none⟩ = some (.int .i64 x.s.root)
  c7 : w.cell? ⟨b, o + 7, none⟩ = some (.int .i64 x.s.count)
  c8 : w.cell? ⟨b, o + 8, none⟩ = some (.int .i64 x.s.version)
  c9 : w.cell? ⟨b, o + 9, none⟩ = some (.int .i64 x.arm)
  c10 : w.cell? ⟨b, o + 10, none⟩ = some (.bool x.crash)
  c11 : ∃ A n c, w.cell? ⟨b, o + 11, none⟩ = some (.slice A n c) ∧ RdF w A n c x.F
structure RdTry (w : World) (A : Option Addr) (n c : Nat) (l : List TryD) : Prop where
  len : l.length = n
  cap : n ≤ c
  max : n ≤ 140737488355328
  at_ : 0 < n → ∃ b o, A = some ⟨b, o, none⟩ ∧ ∀ j, j < n → TryAt w b (o + j * 12) (l.getD j default)
theorem TryAt.ext {w w' : World} {b o : Nat} {x : TryD} (h : TryAt w b o x) (hb : Below w.heap.size w w') : TryAt w' b o x := by
  obtain ⟨A7, n7, c7, h7, r7⟩ := h.c11
  exact ⟨h.ok, cell_ext hb h.c0, cell_ext hb h.c1, cell_ext hb h.c2, cell_ext hb h.c3, cell_ext hb h.c4, cell_ext hb h.c5, cell_ext hb h.c6, cell_ext hb h.c7, cell_ext hb h.c8, cell_ext hb h.c9, cell_ext hb h.c10, ⟨A7, n7, c7, cell_ext hb h7, r7.ext hb⟩⟩
theorem RdTry.ext {w w' : World} {A : Option Addr} {n c : Nat} {l : List TryD} (h : RdTry w A n c l) (hb : Below w.heap.size w w') : RdTry w' A n c l :=
  ⟨h.len, h.cap, h.max, fun hn => by
    obtain ⟨b, o, e, hc⟩ := h.at_ hn
    exact ⟨b, o, e, fun j hj => (hc j hj).ext hb⟩⟩
def tryC (s : Sp) (k : Int) (cr : Bool) (v : Value) : Array Value := #[.int .i64 s.gen, .int .i64 s.epoch, .int .i64 s.blocks, .int .i64 s.log, .int .i64 s.stamp, .int .i64 s.at_, .int .i64 s.root, .int .i64 s.count, .int .i64 s.version, .int .i64 k, .bool cr, v]
theorem cell12 {W : World} {q : Nat} {s : Sp} {k : Int} {cr : Bool} {v : Value} {t : TypeId} (h : W.heap[q]? = some (.cells (tryC s k cr v) t (0, 0))) : W.cell? ⟨q, 0, none⟩ = some (.int .i64 s.gen) ∧ W.cell? ⟨q, 1, none⟩ = some (.int .i64 s.epoch) ∧ W.cell? ⟨q, 2, none⟩ = some (.int .i64 s.blocks) ∧ W.cell? ⟨q, 3, none⟩ = some (.int .i64 s.log) ∧ W.cell? ⟨q, 4, none⟩ = some (.int .i64 s.stamp) ∧ W.cell? ⟨q, 5, none⟩ = some (.int .i64 s.at_) ∧ W.cell? ⟨q, 6, none⟩ = some (.int .i64 s.root) ∧ W.cell? ⟨q, 7, none⟩ = some (.int .i64 s.count) ∧ W.cell? ⟨q, 8, none⟩ = some (.int .i64 s.version) ∧ W.cell? ⟨q, 9, none⟩ = some (.int .i64 k) ∧ W.cell? ⟨q, 10, none⟩ = some (.bool cr) ∧ W.cell? ⟨q, 11, none⟩ = some v :=
  ⟨cell_of_row W q 0 _ _ _ h, cell_of_row W q 1 _ _ _ h, cell_of_row W q 2 _ _ _ h, cell_of_row W q 3 _ _ _ h, cell_of_row W q 4 _ _ _ h, cell_of_row W q 5 _ _ _ h, cell_of_row W q 6 _ _ _ h, cell_of_row W q 7 _ _ _ h, cell_of_row W q 8 _ _ _ h, cell_of_row W q 9 _ _ _ h, cell_of_row W q 10 _ _ _ h, cell_of_row W q 11 _ _ _ h⟩
/-! ### numbers that stay small -/
structure Wb (D : DS) (i : Nat) : Prop where
  left : D.left < 9223372036854775808
  rd : D.rd ≤ 2 * i
  wr : D.wr ≤ i
  fl : D.fl ≤ i
theorem act_left (D : DS) : (actD D).2.left ≤ D.left := by
  unfold actD; split
  · exact Nat.le_refl _
  · split
    · exact Nat.le_refl _
    · split
      · exact Nat.sub_le _ _
      · exact Nat.le_refl _
theorem Wb.arm {D : DS} {i : Nat} (h : Wb D i) (k : Int) (hk : k < 9223372036854775808) : Wb (whA D k) i := by
  unfold whA
  split
  · unfold armD
    split
    · exact h
    · split
      · exact h
      · exact ⟨by show k.toNat < _; omega, h.rd, h.wr, h.fl⟩
  · exact h
/-- what Write leaves -/
theorem anW_le {D : DS} {c s : Sp} (h : Wh D c) : (anW D s).2.C.length ≤ 1 ∧ (anW D s).2.left ≤ D.left ∧ (anW D s).2.rd = D.rd ∧ (anW D s).2.wr ≤ D.wr + 1 ∧ (anW D s).2.fl ≤ D.fl + 1 := by
  have base : D.C.length ≤ 1 ∧ D.left ≤ D.left ∧ D.rd = D.rd ∧ D.wr ≤ D.wr + 1 ∧ D.fl ≤ D.fl := ⟨by rw [h.ca]; exact Nat.zero_le _, Nat.le_refl _, rfl, by omega, by omega⟩
  have hk := actD_keeps D
  have hl := act_left D
  have hw : (wrD D (s.gen % 2) (encL s)).2.C.length ≤ 1 ∧ (wrD D (s.gen % 2) (encL s)).2.left ≤ D.left ∧ (wrD D (s.gen % 2) (encL s)).2.rd = D.rd ∧ (wrD D (s.gen % 2) (encL s)).2.wr ≤ D.wr + 1 ∧ (wrD D (s.gen % 2) (encL s)).2.fl ≤ D.fl := by
    unfold wrD
    split
    · exact base
    · split
      · exact base
      · split
        · refine ⟨?_, hl, hk.2.2.2.1, ?_, ?_⟩
          · show ((actD D).2.C ++ [_]).length ≤ 1
            rw [hk.1, h.ca]; exact Nat.le_refl _
          · show (actD D).2.wr + 1 ≤ _
            rw [hk.2.2.2.2.1]; omega
          · show (actD D).2.fl ≤ _
            rw [hk.2.2.2.2.2]; omega
        · refine ⟨?_, hl, hk.2.2.2.1, ?_, ?_⟩
          · show (actD D).2.C.length ≤ 1
            rw [hk.1, h.ca]; exact Nat.zero_le _
          · show (actD D).2.wr ≤ _
            rw [hk.2.2.2.2.1]; omega
          · show (actD D).2.fl ≤ _
            rw [hk.2.2.2.2.2]; omega
  obtain ⟨D1, hD1⟩ : ∃ D1, D1 = (wrD D (s.gen % 2) (encL s)).2 := ⟨_, rfl⟩
  have hk1 := actD_keeps D1
  have hl1 := act_left D1
  have hf : (flD D1).2.C.length ≤ D1.C.length ∧ (flD D1).2.left ≤ D1.left ∧ (flD D1).2.rd = D1.rd ∧ (flD D1).2.wr = D1.wr ∧ (flD D1).2.fl ≤ D1.fl + 1 := by
    unfold flD
    split
    · refine ⟨Nat.zero_le _, hl1, hk1.2.2.2.1, hk1.2.2.2.2.1, ?_⟩
      show (actD D1).2.fl + 1 ≤ _
      rw [hk1.2.2.2.2.2]; omega
    · refine ⟨?_, hl1, hk1.2.2.2.1, hk1.2.2.2.2.1, ?_⟩
      · show (actD D1).2.C.length ≤ _
        rw [hk1.1]; exact Nat.le_refl _
      · show (actD D1).2.fl ≤ _
        rw [hk1.2.2.2.2.2]; omega
  rw [← hD1] at hw
  unfold anW
  rw [← hD1]
  split
  · split
    · split
      · exact ⟨by show (flD D1).2.C.length ≤ 1; omega, by show (flD D1).2.left ≤ _; omega, by show (flD D1).2.rd = _; omega, by show (flD D1).2.wr ≤ _; omega, by show (flD D1).2.fl ≤ _; omega⟩
      · exact ⟨by show (flD D1).2.C.length ≤ 1; omega, by show (flD D1).2.left ≤ _; omega, by show (flD D1).2.rd = _; omega, by show (flD D1).2.wr ≤ _; omega, by show (flD D1).2.fl ≤ _; omega⟩
    · exact ⟨hw.1, hw.2.1, hw.2.2.1, hw.2.2.2.1, by show D1.fl ≤ _; omega⟩
  · exact ⟨base.1, base.2.1, base.2.2.1, base.2.2.2.1, by show D.fl ≤ _; omega⟩
theorem Wb.round {D : DS} {c s : Sp} {i : Nat} (h : Wh D c) (hb : Wb D i) (cr : Bool) (F : List Ft) : Wb { whC D s cr F with rd := (whC D s cr F).rd + 2 } (i + 1) := by
  obtain ⟨h1, h2, h3, h4, h5⟩ := anW_le (s := s) h
  have a := hb.left; have b := hb.rd; have d := hb.wr; have e := hb.fl
  have key : (whC D s cr F).left ≤ D.left ∧ (whC D s cr F).rd = D.rd ∧ (whC D s cr F).wr ≤ D.wr + 1 ∧ (whC D s cr F).fl ≤ D.fl + 1 := by
    unfold whC
    split
    · exact ⟨h2, h3, h4, h5⟩
    · exact ⟨Nat.zero_le _, h3, h4, h5⟩
  exact ⟨by show (whC D s cr F).left < _; omega, by show (whC D s cr F).rd + 2 ≤ _; omega, by show (whC D s cr F).wr ≤ _; omega, by show (whC D s cr F).fl ≤ _; omega⟩
theorem Wh.rdup {D : DS} {c : Sp} (h : Wh D c) (k : Nat) : Wh { D with rd := k } c := ⟨h.n, h.len, h.ca, h.up, h.is⟩
/-- another device over the same bytes -/
theorem Wh.of {D : DS} {c : Sp} (h : Wh D c) : Wh ⟨32768 / 512, D.M, [], 0, false, false, 0, 0, 0⟩ c := ⟨rfl, h.len, rfl, rfl, h.is⟩
theorem Wh.gen0 {D : DS} {c : Sp} (h : Wh D c) : 0 ≤ c.gen := by
  rcases h.is with ⟨h, _⟩ | ⟨h, _⟩
  · omega
  · have := h.gen; omega
theorem Wh.start : Wh D64 zSp := by
  have hz : ∀ k, k < 64 → blkM D64.M k = List.replicate 512 0 := fun k hk => by
    show ((List.replicate (64 * 512) (0 : UInt8)).drop (k * 512)).take 512 = _
    rw [List.drop_replicate, List.take_replicate, Nat.min_eq_left (by omega)]
  exact ⟨rfl, by show (List.replicate (64 * 512) (0 : UInt8)).length = _; rw [List.length_replicate], rfl, rfl, .inl ⟨rfl, hz 0 (by omega), by rw [hz 1 (by omega)]; exact pre_zero 1⟩⟩
end Go.Proofs.Ytggoaelbglhehaa
/- AnchorWhole: the walk. -/
set_option linter.unusedVariables false
set_option linter.unusedSimpArgs false
set_option maxRecDepth 100000
namespace Go.Proofs.Ytggoaelbglhehaa
open Go.RowKit SumMath
set_option maxHeartbeats 16000000 in
theorem walk_AnchorWhole (A : Option Addr) (n c : Nat) (l : List TryD) (w : World) (hr : RdTry w A n c l) :
    Calls Try.prog 7 #[.slice A n c] w fun e w' => e = .returned (.bool true) ∧ Below w.heap.size w w' := by
  have HR0 := Lib.hid hr
  have hmx := hr.max
  clear hr
  go_enter Try.func7, Try.ntmps7
  go_wp2_with fail
  refine (l11_fixed _).mono ?_
  rintro e w2 ⟨rfl, hB⟩
  have HB2 := Lib.hid hB
  have HRO := Lib.hid (HR0.out.ext hB)
  clear hB HR0
  go_wp2_with fail
  refine (dv_New_ok 64 (by omega) (by omega) w2).mono ?_
  rintro e w3 ⟨rfl, hD, hB⟩
  have hV : IsV w3 (w2.heap.size + 1) w2.heap.size (.slice none 0 0) D64 := ⟨hD, ⟨PdOk.nil _, World.ownsRow_nil _ _ _ _⟩, fun k hk => by cases hk⟩
  have hS0 : St w2 w3 (w2.heap.size + 1) w2.heap.size (.slice none 0 0) D64 [] := St.of hV (fun s hs => by
    simp only [dvS, Value.ownBlock, Option.toList_none, List.mem_cons, List.not_mem_nil, or_false] at hs
    omega) hB
  have hS1 := hS0.new ((Below.refl _ w3).alloc (Nat.le_refl _) (spO zSp)) (Nat.le_refl _) (heap_alloc_new w3 (spO zSp))
  have HS1 := Lib.hid hS1
  clear hB hV hS0 hD hS1
  go_upto_region 7 with (fail)
  go_loopg [7, 8, 9, 10, 11, 12, 13, 14, 15, 16, 17, 18, 19] n (fun k x _ _ _ _ _ _ _ _ _ _ _ _ wx => ∃ i : Nat, ∃ v D c, k + i = n ∧ x = .int .i64 i ∧ Wh D c ∧ Wb D i ∧ c.ok ∧ c.gen ≤ i ∧ St w2 wx (w2.heap.size + 1) w2.heap.size v D [(w3.heap.size, spO c)])
  case atStart => exact ⟨0, _, _, _, by omega, rfl, Wh.start, ⟨by show (0 : Nat) < _; omega, Nat.le_refl _, Nat.le_refl _, Nat.le_refl _⟩, zSp_ok, by show (0 : Int) ≤ _; omega, HS1.out⟩
  case round =>
    obtain ⟨i, v, D, c, hk, rfl, hW, hWb, hco, hcg, hS⟩ := hrel
    have HS := Lib.hid hS
    have HW := Lib.hid hW
    have HWB := Lib.hid hWb
    have HCO := Lib.hid hco
    have hg0 := hW.gen0
    have hin0 : i ≤ n := by omega
    have HK := Lib.hid hk
    clear hS hW hWb hco HS1 hk
    obtain ⟨cg, ce, cb, cl, cs, ca, cr_, cc, cv⟩ := c
    dsimp only at hcg hg0
    by_cases hin : i < n
    · obtain ⟨bb, oo, rfl, hca⟩ := HRO.out.at_ (by omega)
      have hii : (0 : Int) ≤ (i : Int) ∧ (i : Int) < (n : Int) := by omega
      have hop := hca i hin
      obtain ⟨x, hx⟩ : ∃ x, x = l.getD i default := ⟨_, rfl⟩
      rw [← hx] at hop
      clear hca hx
      obtain ⟨⟨sg, se, sb, sl, ss, sa, sr, sc, sv⟩, arm, cr, F⟩ := x
      obtain ⟨hok, y0, y1, y2, y3, y4, y5, y6, y7, y8, y9, y10, ⟨A11, n11, c11, y11, hr11⟩⟩ := hop
      dsimp only at y0 y1 y2 y3 y4 y5 y6 y7 y8 y9 y10 y11 hr11
      have z0 := cell_ext HS.out.bl y0
      have z1 := cell_ext HS.out.bl y1
      have z2 := cell_ext HS.out.bl y2
      have z3 := cell_ext HS.out.bl y3
      have z4 := cell_ext HS.out.bl y4
      have z5 := cell_ext HS.out.bl y5
      have z6 := cell_ext HS.out.bl y6
      have z7 := cell_ext HS.out.bl y7
      have z8 := cell_ext HS.out.bl y8
      have z9 := cell_ext HS.out.bl y9
      have z10 := cell_ext HS.out.bl y10
      have z11 := cell_ext HS.out.bl y11
      clear y0 y1 y2 y3 y4 y5 y6 y7 y8 y9 y10 y11
      have HRF := Lib.hid hr11
      have HOK := Lib.hid hok
      clear hok hr11
      go_upto_region 10 with (fail)
      have hS8 := HS.out.new ((Below.refl _ wr).alloc (Nat.le_refl _) (.cells (tryC ⟨sg, se, sb, sl, ss, sa, sr, sc, sv⟩ arm cr (.slice A11 n11 c11)) 69)) (Nat.le_refl _) (heap_alloc_new wr _)
      obtain ⟨W8, hW8⟩ : ∃ W, W = wr.alloc (.cells (tryC ⟨sg, se, sb, sl, ss, sa, sr, sc, sv⟩ arm cr (.slice A11 n11 c11)) 69) := ⟨_, rfl⟩
      rw [← hW8] at hS8
      unfold tryC at hW8
      dsimp only at hW8
      rw [← hW8]
      obtain ⟨q8, hq8⟩ : ∃ q, q = wr.heap.size := ⟨_, rfl⟩
      rw [← hq8] at hS8 ⊢
      have HS8 := Lib.hid hS8
      have d8 := cell12 (hS8.get 0 rfl)
      have d6 := cell9 (hS8.get 1 rfl)
      dsimp only at d8 d6
      clear hS8 hW8 hq8 z0 z1 z2 z3 z4 z5 z6 z7 z8 z9 z10 z11
      have hwg : IntKind.i64.wrap (cg + 1) = cg + 1 := IntWalk.i64_in _ (by omega)
      obtain ⟨N, hN⟩ : ∃ s, s = rightS ⟨sg, se, sb, sl, ss, sa, sr, sc, sv⟩ (cg + 1) := ⟨_, rfl⟩
      have HNV := Lib.hid (show Vld N 64 by rw [hN]; exact rightS_vld _ _ (by omega))
      have HNG := Lib.hid (show N.gen = cg + 1 by rw [hN]; rfl)
      have HRT := Lib.hid (l11_right ⟨sg, se, sb, sl, ss, sa, sr, sc, sv⟩ (cg + 1))
      rw [← hN] at HRT
      clear hN
      obtain ⟨ng, ne, nb, nl, ns, na, nr, nc, nv⟩ := N
      unfold spC at HRT
      dsimp only at HRT
      go_wp2_with fail
      refine (HRT.out _).mono ?_
      rintro e w10 ⟨rfl, hB⟩
      have hS9 := (HS8.out.below hB).new ((Below.refl _ w10).alloc (Nat.le_refl _) (spO ⟨ng, ne, nb, nl, ns, na, nr, nc, nv⟩)) (Nat.le_refl _) (heap_alloc_new w10 (spO ⟨ng, ne, nb, nl, ns, na, nr, nc, nv⟩))
      obtain ⟨W9, hW9⟩ : ∃ W, W = w10.alloc (spO ⟨ng, ne, nb, nl, ns, na, nr, nc, nv⟩) := ⟨_, rfl⟩
      rw [← hW9] at hS9
      unfold spO spC at hW9
      dsimp only at hW9
      clear hB d8 d6 HS8 HRT hwg
      go_upto_region 11 with (fail)
      rw [← hW9]
      obtain ⟨q9, hq9⟩ : ∃ q, q = w10.heap.size := ⟨_, rfl⟩
      rw [← hq9] at hS9 ⊢
      have HS9 := Lib.hid hS9
      have d8 := cell12 (hS9.get 1 rfl)
      dsimp only at d8
      clear hS9 hW9 hq9
      go_upto_if 54 with (fail)
      go_cut [10] (fun _ wx => ∃ D1, Wh D1 ⟨cg, ce, cb, cl, cs, ca, cr_, cc, cv⟩ ∧ Wb D1 i ∧ St w2 wx (w2.heap.size + 1) w2.heap.size v D1 [(q9, spO ⟨ng, ne, nb, nl, ns, na, nr, nc, nv⟩), (q8, .cells (tryC ⟨sg, se, sb, sl, ss, sa, sr, sc, sv⟩ arm cr (.slice A11 n11 c11)) 69), (w3.heap.size, spO ⟨cg, ce, cb, cl, cs, ca, cr_, cc, cv⟩)])
      case first =>
        by_cases harm : 0 ≤ arm
        · go_wp2_with fail
          refine (st_Arm arm HS9.out).mono ?_
          rintro e w11 ⟨rfl, hS⟩
          rw [(HW.out.arm arm harm).1]
          have HS11 := Lib.hid hS
          clear hS
          go_wp2_with fail
          go_meet
          exact ⟨(armD D arm).2, (HW.out.arm arm harm).2, by have := HWB.out.arm arm HOK.out.arm.2; unfold whA at this; rw [if_pos harm] at this; exact this, HS11.out⟩
        · go_wp2_with fail
          go_meet
          exact ⟨D, HW.out, HWB.out, HS9.out⟩
      case rest =>
        obtain ⟨D1, hW1, hWb1, hS⟩ := hcut
        have HS11 := Lib.hid hS
        have HW1 := Lib.hid hW1
        have HWB1 := Lib.hid hWb1
        clear hS hW1 hWb1 d8 HS9 HW HWB
        have d9 := cell9 (HS11.out.get 0 rfl)
        dsimp only at d9
        have HWR := Lib.hid (st_anWrite ⟨ng, ne, nb, nl, ns, na, nr, nc, nv⟩ (vld_ok _ 64 HNV.out) HS11.out HWB1.out.left (by rw [HW1.out.ca]; exact Nat.zero_le _) (by have := HWB1.out.wr; omega) (by have := HWB1.out.fl; omega))
        obtain ⟨hE, hdn, hor⟩ := wh_write HW1.out HNV.out HNG.out cr F
        have HDN := Lib.hid hdn
        have HOR := Lib.hid hor
        have HLE := Lib.hid (anW_le (s := ⟨ng, ne, nb, nl, ns, na, nr, nc, nv⟩) HW1.out)
        have HWB3 := Lib.hid (Wb.round (s := ⟨ng, ne, nb, nl, ns, na, nr, nc, nv⟩) HW1.out HWB1.out cr F)
        have HWC := Lib.hid (show whC D1 ⟨ng, ne, nb, nl, ns, na, nr, nc, nv⟩ cr F = if (anW D1 ⟨ng, ne, nb, nl, ns, na, nr, nc, nv⟩).1 = 0 ∧ cr = false then (anW D1 ⟨ng, ne, nb, nl, ns, na, nr, nc, nv⟩).2 else crD (anW D1 ⟨ng, ne, nb, nl, ns, na, nr, nc, nv⟩).2 F from rfl)
        obtain ⟨E, hEe⟩ : ∃ E, E = (anW D1 ⟨ng, ne, nb, nl, ns, na, nr, nc, nv⟩).1 := ⟨_, rfl⟩
        obtain ⟨D2, hD2⟩ : ∃ D2, D2 = (anW D1 ⟨ng, ne, nb, nl, ns, na, nr, nc, nv⟩).2 := ⟨_, rfl⟩
        obtain ⟨D3, hD3⟩ : ∃ D3, D3 = whC D1 ⟨ng, ne, nb, nl, ns, na, nr, nc, nv⟩ cr F := ⟨_, rfl⟩
        rw [← hEe, ← hD2, ← hD3] at HWC
        rw [← hEe, ← hD3] at HOR
        rw [← hEe] at hE
        rw [← hD3] at HWB3
        rw [← hEe, ← hD2] at HDN
        rw [← hD2] at HLE
        rw [← hEe, ← hD2] at HWR
        clear hdn hor hEe hD2 hD3
        unfold spC at HWR
        dsimp only at HWR
        go_wp2_with fail
        refine HWR.out.mono ?_
        rintro e w12 ⟨rfl, v12, hS⟩
        have HS12 := Lib.hid hS
        clear hS d9 HWR HS11
        rcases hE with hE | hE
        · subst hE
          have d9 := cell9 (HS12.out.get 0 rfl)
          have d6 := cell9 (HS12.out.get 2 rfl)
          have f6 := free9 (HS12.out.get 2 rfl)
          dsimp only at d9 d6
          go_upto_region 20 with (fail)
          have hS13 := HS12.out.upd 2 rfl (below_put9 (s := ⟨ng, ne, nb, nl, ns, na, nr, nc, nv⟩)) (row9 (s := ⟨ng, ne, nb, nl, ns, na, nr, nc, nv⟩) (HS12.out.get 2 rfl))
          obtain ⟨W13, hW⟩ : ∃ W, W = put9 w12 w3.heap.size ⟨ng, ne, nb, nl, ns, na, nr, nc, nv⟩ := ⟨_, rfl⟩
          rw [← hW] at hS13
          unfold put9 at hW
          dsimp only at hW
          rw [← hW]
          have HS13 := Lib.hid (show St w2 W13 (w2.heap.size + 1) w2.heap.size v12 D2 [(q9, spO ⟨ng, ne, nb, nl, ns, na, nr, nc, nv⟩), (q8, .cells (tryC ⟨sg, se, sb, sl, ss, sa, sr, sc, sv⟩ arm cr (.slice A11 n11 c11)) 69), (w3.heap.size, spO ⟨ng, ne, nb, nl, ns, na, nr, nc, nv⟩)] from hS13)
          clear d9 d6 f6 hS13 hW HS12
          have d8 := cell12 (HS13.out.get 1 rfl)
          dsimp only at d8
          have hw3 : Wh D3 ⟨ng, ne, nb, nl, ns, na, nr, nc, nv⟩ := by rcases HOR.out with h | h; exact absurd rfl h.2; exact h
          cases cr
          · go_wp2_with fail
            refine (st_DownG HS13.out).mono ?_
            rintro e w20 ⟨rfl, rfl⟩
            rw [HDN.out (by first | rfl | trivial)]
            have HS20 := Lib.hid (show St w2 w20 (w2.heap.size + 1) w2.heap.size v12 D3 [(q9, spO ⟨ng, ne, nb, nl, ns, na, nr, nc, nv⟩), (q8, .cells (tryC ⟨sg, se, sb, sl, ss, sa, sr, sc, sv⟩ arm false (.slice A11 n11 c11)) 69), (w3.heap.size, spO ⟨ng, ne, nb, nl, ns, na, nr, nc, nv⟩)] by rw [show D3 = D2 by rw [HWC.out, if_pos (by first | exact ⟨rfl, rfl⟩ | simp)]]; exact HS13.out)
            clear HS13 d8
            have HW3 := Lib.hid hw3
            clear hw3
            have hgz : ¬ ng = 0 := by have := HNG.out; (try dsimp only at this); omega
            obtain ⟨m, hm⟩ : ∃ m, m = ng % 2 := ⟨_, rfl⟩
            have hrm : ng.tmod 2 = m := by rw [hm]; exact Int.tmod_eq_emod_of_nonneg (by have := HNG.out; (try dsimp only at this); omega)
            have HAR := Lib.hid (show (anR D3).1 = ⟨ng, ne, nb, nl, ns, na, nr, nc, nv⟩ ∧ (anR D3).2.1 = m ∧ (anR D3).2.2.1 = 0 ∧ (anR D3).2.2.2 = { D3 with rd := D3.rd + 2 } from by
              rw [HW3.out.read, if_neg (show ¬ Sp.gen ⟨ng, ne, nb, nl, ns, na, nr, nc, nv⟩ = 0 from hgz)]; exact ⟨rfl, hm.symm, rfl, rfl⟩)
            have HAR2 := Lib.hid (show ∀ M, M = D3.M → (anR ⟨32768 / 512, M, [], 0, false, false, 0, 0, 0⟩).1 = ⟨ng, ne, nb, nl, ns, na, nr, nc, nv⟩ ∧ (anR ⟨32768 / 512, M, [], 0, false, false, 0, 0, 0⟩).2.1 = m ∧ (anR ⟨32768 / 512, M, [], 0, false, false, 0, 0, 0⟩).2.2.1 = 0 from by
              rintro M rfl
              rw [HW3.out.of.read, if_neg (show ¬ Sp.gen ⟨ng, ne, nb, nl, ns, na, nr, nc, nv⟩ = 0 from hgz)]; exact ⟨rfl, hm.symm, rfl⟩)
            clear hm
            go_wp2_with fail
            refine (st_Med64 HS20.out HW3.out.n).mono ?_
            rintro e w21 ⟨j, cj, oj, rfl, hr, hS⟩
            have HRM := Lib.hid hr
            have HS21 := Lib.hid hS
            clear hr hS HS20
            go_wp2_with fail
            refine (st_OfG HS21.out (HS21.out.rd 0 rfl HRM.out (by omega)) ⟨by omega, by omega, by omega⟩).mono ?_
            rintro e w22 ⟨b2, g2, Rn, rfl, hDR, hS⟩
            have HS22 := Lib.hid ((hS.sub (R' := [(q9, spO ⟨ng, ne, nb, nl, ns, na, nr, nc, nv⟩), (q8, .cells (tryC ⟨sg, se, sb, sl, ss, sa, sr, sc, sv⟩ arm false (.slice A11 n11 c11)) 69), (w3.heap.size, spO ⟨ng, ne, nb, nl, ns, na, nr, nc, nv⟩)] ++ Rn) (List.sublist_cons_self _ _)).perm (List.perm_append_comm (l₂ := Rn)))
            have HDR := Lib.hid hDR
            clear hS hDR HS21 HRM
            go_wp2_with fail
            refine (st_anRead HS22.out (by have := HWB3.out.rd; (try dsimp only at this); omega) (by rw [HW3.out.ca]; exact Nat.zero_le _)).mono ?_
            rintro e w23 ⟨rfl, hS⟩
            rw [HAR.out.1, HAR.out.2.1, HAR.out.2.2.1]
            rw [HAR.out.2.2.2] at hS
            have hS24 := (hS.new ((Below.refl _ w23).alloc (Nat.le_refl _) (spO ⟨ng, ne, nb, nl, ns, na, nr, nc, nv⟩)) (Nat.le_refl _) (heap_alloc_new w23 (spO ⟨ng, ne, nb, nl, ns, na, nr, nc, nv⟩))).perm (List.perm_middle.symm)
            obtain ⟨R1, hDR1, hT⟩ := hS24.turn HDR.out
            have HDR1 := Lib.hid hDR1
            have HT := Lib.hid hT
            clear hS hS24 hDR1 hT HS22 HDR
            unfold spC
            dsimp only
            go_wp2_with fail
            refine (st_anRead HT.out (by show (0 : Nat) < _; omega) (by show (0 : Nat) ≤ _; omega)).mono ?_
            rintro e w25 ⟨rfl, hS⟩
            rw [(HAR2.out _ rfl).1, (HAR2.out _ rfl).2.1, (HAR2.out _ rfl).2.2]
            have hS26 := (hS.new ((Below.refl _ w25).alloc (Nat.le_refl _) (spO ⟨ng, ne, nb, nl, ns, na, nr, nc, nv⟩)) (Nat.le_refl _) (heap_alloc_new w25 (spO ⟨ng, ne, nb, nl, ns, na, nr, nc, nv⟩))).perm (List.perm_middle.symm)
            obtain ⟨R2, -, hT2⟩ := hS26.turn HDR1.out
            have hS27 := hT2.sub (R' := (w25.heap.size, spO ⟨ng, ne, nb, nl, ns, na, nr, nc, nv⟩) :: (w23.heap.size, spO ⟨ng, ne, nb, nl, ns, na, nr, nc, nv⟩) :: [(q9, spO ⟨ng, ne, nb, nl, ns, na, nr, nc, nv⟩), (q8, .cells (tryC ⟨sg, se, sb, sl, ss, sa, sr, sc, sv⟩ arm false (.slice A11 n11 c11)) 69), (w3.heap.size, spO ⟨ng, ne, nb, nl, ns, na, nr, nc, nv⟩)]) (List.sublist_append_right _ _)
            obtain ⟨W26, hW⟩ : ∃ W, W = w25.alloc (spO ⟨ng, ne, nb, nl, ns, na, nr, nc, nv⟩) := ⟨_, rfl⟩
            rw [← hW] at hS27
            have HS27 := Lib.hid hS27
            unfold spO spC at hW
            dsimp only at hW
            clear hS hS26 hT2 HT HDR1 hS27
            unfold spC
            dsimp only
            go_upto_region 27 with (fail)
            rw [← hW]
            have d17 := cell9 (HS27.out.get 0 rfl)
            have d14 := cell9 (HS27.out.get 1 rfl)
            have d9 := cell9 (HS27.out.get 2 rfl)
            have d6 := cell9 (HS27.out.get 4 rfl)
            have f6 := free9 (HS27.out.get 4 rfl)
            dsimp only at d17 d14 d9 d6
            clear hW
            go_wp2
            go_roundg (n - (i + 1))
            case measure => have := HK.out; omega
            case rel => exact ⟨i + 1, v12, _, ⟨ng, ne, nb, nl, ns, na, nr, nc, nv⟩, by omega, by go_num, HW3.out.rdup _, HWB3.out, vld_ok _ 64 HNV.out, by have := HNG.out; (try dsimp only at this); show ng ≤ ((i + 1 : Nat) : Int); omega, (HS27.out.upd 4 rfl (below_put9 (s := ⟨ng, ne, nb, nl, ns, na, nr, nc, nv⟩)) (row9 (s := ⟨ng, ne, nb, nl, ns, na, nr, nc, nv⟩) (HS27.out.get 4 rfl))).sub (by simp only [List.set_cons_succ, List.set_cons_zero]; exact ((((List.Sublist.refl _).cons _).cons _).cons _).cons _)⟩
          · go_wp2_with fail
            refine (l11_ownFates _ A11 n11 c11 F (HRF.out.ext HS13.out.bl) (by have := HOK.out.F; have h9 := HRF.out.len; (try dsimp only at this); omega)).mono ?_
            rintro e w14 ⟨u14, rfl, hO, hB⟩
            obtain ⟨A14, c14, rfl, hR14, hx14⟩ := hO.rd (by have := HRF.out.max; omega)
            have HCR := Lib.hid (st_Crash n11 c14 A14 F (HS13.out.below hB) (by have := HLE.out.1; omega) hR14 (fun _ p hp hm => by have h1 := hx14 p hp; have h2 := HS13.out.dv.lt _ hm; omega))
            rw [← show D3 = crD D2 F from by rw [HWC.out, if_neg (fun h => Bool.noConfusion h.2)]] at HCR
            clear hO hB hR14 hx14
            go_wp2_with fail
            refine HCR.out.mono ?_
            rintro e w20 ⟨rfl, v20, hS⟩
            have HS20 := Lib.hid hS
            clear hS HCR
            clear d8
            have HW3 := Lib.hid hw3
            clear hw3
            have hgz : ¬ ng = 0 := by have := HNG.out; (try dsimp only at this); omega
            obtain ⟨m, hm⟩ : ∃ m, m = ng % 2 := ⟨_, rfl⟩
            have hrm : ng.tmod 2 = m := by rw [hm]; exact Int.tmod_eq_emod_of_nonneg (by have := HNG.out; (try dsimp only at this); omega)
            have HAR := Lib.hid (show (anR D3).1 = ⟨ng, ne, nb, nl, ns, na, nr, nc, nv⟩ ∧ (anR D3).2.1 = m ∧ (anR D3).2.2.1 = 0 ∧ (anR D3).2.2.2 = { D3 with rd := D3.rd + 2 } from by
              rw [HW3.out.read, if_neg (show ¬ Sp.gen ⟨ng, ne, nb, nl, ns, na, nr, nc, nv⟩ = 0 from hgz)]; exact ⟨rfl, hm.symm, rfl, rfl⟩)
            have HAR2 := Lib.hid (show ∀ M, M = D3.M → (anR ⟨32768 / 512, M, [], 0, false, false, 0, 0, 0⟩).1 = ⟨ng, ne, nb, nl, ns, na, nr, nc, nv⟩ ∧ (anR ⟨32768 / 512, M, [], 0, false, false, 0, 0, 0⟩).2.1 = m ∧ (anR ⟨32768 / 512, M, [], 0, false, false, 0, 0, 0⟩).2.2.1 = 0 from by
              rintro M rfl
              rw [HW3.out.of.read, if_neg (show ¬ Sp.gen ⟨ng, ne, nb, nl, ns, na, nr, nc, nv⟩ = 0 from hgz)]; exact ⟨rfl, hm.symm, rfl⟩)
            clear hm
            go_wp2_with fail
            refine (st_Med64 HS20.out HW3.out.n).mono ?_
            rintro e w21 ⟨j, cj, oj, rfl, hr, hS⟩
            have HRM := Lib.hid hr
            have HS21 := Lib.hid hS
            clear hr hS HS20
            go_wp2_with fail
            refine (st_OfG HS21.out (HS21.out.rd 0 rfl HRM.out (by omega)) ⟨by omega, by omega, by omega⟩).mono ?_
            rintro e w22 ⟨b2, g2, Rn, rfl, hDR, hS⟩
            have HS22 := Lib.hid ((hS.sub (R' := [(q9, spO ⟨ng, ne, nb, nl, ns, na, nr, nc, nv⟩), (q8, .cells (tryC ⟨sg, se, sb, sl, ss, sa, sr, sc, sv⟩ arm true (.slice A11 n11 c11)) 69), (w3.heap.size, spO ⟨ng, ne, nb, nl, ns, na, nr, nc, nv⟩)] ++ Rn) (List.sublist_cons_self _ _)).perm (List.perm_append_comm (l₂ := Rn)))
            have HDR := Lib.hid hDR
            clear hS hDR HS21 HRM
            go_wp2_with fail
            refine (st_anRead HS22.out (by have := HWB3.out.rd; (try dsimp only at this); omega) (by rw [HW3.out.ca]; exact Nat.zero_le _)).mono ?_
            rintro e w23 ⟨rfl, hS⟩
            rw [HAR.out.1, HAR.out.2.1, HAR.out.2.2.1]
            rw [HAR.out.2.2.2] at hS
            have hS24 := (hS.new ((Below.refl _ w23).alloc (Nat.le_refl _) (spO ⟨ng, ne, nb, nl, ns, na, nr, nc, nv⟩)) (Nat.le_refl _) (heap_alloc_new w23 (spO ⟨ng, ne, nb, nl, ns, na, nr, nc, nv⟩))).perm (List.perm_middle.symm)
            obtain ⟨R1, hDR1, hT⟩ := hS24.turn HDR.out
            have HDR1 := Lib.hid hDR1
            have HT := Lib.hid hT
            clear hS hS24 hDR1 hT HS22 HDR
            unfold spC
            dsimp only
            go_wp2_with fail
            refine (st_anRead HT.out (by show (0 : Nat) < _; omega) (by show (0 : Nat) ≤ _; omega)).mono ?_
            rintro e w25 ⟨rfl, hS⟩
            rw [(HAR2.out _ rfl).1, (HAR2.out _ rfl).2.1, (HAR2.out _ rfl).2.2]
            have hS26 := (hS.new ((Below.refl _ w25).alloc (Nat.le_refl _) (spO ⟨ng, ne, nb, nl, ns, na, nr, nc, nv⟩)) (Nat.le_refl _) (heap_alloc_new w25 (spO ⟨ng, ne, nb, nl, ns, na, nr, nc, nv⟩))).perm (List.perm_middle.symm)
            obtain ⟨R2, -, hT2⟩ := hS26.turn HDR1.out
            have hS27 := hT2.sub (R' := (w25.heap.size, spO ⟨ng, ne, nb, nl, ns, na, nr, nc, nv⟩) :: (w23.heap.size, spO ⟨ng, ne, nb, nl, ns, na, nr, nc, nv⟩) :: [(q9, spO ⟨ng, ne, nb, nl, ns, na, nr, nc, nv⟩), (q8, .cells (tryC ⟨sg, se, sb, sl, ss, sa, sr, sc, sv⟩ arm true (.slice A11 n11 c11)) 69), (w3.heap.size, spO ⟨ng, ne, nb, nl, ns, na, nr, nc, nv⟩)]) (List.sublist_append_right _ _)
            obtain ⟨W26, hW⟩ : ∃ W, W = w25.alloc (spO ⟨ng, ne, nb, nl, ns, na, nr, nc, nv⟩) := ⟨_, rfl⟩
            rw [← hW] at hS27
            have HS27 := Lib.hid hS27
            unfold spO spC at hW
            dsimp only at hW
            clear hS hS26 hT2 HT HDR1 hS27
            unfold spC
            dsimp only
            go_upto_region 27 with (fail)
            rw [← hW]
            have d17 := cell9 (HS27.out.get 0 rfl)
            have d14 := cell9 (HS27.out.get 1 rfl)
            have d9 := cell9 (HS27.out.get 2 rfl)
            have d6 := cell9 (HS27.out.get 4 rfl)
            have f6 := free9 (HS27.out.get 4 rfl)
            dsimp only at d17 d14 d9 d6
            clear hW
            go_wp2
            go_roundg (n - (i + 1))
            case measure => have := HK.out; omega
            case rel => exact ⟨i + 1, v20, _, ⟨ng, ne, nb, nl, ns, na, nr, nc, nv⟩, by omega, by go_num, HW3.out.rdup _, HWB3.out, vld_ok _ 64 HNV.out, by have := HNG.out; (try dsimp only at this); show ng ≤ ((i + 1 : Nat) : Int); omega, (HS27.out.upd 4 rfl (below_put9 (s := ⟨ng, ne, nb, nl, ns, na, nr, nc, nv⟩)) (row9 (s := ⟨ng, ne, nb, nl, ns, na, nr, nc, nv⟩) (HS27.out.get 4 rfl))).sub (by simp only [List.set_cons_succ, List.set_cons_zero]; exact ((((List.Sublist.refl _).cons _).cons _).cons _).cons _)⟩
        · subst hE
          have d8 := cell12 (HS12.out.get 1 rfl)
          dsimp only at d8
          go_wp2_with fail
          refine (l11_ownFates _ A11 n11 c11 F (HRF.out.ext HS12.out.bl) (by have := HOK.out.F; have h9 := HRF.out.len; (try dsimp only at this); omega)).mono ?_
          rintro e w14 ⟨u14, rfl, hO, hB⟩
          obtain ⟨A14, c14, rfl, hR14, hx14⟩ := hO.rd (by have := HRF.out.max; omega)
          have HCR := Lib.hid (st_Crash n11 c14 A14 F (HS12.out.below hB) (by have := HLE.out.1; omega) hR14 (fun _ p hp hm => by have h1 := hx14 p hp; have h2 := HS12.out.dv.lt _ hm; omega))
          rw [← show D3 = crD D2 F from by rw [HWC.out, if_neg (fun h => absurd h.1 (by decide))]] at HCR
          clear hO hB hR14 hx14
          go_wp2_with fail
          refine HCR.out.mono ?_
          rintro e w20 ⟨rfl, v20, hS⟩
          have HS20 := Lib.hid hS
          clear hS HCR
          clear d8
          rcases HOR.out with ⟨hw3, -⟩ | hw3
          · by_cases hgz : cg = 0
            · have HW3 := Lib.hid hw3
              clear hw3
              have HAR := Lib.hid (show (anR D3).1 = zSp ∧ (anR D3).2.1 = 0 ∧ (anR D3).2.2.1 = 5 ∧ (anR D3).2.2.2 = { D3 with rd := D3.rd + 2 } from by
                rw [HW3.out.read, if_pos (show Sp.gen ⟨cg, ce, cb, cl, cs, ca, cr_, cc, cv⟩ = 0 from hgz)]; exact ⟨rfl, rfl, rfl, rfl⟩)
              have HAR2 := Lib.hid (show ∀ M, M = D3.M → (anR ⟨32768 / 512, M, [], 0, false, false, 0, 0, 0⟩).1 = zSp ∧ (anR ⟨32768 / 512, M, [], 0, false, false, 0, 0, 0⟩).2.1 = 0 ∧ (anR ⟨32768 / 512, M, [], 0, false, false, 0, 0, 0⟩).2.2.1 = 5 from by
                rintro M rfl
                rw [HW3.out.of.read, if_pos (show Sp.gen ⟨cg, ce, cb, cl, cs, ca, cr_, cc, cv⟩ = 0 from hgz)]; exact ⟨rfl, rfl, rfl⟩)
              go_wp2_with fail
              refine (st_Med64 HS20.out HW3.out.n).mono ?_
              rintro e w21 ⟨j, cj, oj, rfl, hr, hS⟩
              have HRM := Lib.hid hr
              have HS21 := Lib.hid hS
              clear hr hS HS20
              go_wp2_with fail
              refine (st_OfG HS21.out (HS21.out.rd 0 rfl HRM.out (by omega)) ⟨by omega, by omega, by omega⟩).mono ?_
              rintro e w22 ⟨b2, g2, Rn, rfl, hDR, hS⟩
              have HS22 := Lib.hid ((hS.sub (R' := [(q9, spO ⟨ng, ne, nb, nl, ns, na, nr, nc, nv⟩), (q8, .cells (tryC ⟨sg, se, sb, sl, ss, sa, sr, sc, sv⟩ arm cr (.slice A11 n11 c11)) 69), (w3.heap.size, spO ⟨cg, ce, cb, cl, cs, ca, cr_, cc, cv⟩)] ++ Rn) (List.sublist_cons_self _ _)).perm (List.perm_append_comm (l₂ := Rn)))
              have HDR := Lib.hid hDR
              clear hS hDR HS21 HRM
              go_wp2_with fail
              refine (st_anRead HS22.out (by have := HWB3.out.rd; (try dsimp only at this); omega) (by rw [HW3.out.ca]; exact Nat.zero_le _)).mono ?_
              rintro e w23 ⟨rfl, hS⟩
              rw [HAR.out.1, HAR.out.2.1, HAR.out.2.2.1]
              rw [HAR.out.2.2.2] at hS
              have hS24 := (hS.new ((Below.refl _ w23).alloc (Nat.le_refl _) (spO zSp)) (Nat.le_refl _) (heap_alloc_new w23 (spO zSp))).perm (List.perm_middle.symm)
              obtain ⟨R1, hDR1, hT⟩ := hS24.turn HDR.out
              have HDR1 := Lib.hid hDR1
              have HT := Lib.hid hT
              clear hS hS24 hDR1 hT HS22 HDR
              unfold spC zSp
              dsimp only
              go_wp2_with fail
              refine (st_anRead HT.out (by show (0 : Nat) < _; omega) (by show (0 : Nat) ≤ _; omega)).mono ?_
              rintro e w25 ⟨rfl, hS⟩
              rw [(HAR2.out _ rfl).1, (HAR2.out _ rfl).2.1, (HAR2.out _ rfl).2.2]
              have hS26 := (hS.new ((Below.refl _ w25).alloc (Nat.le_refl _) (spO zSp)) (Nat.le_refl _) (heap_alloc_new w25 (spO zSp))).perm (List.perm_middle.symm)
              obtain ⟨R2, -, hT2⟩ := hS26.turn HDR1.out
              have hS27 := hT2.sub (R' := (w25.heap.size, spO zSp) :: (w23.heap.size, spO zSp) :: [(q9, spO ⟨ng, ne, nb, nl, ns, na, nr, nc, nv⟩), (q8, .cells (tryC ⟨sg, se, sb, sl, ss, sa, sr, sc, sv⟩ arm cr (.slice A11 n11 c11)) 69), (w3.heap.size, spO ⟨cg, ce, cb, cl, cs, ca, cr_, cc, cv⟩)]) (List.sublist_append_right _ _)
              obtain ⟨W26, hW⟩ : ∃ W, W = w25.alloc (spO zSp) := ⟨_, rfl⟩
              rw [← hW] at hS27
              have HS27 := Lib.hid hS27
              unfold spO spC zSp at hW
              dsimp only at hW
              clear hS hS26 hT2 HT HDR1 hS27
              unfold spC zSp
              dsimp only
              go_upto_region 27 with (fail)
              rw [← hW]
              have d17 := cell9 (HS27.out.get 0 rfl)
              have d14 := cell9 (HS27.out.get 1 rfl)
              have d9 := cell9 (HS27.out.get 2 rfl)
              have d6 := cell9 (HS27.out.get 4 rfl)
              have f6 := free9 (HS27.out.get 4 rfl)
              unfold zSp at d17 d14
              dsimp only at d17 d14 d9 d6
              clear hW
              go_wp2
              go_roundg (n - (i + 1))
              case measure => have := HK.out; omega
              case rel => exact ⟨i + 1, v20, _, ⟨cg, ce, cb, cl, cs, ca, cr_, cc, cv⟩, by omega, by go_num, HW3.out.rdup _, HWB3.out, HCO.out, by show cg ≤ ((i + 1 : Nat) : Int); omega, HS27.out.sub (((((List.Sublist.refl _).cons _).cons _).cons _).cons _)⟩
            · have hgnz := hgz
              clear hgz
              have HW3 := Lib.hid hw3
              clear hw3
              have hgz : ¬ cg = 0 := by exact hgnz
              obtain ⟨m, hm⟩ : ∃ m, m = cg % 2 := ⟨_, rfl⟩
              have hrm : cg.tmod 2 = m := by rw [hm]; exact Int.tmod_eq_emod_of_nonneg (by omega)
              have HAR := Lib.hid (show (anR D3).1 = ⟨cg, ce, cb, cl, cs, ca, cr_, cc, cv⟩ ∧ (anR D3).2.1 = m ∧ (anR D3).2.2.1 = 0 ∧ (anR D3).2.2.2 = { D3 with rd := D3.rd + 2 } from by
                rw [HW3.out.read, if_neg (show ¬ Sp.gen ⟨cg, ce, cb, cl, cs, ca, cr_, cc, cv⟩ = 0 from hgz)]; exact ⟨rfl, hm.symm, rfl, rfl⟩)
              have HAR2 := Lib.hid (show ∀ M, M = D3.M → (anR ⟨32768 / 512, M, [], 0, false, false, 0, 0, 0⟩).1 = ⟨cg, ce, cb, cl, cs, ca, cr_, cc, cv⟩ ∧ (anR ⟨32768 / 512, M, [], 0, false, false, 0, 0, 0⟩).2.1 = m ∧ (anR ⟨32768 / 512, M, [], 0, false, false, 0, 0, 0⟩).2.2.1 = 0 from by
                rintro M rfl
                rw [HW3.out.of.read, if_neg (show ¬ Sp.gen ⟨cg, ce, cb, cl, cs, ca, cr_, cc, cv⟩ = 0 from hgz)]; exact ⟨rfl, hm.symm, rfl⟩)
              clear hm
              go_wp2_with fail
              refine (st_Med64 HS20.out HW3.out.n).mono ?_
              rintro e w21 ⟨j, cj, oj, rfl, hr, hS⟩
              have HRM := Lib.hid hr
              have HS21 := Lib.hid hS
              clear hr hS HS20
              go_wp2_with fail
              refine (st_OfG HS21.out (HS21.out.rd 0 rfl HRM.out (by omega)) ⟨by omega, by omega, by omega⟩).mono ?_
              rintro e w22 ⟨b2, g2, Rn, rfl, hDR, hS⟩
              have HS22 := Lib.hid ((hS.sub (R' := [(q9, spO ⟨ng, ne, nb, nl, ns, na, nr, nc, nv⟩), (q8, .cells (tryC ⟨sg, se, sb, sl, ss, sa, sr, sc, sv⟩ arm cr (.slice A11 n11 c11)) 69), (w3.heap.size, spO ⟨cg, ce, cb, cl, cs, ca, cr_, cc, cv⟩)] ++ Rn) (List.sublist_cons_self _ _)).perm (List.perm_append_comm (l₂ := Rn)))
              have HDR := Lib.hid hDR
              clear hS hDR HS21 HRM
              go_wp2_with fail
              refine (st_anRead HS22.out (by have := HWB3.out.rd; (try dsimp only at this); omega) (by rw [HW3.out.ca]; exact Nat.zero_le _)).mono ?_
              rintro e w23 ⟨rfl, hS⟩
              rw [HAR.out.1, HAR.out.2.1, HAR.out.2.2.1]
              rw [HAR.out.2.2.2] at hS
              have hS24 := (hS.new ((Below.refl _ w23).alloc (Nat.le_refl _) (spO ⟨cg, ce, cb, cl, cs, ca, cr_, cc, cv⟩)) (Nat.le_refl _) (heap_alloc_new w23 (spO ⟨cg, ce, cb, cl, cs, ca, cr_, cc, cv⟩))).perm (List.perm_middle.symm)
              obtain ⟨R1, hDR1, hT⟩ := hS24.turn HDR.out
              have HDR1 := Lib.hid hDR1
              have HT := Lib.hid hT
              clear hS hS24 hDR1 hT HS22 HDR
              unfold spC
              dsimp only
              go_wp2_with fail
              refine (st_anRead HT.out (by show (0 : Nat) < _; omega) (by show (0 : Nat) ≤ _; omega)).mono ?_
              rintro e w25 ⟨rfl, hS⟩
              rw [(HAR2.out _ rfl).1, (HAR2.out _ rfl).2.1, (HAR2.out _ rfl).2.2]
              have hS26 := (hS.new ((Below.refl _ w25).alloc (Nat.le_refl _) (spO ⟨cg, ce, cb, cl, cs, ca, cr_, cc, cv⟩)) (Nat.le_refl _) (heap_alloc_new w25 (spO ⟨cg, ce, cb, cl, cs, ca, cr_, cc, cv⟩))).perm (List.perm_middle.symm)
              obtain ⟨R2, -, hT2⟩ := hS26.turn HDR1.out
              have hS27 := hT2.sub (R' := (w25.heap.size, spO ⟨cg, ce, cb, cl, cs, ca, cr_, cc, cv⟩) :: (w23.heap.size, spO ⟨cg, ce, cb, cl, cs, ca, cr_, cc, cv⟩) :: [(q9, spO ⟨ng, ne, nb, nl, ns, na, nr, nc, nv⟩), (q8, .cells (tryC ⟨sg, se, sb, sl, ss, sa, sr, sc, sv⟩ arm cr (.slice A11 n11 c11)) 69), (w3.heap.size, spO ⟨cg, ce, cb, cl, cs, ca, cr_, cc, cv⟩)]) (List.sublist_append_right _ _)
              obtain ⟨W26, hW⟩ : ∃ W, W = w25.alloc (spO ⟨cg, ce, cb, cl, cs, ca, cr_, cc, cv⟩) := ⟨_, rfl⟩
              rw [← hW] at hS27
              have HS27 := Lib.hid hS27
              unfold spO spC at hW
              dsimp only at hW
              clear hS hS26 hT2 HT HDR1 hS27
              unfold spC
              dsimp only
              go_upto_region 27 with (fail)
              rw [← hW]
              have d17 := cell9 (HS27.out.get 0 rfl)
              have d14 := cell9 (HS27.out.get 1 rfl)
              have d9 := cell9 (HS27.out.get 2 rfl)
              have d6 := cell9 (HS27.out.get 4 rfl)
              have f6 := free9 (HS27.out.get 4 rfl)
              dsimp only at d17 d14 d9 d6
              clear hW
              go_wp2
              go_roundg (n - (i + 1))
              case measure => have := HK.out; omega
              case rel => exact ⟨i + 1, v20, _, ⟨cg, ce, cb, cl, cs, ca, cr_, cc, cv⟩, by omega, by go_num, HW3.out.rdup _, HWB3.out, HCO.out, by show cg ≤ ((i + 1 : Nat) : Int); omega, (HS27.out.upd 4 rfl (below_put9 (s := ⟨cg, ce, cb, cl, cs, ca, cr_, cc, cv⟩)) (row9 (s := ⟨cg, ce, cb, cl, cs, ca, cr_, cc, cv⟩) (HS27.out.get 4 rfl))).sub (by simp only [List.set_cons_succ, List.set_cons_zero]; exact ((((List.Sublist.refl _).cons _).cons _).cons _).cons _)⟩
          · have HW3 := Lib.hid hw3
            clear hw3
            have hgz : ¬ ng = 0 := by have := HNG.out; (try dsimp only at this); omega
            obtain ⟨m, hm⟩ : ∃ m, m = ng % 2 := ⟨_, rfl⟩
            have hrm : ng.tmod 2 = m := by rw [hm]; exact Int.tmod_eq_emod_of_nonneg (by have := HNG.out; (try dsimp only at this); omega)
            have HAR := Lib.hid (show (anR D3).1 = ⟨ng, ne, nb, nl, ns, na, nr, nc, nv⟩ ∧ (anR D3).2.1 = m ∧ (anR D3).2.2.1 = 0 ∧ (anR D3).2.2.2 = { D3 with rd := D3.rd + 2 } from by
              rw [HW3.out.read, if_neg (show ¬ Sp.gen ⟨ng, ne, nb, nl, ns, na, nr, nc, nv⟩ = 0 from hgz)]; exact ⟨rfl, hm.symm, rfl, rfl⟩)
            have HAR2 := Lib.hid (show ∀ M, M = D3.M → (anR ⟨32768 / 512, M, [], 0, false, false, 0, 0, 0⟩).1 = ⟨ng, ne, nb, nl, ns, na, nr, nc, nv⟩ ∧ (anR ⟨32768 / 512, M, [], 0, false, false, 0, 0, 0⟩).2.1 = m ∧ (anR ⟨32768 / 512, M, [], 0, false, false, 0, 0, 0⟩).2.2.1 = 0 from by
              rintro M rfl
              rw [HW3.out.of.read, if_neg (show ¬ Sp.gen ⟨ng, ne, nb, nl, ns, na, nr, nc, nv⟩ = 0 from hgz)]; exact ⟨rfl, hm.symm, rfl⟩)
            clear hm
            go_wp2_with fail
            refine (st_Med64 HS20.out HW3.out.n).mono ?_
            rintro e w21 ⟨j, cj, oj, rfl, hr, hS⟩
            have HRM := Lib.hid hr
            have HS21 := Lib.hid hS
            clear hr hS HS20
            go_wp2_with fail
            refine (st_OfG HS21.out (HS21.out.rd 0 rfl HRM.out (by omega)) ⟨by omega, by omega, by omega⟩).mono ?_
            rintro e w22 ⟨b2, g2, Rn, rfl, hDR, hS⟩
            have HS22 := Lib.hid ((hS.sub (R' := [(q9, spO ⟨ng, ne, nb, nl, ns, na, nr, nc, nv⟩), (q8, .cells (tryC ⟨sg, se, sb, sl, ss, sa, sr, sc, sv⟩ arm cr (.slice A11 n11 c11)) 69), (w3.heap.size, spO ⟨cg, ce, cb, cl, cs, ca, cr_, cc, cv⟩)] ++ Rn) (List.sublist_cons_self _ _)).perm (List.perm_append_comm (l₂ := Rn)))
            have HDR := Lib.hid hDR
            clear hS hDR HS21 HRM
            go_wp2_with fail
            refine (st_anRead HS22.out (by have := HWB3.out.rd; (try dsimp only at this); omega) (by rw [HW3.out.ca]; exact Nat.zero_le _)).mono ?_
            rintro e w23 ⟨rfl, hS⟩
            rw [HAR.out.1, HAR.out.2.1, HAR.out.2.2.1]
            rw [HAR.out.2.2.2] at hS
            have hS24 := (hS.new ((Below.refl _ w23).alloc (Nat.le_refl _) (spO ⟨ng, ne, nb, nl, ns, na, nr, nc, nv⟩)) (Nat.le_refl _) (heap_alloc_new w23 (spO ⟨ng, ne, nb, nl, ns, na, nr, nc, nv⟩))).perm (List.perm_middle.symm)
            obtain ⟨R1, hDR1, hT⟩ := hS24.turn HDR.out
            have HDR1 := Lib.hid hDR1
            have HT := Lib.hid hT
            clear hS hS24 hDR1 hT HS22 HDR
            unfold spC
            dsimp only
            go_wp2_with fail
            refine (st_anRead HT.out (by show (0 : Nat) < _; omega) (by show (0 : Nat) ≤ _; omega)).mono ?_
            rintro e w25 ⟨rfl, hS⟩
            rw [(HAR2.out _ rfl).1, (HAR2.out _ rfl).2.1, (HAR2.out _ rfl).2.2]
            have hS26 := (hS.new ((Below.refl _ w25).alloc (Nat.le_refl _) (spO ⟨ng, ne, nb, nl, ns, na, nr, nc, nv⟩)) (Nat.le_refl _) (heap_alloc_new w25 (spO ⟨ng, ne, nb, nl, ns, na, nr, nc, nv⟩))).perm (List.perm_middle.symm)
            obtain ⟨R2, -, hT2⟩ := hS26.turn HDR1.out
            have hS27 := hT2.sub (R' := (w25.heap.size, spO ⟨ng, ne, nb, nl, ns, na, nr, nc, nv⟩) :: (w23.heap.size, spO ⟨ng, ne, nb, nl, ns, na, nr, nc, nv⟩) :: [(q9, spO ⟨ng, ne, nb, nl, ns, na, nr, nc, nv⟩), (q8, .cells (tryC ⟨sg, se, sb, sl, ss, sa, sr, sc, sv⟩ arm cr (.slice A11 n11 c11)) 69), (w3.heap.size, spO ⟨cg, ce, cb, cl, cs, ca, cr_, cc, cv⟩)]) (List.sublist_append_right _ _)
            obtain ⟨W26, hW⟩ : ∃ W, W = w25.alloc (spO ⟨ng, ne, nb, nl, ns, na, nr, nc, nv⟩) := ⟨_, rfl⟩
            rw [← hW] at hS27
            have HS27 := Lib.hid hS27
            unfold spO spC at hW
            dsimp only at hW
            clear hS hS26 hT2 HT HDR1 hS27
            unfold spC
            dsimp only
            go_upto_region 27 with (fail)
            rw [← hW]
            have d17 := cell9 (HS27.out.get 0 rfl)
            have d14 := cell9 (HS27.out.get 1 rfl)
            have d9 := cell9 (HS27.out.get 2 rfl)
            have d6 := cell9 (HS27.out.get 4 rfl)
            have f6 := free9 (HS27.out.get 4 rfl)
            dsimp only at d17 d14 d9 d6
            clear hW
            have hne1 : (ng == cg) = false := by have := HNG.out; (try dsimp only at this); simp; omega
            have hne2 : ¬ ng = cg := by have := HNG.out; (try dsimp only at this); omega
            go_wp2
            go_roundg (n - (i + 1))
            case measure => have := HK.out; omega
            case rel => exact ⟨i + 1, v20, _, ⟨ng, ne, nb, nl, ns, na, nr, nc, nv⟩, by omega, by go_num, HW3.out.rdup _, HWB3.out, vld_ok _ 64 HNV.out, by have := HNG.out; (try dsimp only at this); show ng ≤ ((i + 1 : Nat) : Int); omega, (HS27.out.upd 4 rfl (below_put9 (s := ⟨ng, ne, nb, nl, ns, na, nr, nc, nv⟩)) (row9 (s := ⟨ng, ne, nb, nl, ns, na, nr, nc, nv⟩) (HS27.out.get 4 rfl))).sub (by simp only [List.set_cons_succ, List.set_cons_zero]; exact ((((List.Sublist.refl _).cons _).cons _).cons _).cons _)⟩
    · obtain rfl : i = n := by omega
      go_wp2
      go_ret
      exact ⟨rfl, HB2.out.trans (HS.out.bl.mono HB2.out.size)⟩
end Go.Proofs.Ytggoaelbglhehaa
/- Words on memory: a slice of bools that is read. -/
set_option linter.unusedVariables false
set_option linter.unusedSimpArgs false
namespace Go.Proofs.Ytggoaelbglhehaa
open Go.RowKit
structure RdB (w : World) (A : Option Addr) (n c : Nat) (l : List Bool) : Prop where
  len : l.length = n
  cap : n ≤ c
  max : n ≤ 140737488355328
  at_ : 0 < n → ∃ b o, A = some ⟨b, o, none⟩ ∧ ∀ j, j < n → w.cell? ⟨b, o + j, none⟩ = some (.bool (l.getD j false))
theorem RdB.ext {w w' : World} {A : Option Addr} {n c : Nat} {l : List Bool} (h : RdB w A n c l) (hb : Below w.heap.size w w') : RdB w' A n c l :=
  ⟨h.len, h.cap, h.max, fun hn => by
    obtain ⟨b, o, e, hc⟩ := h.at_ hn
    exact ⟨b, o, e, fun j hj => (hb.cell (World.block_lt_of_cell? w _ (hc j hj))).trans (hc j hj)⟩⟩
end Go.Proofs.Ytggoaelbglhehaa
/- Words for rows: what the reading of a slice of bools says of memory. -/
set_option linter.unusedVariables false
set_option linter.unusedSimpArgs false
namespace Go.Proofs.Ytggoaelbglhehaa
open Go.ChangeShapes Go.WideShapes Go.RowKit Go.Deep
theorem spot0 {W : World} {x : Addr} {v : Value} (h : W.cell? (x.add 0) = some v) : x.spot = none := by
  obtain ⟨b, o, s⟩ := x
  cases s with
  | none => rfl
  | some s =>
    exfalso
    rw [show (⟨b, o, some s⟩ : Addr).add 0 = ⟨b, o, some s⟩ from rfl] at h
    simp only [World.cell?] at h
    split at h <;> simp at h
theorem len_open {H : Type} {enc : TypeId × Value → H} {P : Program} {W : World} {base : Nat} {spare : Nat → Bool} {held : Bool} {t e : TypeId} {a : Option Addr} {len cap : Nat} {d : DataW H} {ps : List MemPlace} {ts : List TypeId} {ds : List (DataW H)} {j : Nat}
    (hsz : (DataW.weightsEach P ts ds).all (· ≤ reachBytes) = true) (ht : ts[j]? = some t) (hd : ds[j]? = some d) (hu : P.underlying t = some (.slice e)) (hB : 1 ≤ P.bytesOf e)
    (h : DataW.Trod enc P W base spare held t (.slice a len cap) d ps) : len ≤ 140737488351232 := by
  obtain ⟨fuel, hf⟩ := h
  rcases open_slice hu hf with ⟨hcs, _⟩ | ⟨x, l, c, m, n, D, Pl, hcs, _, hl, _, hm, hx, _⟩
  · simp [Value.cells] at hcs; omega
  · simp [Value.cells] at hcs
    obtain ⟨rfl, rfl, rfl⟩ := hcs
    obtain ⟨hx, _⟩ := Prod.mk.inj hx
    subst hx
    have z := sized_slice hsz ht hd hu
    simp only [List.length_map, List.length_range] at z
    have z2 := Nat.le_trans (Nat.le_mul_of_pos_right _ hB) z
    have z3 : reachBytes = 140737488351232 := by simp [reachBytes]
    omega
section
variable {H : Type} {enc : TypeId × Value → H} {P : Program} {W : World} {base : Nat} {spare : Nat → Bool} {held : Bool} {t e : TypeId} {a : Option Addr} {len cap : Nat} {d : DataW H} {ps : List MemPlace}
theorem rdb_of (hu : P.underlying t = some (.slice e)) (he : P.underlying e = some .bool) (hc : P.cellsOf e = 1) (hm : len ≤ 140737488351232)
    (h : DataW.Trod enc P W base spare held t (.slice a len cap) d ps) : ∃ l, RdB W a len cap l := by
  obtain ⟨fuel, hf⟩ := h
  rcases open_slice1 hu hc hf with ⟨hcs, _⟩ | ⟨x, l, c, m, n, V, D, Pl, hcs, _, hl, _, hmm, hx, hV⟩
  · simp [Value.cells] at hcs
    obtain ⟨rfl, rfl, rfl⟩ := hcs
    exact ⟨[], rfl, Nat.le_refl _, by omega, fun hp => absurd hp (by omega)⟩
  · simp [Value.cells] at hcs
    obtain ⟨rfl, rfl, rfl⟩ := hcs
    have hlm : len ≤ m := by rw [hmm]; split <;> omega
    have hB : ∀ i, i < m → ∃ b, V i = .bool b := fun i hi => by
      obtain ⟨b, h1, _⟩ := DataW.trod_bool he (hV i hi).2
      exact ⟨b, by simpa using h1⟩
    refine ⟨(List.range len).map fun i => (match V i with | .bool b => b | _ => false), by simp, hl, by omega, fun hp => ?_⟩
    have hs := spot0 (hV 0 (by omega)).1
    obtain ⟨b, o, s⟩ := x
    simp only at hs
    subst hs
    refine ⟨b, o, rfl, fun j hj => ?_⟩
    have h1 := (hV j (by omega)).1
    rw [Addr.add_mid] at h1
    obtain ⟨v, hv⟩ := hB j (by omega)
    rw [h1, hv]
    simp [List.getD_eq_getElem?_getD, hj, hv]
end
end Go.Proofs.Ytggoaelbglhehaa
/- Words for rows: what the reading of fates and of a script says of memory. -/
set_option linter.unusedVariables false
set_option linter.unusedSimpArgs false
namespace Go.Proofs.Ytggoaelbglhehaa
open Go.ChangeShapes Go.WideShapes Go.RowKit Go.Deep
theorem weightsAll_memO {H : Type} {P : Program} {e : TypeId} : ∀ (l : List (DataW H)) (x : DataW H), x ∈ l → ∀ n, n ∈ x.weights P e → n ∈ DataW.weightsAll P e l
  | [], x, h, _, _ => by simp at h
  | y :: r, x, h, n, hn => by
    rw [DataW.weightsAll, List.mem_append]
    rcases List.mem_cons.1 h with rfl | h
    · exact .inl hn
    · exact .inr (weightsAll_memO r x h n hn)
theorem elem_weight {H : Type} {P : Program} {t e : TypeId} {elems spare : List (DataW H)} (hu : P.underlying t = some (.slice e)) (hw : ∀ n ∈ (DataW.slice elems spare).weights P t, n ≤ reachBytes) {x : DataW H} (hx : x ∈ elems) {n : Nat} (hn : n ∈ x.weights P e) : n ≤ reachBytes :=
  hw n (by simp only [DataW.weights, hu]; exact List.mem_cons_of_mem _ (List.mem_append.2 (.inl (weightsAll_memO elems x hx n hn))))
theorem reach_eq : reachBytes = 140737488351232 := by simp [reachBytes]
section
variable {H : Type} {enc : TypeId × Value → H} {P : Program} {W : World} {base : Nat} {spare : Nat → Bool} {held : Bool} {t e : TypeId} {v : Value} {d : DataW H} {ps : List MemPlace} {fuel : Nat}
theorem slice_len (hu : P.underlying t = some (.slice e)) {elems sp : List (DataW H)} (hw : ∀ n ∈ (DataW.slice elems sp).weights P t, n ≤ reachBytes) : (elems.length + sp.length) * P.bytesOf e ≤ reachBytes :=
  hw _ (by simp only [DataW.weights, hu]; exact List.mem_cons_self)
theorem rd_cell (hu : P.underlying t = some (.slice e)) (he : P.underlying e = some (.int .u8)) (hc : P.cellsOf e = 1) (hB : P.bytesOf e = 1) (hw : ∀ n ∈ d.weights P t, n ≤ reachBytes)
    (h : DataW.trod enc P W base spare held fuel t [v] = some (d, ps)) : ∃ A n c l, v = .slice A n c ∧ Rd W A n c l ∧ n ≤ 140737488351232 := by
  have h' := h
  rcases open_ints hu he hc h with ⟨hcs, hx⟩ | ⟨x, l, c, zs, hcs, _, hl, _, hz, hx, hcell, hwz⟩
  · simp at hcs
    exact ⟨none, 0, 0, [], hcs, Rd.nil _, by omega⟩
  · simp at hcs
    obtain ⟨hx, _⟩ := Prod.mk.inj hx
    subst hx hcs
    have z := slice_len hu hw
    rw [hB, reach_eq] at z
    have hl2 : l ≤ zs.length := by
      rw [hz]
      split
      · exact hl
      · exact Nat.le_refl _
    simp only [lits, List.length_map, List.length_take, List.length_drop] at z
    obtain ⟨L, hr⟩ := rd_of hu he hc ⟨_, h'⟩ (by omega)
    exact ⟨_, _, _, L, rfl, hr, by omega⟩
theorem rdf_cell {f0 f1 : Field} (hu : P.underlying t = some (.slice e)) (he : P.underlying e = some (.struct #[f0, f1])) (ce : P.cellsOf e = 2) (hB : P.bytesOf e = 16)
    (o0 : f0.offset = 0) (o1 : f1.offset = 1) (c0 : P.cellsOf f0.type = 1) (c1 : P.cellsOf f1.type = 1) (u0 : P.underlying f0.type = some (.int .i64)) (u1 : P.underlying f1.type = some (.int .i64)) (hw : ∀ n ∈ d.weights P t, n ≤ reachBytes)
    (h : DataW.trod enc P W base spare held fuel t [v] = some (d, ps)) : ∃ A n c l, v = .slice A n c ∧ RdF W A n c l ∧ n ≤ 8796093022207 := by
  rcases open_slice hu h with ⟨hcs, _⟩ | ⟨x, len, cap, m, n, D, Pl, hcs, _, hl, _, hmm, hx, hV⟩
  · simp at hcs
    exact ⟨none, 0, 0, [], hcs, RdF.nil _, by omega⟩
  · simp at hcs
    obtain ⟨hx, _⟩ := Prod.mk.inj hx
    subst hx hcs
    have hlm : len ≤ m := by rw [hmm]; split <;> omega
    have z := slice_len hu hw
    rw [hB, reach_eq] at z
    simp only [List.length_map, List.length_range] at z
    have each : ∀ i, i < len → ∃ o : Ft, W.cell? (x.add (i * 2)) = some (.int .i64 o.kind) ∧ W.cell? (x.add (i * 2 + 1)) = some (.int .i64 o.at_) := by
      intro i hi
      obtain ⟨cs', h1, h2⟩ := hV i (by omega)
      rw [ce] at h1
      obtain ⟨_, hlen, hcell⟩ := World.cells?_some h1
      obtain ⟨xs, k, hk, hxy, _, hxl, hfl⟩ := DataW.trod_struct he h2
      match xs, hxl, cs', hlen with
      | [y0, y1], _, [v0, v1], _ =>
        have g0 := hfl 0 f0 rfl
        have g1 := hfl 1 f1 rfl
        simp [o0, o1, c0, c1] at g0 g1
        have e0 := hcell 0 (by omega)
        have e1 := hcell 1 (by omega)
        rw [add_add] at e0 e1
        obtain ⟨b0, hb0, _, _⟩ := DataW.trod_int u0 g0
        obtain ⟨b1, hb1, _, _⟩ := DataW.trod_int u1 g1
        simp at hb0 hb1
        subst hb0 hb1
        exact ⟨⟨b0, b1⟩, by simpa using e0, by simpa using e1⟩
    obtain ⟨F, hF⟩ := choose_lt each
    refine ⟨_, _, _, (List.range len).map F, rfl, ⟨by simp, hl, by omega, fun hp => ?_⟩, by omega⟩
    have hs := spot0 (by simpa using (hF 0 (by omega)).1 : W.cell? (x.add 0) = _)
    obtain ⟨b, o, s⟩ := x
    simp only at hs
    subst hs
    refine ⟨b, o, rfl, fun j hj => ?_⟩
    have h1 := hF j (by omega)
    simp only [Addr.add_mid] at h1
    have e9 : ((List.range len).map F).getD j default = F j := by simp [List.getD_eq_getElem?_getD, hj]
    rw [e9]
    obtain ⟨r0, r1⟩ := h1
    rw [← Nat.add_assoc] at r1
    exact ⟨r0, r1⟩
end
section
variable {H : Type} {enc : TypeId × Value → H} {P : Program} {W : World} {base : Nat} {spare : Nat → Bool} {held : Bool} {t e : TypeId} {a : Option Addr} {len cap : Nat} {d : DataW H} {ps : List MemPlace} {ts : List TypeId} {ds : List (DataW H)} {j : Nat}
theorem arg_weights (hsz : (DataW.weightsEach P ts ds).all (· ≤ reachBytes) = true) (ht : ts[j]? = some t) (hd : ds[j]? = some d) : ∀ n ∈ d.weights P t, n ≤ reachBytes := fun n hn => by
  have := List.all_eq_true.1 hsz _ (DataW.weights_mem_each ht hd n hn)
  simpa using this
theorem rdf_of {f0 f1 : Field} (hsz : (DataW.weightsEach P ts ds).all (· ≤ reachBytes) = true) (ht : ts[j]? = some t) (hd : ds[j]? = some d) (hu : P.underlying t = some (.slice e)) (he : P.underlying e = some (.struct #[f0, f1])) (ce : P.cellsOf e = 2) (hB : P.bytesOf e = 16)
    (o0 : f0.offset = 0) (o1 : f1.offset = 1) (c0 : P.cellsOf f0.type = 1) (c1 : P.cellsOf f1.type = 1) (u0 : P.underlying f0.type = some (.int .i64)) (u1 : P.underlying f1.type = some (.int .i64))
    (h : DataW.Trod enc P W base spare held t (.slice a len cap) d ps) : ∃ l, RdF W a len cap l ∧ len ≤ 8796093022207 := by
  obtain ⟨fuel, hf⟩ := h
  obtain ⟨A, n, c, l, e1, hr, hn⟩ := rdf_cell hu he ce hB o0 o1 c0 c1 u0 u1 (arg_weights hsz ht hd) (v := .slice a len cap) hf
  injection e1 with q1 q2 q3
  subst q1 q2 q3
  exact ⟨l, hr, hn⟩
theorem rdod_of {h0 h1 h2 h3 h4 h5 h6 h7 f0 f1 : Field} {tb tf : TypeId} (hsz : (DataW.weightsEach P ts ds).all (· ≤ reachBytes) = true) (ht : ts[j]? = some t) (hd : ds[j]? = some d) (hu : P.underlying t = some (.slice e)) (he : P.underlying e = some (.struct #[h0, h1, h2, h3, h4, h5, h6, h7])) (ce : P.cellsOf e = 8)
    (p0 : h0.offset = 0) (p1 : h1.offset = 1) (p2 : h2.offset = 2) (p3 : h3.offset = 3) (p4 : h4.offset = 4) (p5 : h5.offset = 5) (p6 : h6.offset = 6) (p7 : h7.offset = 7)
    (k0 : P.cellsOf h0.type = 1) (k1 : P.cellsOf h1.type = 1) (k2 : P.cellsOf h2.type = 1) (k3 : P.cellsOf h3.type = 1) (k4 : P.cellsOf h4.type = 1) (k5 : P.cellsOf h5.type = 1) (k6 : P.cellsOf h6.type = 1) (k7 : P.cellsOf h7.type = 1)
    (v0 : P.underlying h0.type = some .bool) (v1 : P.underlying h1.type = some (.int .i64)) (v2 : P.underlying h2.type = some (.int .i64)) (v3 : P.underlying h3.type = some (.int .i64)) (v4 : P.underlying h4.type = some (.int .i64)) (v5 : P.underlying h5.type = some (.int .u8))
    (v6 : P.underlying h6.type = some (.slice tb)) (v7 : P.underlying h7.type = some (.slice tf)) (b1 : P.underlying tb = some (.int .u8)) (b2 : P.cellsOf tb = 1) (b3 : P.bytesOf tb = 1)
    (q1 : P.underlying tf = some (.struct #[f0, f1])) (q2 : P.cellsOf tf = 2) (q3 : P.bytesOf tf = 16)
    (o0 : f0.offset = 0) (o1 : f1.offset = 1) (c0 : P.cellsOf f0.type = 1) (c1 : P.cellsOf f1.type = 1) (u0 : P.underlying f0.type = some (.int .i64)) (u1 : P.underlying f1.type = some (.int .i64)) (hm : len ≤ 140737488351232)
    (h : DataW.Trod enc P W base spare held t (.slice a len cap) d ps) : ∃ l, RdO W a len cap l := by
  have hwt := arg_weights hsz ht hd
  obtain ⟨fuel, hf⟩ := h
  rcases open_slice hu hf with ⟨hcs, _⟩ | ⟨x, l, c, m, n, D, Pl, hcs, _, hl, _, hmm, hx, hV⟩
  · simp [Value.cells] at hcs
    obtain ⟨rfl, rfl, rfl⟩ := hcs
    exact ⟨[], rfl, Nat.le_refl _, by omega, fun hp => absurd hp (by omega)⟩
  · simp [Value.cells] at hcs
    obtain ⟨rfl, rfl, rfl⟩ := hcs
    have hlm : len ≤ m := by rw [hmm]; split <;> omega
    obtain ⟨hx, _⟩ := Prod.mk.inj hx
    subst hx
    have each : ∀ i, i < len → ∃ o : OpD, o.ok ∧ W.cell? (x.add (i * 8)) = some (.bool o.two) ∧ W.cell? (x.add (i * 8 + 1)) = some (.int .i64 o.kind) ∧ W.cell? (x.add (i * 8 + 2)) = some (.int .i64 o.blk) ∧ W.cell? (x.add (i * 8 + 3)) = some (.int .i64 o.num) ∧ W.cell? (x.add (i * 8 + 4)) = some (.int .i64 o.len) ∧ W.cell? (x.add (i * 8 + 5)) = some (.int .u8 (o.fill.toNat : Int)) ∧
        (∃ A n c, W.cell? (x.add (i * 8 + 6)) = some (.slice A n c) ∧ Rd W A n c o.B) ∧ (∃ A n c, W.cell? (x.add (i * 8 + 7)) = some (.slice A n c) ∧ RdF W A n c o.F) := by
      intro i hi
      obtain ⟨cs', s1, s2⟩ := hV i (by omega)
      rw [ce] at s1
      obtain ⟨_, hlen, hcell⟩ := World.cells?_some s1
      obtain ⟨xs, k, hk, hxy, _, hxl, hfl⟩ := DataW.trod_struct he s2
      match xs, hxl, cs', hlen with
      | [y0, y1, y2, y3, y4, y5, y6, y7], _, [w0, w1, w2, w3, w4, w5, w6, w7], _ =>
        have g0 := hfl 0 h0 rfl
        have g1 := hfl 1 h1 rfl
        have g2 := hfl 2 h2 rfl
        have g3 := hfl 3 h3 rfl
        have g4 := hfl 4 h4 rfl
        have g5 := hfl 5 h5 rfl
        have g6 := hfl 6 h6 rfl
        have g7 := hfl 7 h7 rfl
        simp [p0, p1, p2, p3, p4, p5, p6, p7, k0, k1, k2, k3, k4, k5, k6, k7] at g0 g1 g2 g3 g4 g5 g6 g7
        have e0 := hcell 0 (by omega)
        have e1 := hcell 1 (by omega)
        have e2 := hcell 2 (by omega)
        have e3 := hcell 3 (by omega)
        have e4 := hcell 4 (by omega)
        have e5 := hcell 5 (by omega)
        have e6 := hcell 6 (by omega)
        have e7 := hcell 7 (by omega)
        rw [add_add] at e0 e1 e2 e3 e4 e5 e6 e7
        obtain ⟨b0, hb0, _⟩ := DataW.trod_bool v0 g0
        obtain ⟨z1, hb1, _, hw1⟩ := DataW.trod_int v1 g1
        obtain ⟨z2, hb2, _, hw2⟩ := DataW.trod_int v2 g2
        obtain ⟨z3, hb3, _, hw3⟩ := DataW.trod_int v3 g3
        obtain ⟨z4, hb4, _, hw4⟩ := DataW.trod_int v4 g4
        obtain ⟨z5, hb5, _, hw5⟩ := DataW.trod_int v5 g5
        simp at hb0 hb1 hb2 hb3 hb4 hb5
        subst hb0 hb1 hb2 hb3 hb4 hb5
        have hD : D i = .agg [y0.1, y1.1, y2.1, y3.1, y4.1, y5.1, y6.1, y7.1] := (Prod.mk.inj hxy).1
        have hDw : ∀ n ∈ (D i).weights P e, n ≤ reachBytes := fun n hn => elem_weight hu hwt (List.mem_map.2 ⟨i, by simpa using hi, rfl⟩) hn
        have hw6 : ∀ n ∈ y6.1.weights P h6.type, n ≤ reachBytes := fun n hn => hDw n (by
          rw [hD]; simp only [DataW.weights, he]
          exact DataW.weights_mem_each (j := 6) (t := h6.type) (d := y6.1) rfl rfl _ hn)
        have hw7 : ∀ n ∈ y7.1.weights P h7.type, n ≤ reachBytes := fun n hn => hDw n (by
          rw [hD]; simp only [DataW.weights, he]
          exact DataW.weights_mem_each (j := 7) (t := h7.type) (d := y7.1) rfl rfl _ hn)
        obtain ⟨A6, n6, d6, l6, rfl, hr6, hn6⟩ := rd_cell v6 b1 b2 b3 hw6 g6
        obtain ⟨A7, n7, d7, l7, rfl, hr7, hn7⟩ := rdf_cell v7 q1 q2 q3 o0 o1 c0 c1 u0 u1 hw7 g7
        have h8 := wf_u8 hw5
        refine ⟨⟨b0, z1, z2, z3, z4, UInt8.ofNat z5.toNat, l6, l7⟩, ⟨wf_i64 hw1, wf_i64 hw2, wf_i64 hw3, wf_i64 hw4, by have := hr6.len; simp only; omega, by have := hr7.len; simp only; omega⟩, by simpa using e0, by simpa using e1, by simpa using e2, by simpa using e3, by simpa using e4, ?_, ⟨A6, n6, d6, by simpa using e6, hr6⟩, ⟨A7, n7, d7, by simpa using e7, hr7⟩⟩
        rw [show (((UInt8.ofNat z5.toNat).toNat : Nat) : Int) = z5 by rw [UInt8.toNat_ofNat']; omega]
        simpa using e5
    obtain ⟨F, hF⟩ := choose_lt each
    refine ⟨(List.range len).map F, by simp, hl, by omega, fun hp => ?_⟩
    have hs := spot0 (by simpa using (hF 0 (by omega)).2.1 : W.cell? (x.add 0) = _)
    obtain ⟨b, o, s⟩ := x
    simp only at hs
    subst hs
    refine ⟨b, o, rfl, fun j hj => ?_⟩
    have h1 := hF j (by omega)
    simp only [Addr.add_mid] at h1
    have e9 : ((List.range len).map F).getD j default = F j := by simp [List.getD_eq_getElem?_getD, hj]
    rw [e9]
    obtain ⟨r, r0, r1, r2, r3, r4, r5, r6, r7⟩ := h1
    simp only [← Nat.add_assoc] at r1 r2 r3 r4 r5 r6 r7
    exact ⟨r, r0, r1, r2, r3, r4, r5, r6, r7⟩
end
end Go.Proofs.Ytggoaelbglhehaa
/- Words for rows: what the reading of AnchorWhole's tries says of memory. -/
set_option linter.unusedVariables false
set_option linter.unusedSimpArgs false
namespace Go.Proofs.Ytggoaelbglhehaa
open Go.ChangeShapes Go.WideShapes Go.RowKit Go.Deep
section
variable {H : Type} {enc : TypeId × Value → H} {P : Program} {W : World} {base : Nat} {spare : Nat → Bool} {held : Bool} {t e : TypeId} {a : Option Addr} {len cap : Nat} {d : DataW H} {ps : List MemPlace} {ts : List TypeId} {ds : List (DataW H)} {j : Nat}
theorem sp_trod {fuel : Nat} {y : DataW H × List MemPlace} {f0 f1 f2 f3 f4 f5 f6 f7 g0 g1 : Field} {c0 c1 c2 c3 c4 c5 c6 c7 c8 : Value} (hs : P.underlying t = some (.struct #[f0, f1, f2, f3, f4, f5, f6, f7]))
    (o0 : f0.offset = 0) (o1 : f1.offset = 1) (o2 : f2.offset = 2) (o3 : f3.offset = 3) (o4 : f4.offset = 4) (o5 : f5.offset = 6) (o6 : f6.offset = 7) (o7 : f7.offset = 8)
    (k0 : P.cellsOf f0.type = 1) (k1 : P.cellsOf f1.type = 1) (k2 : P.cellsOf f2.type = 1) (k3 : P.cellsOf f3.type = 1) (k4 : P.cellsOf f4.type = 2) (k5 : P.cellsOf f5.type = 1) (k6 : P.cellsOf f6.type = 1) (k7 : P.cellsOf f7.type = 1)
    (u0 : P.underlying f0.type = some (.int .i64)) (u1 : P.underlying f1.type = some (.int .i64)) (u2 : P.underlying f2.type = some (.int .i64)) (u3 : P.underlying f3.type = some (.int .i64)) (u4 : P.underlying f4.type = some (.struct #[g0, g1])) (u5 : P.underlying f5.type = some (.int .i64)) (u6 : P.underlying f6.type = some (.int .i64)) (u7 : P.underlying f7.type = some (.int .i64))
    (q0 : g0.offset = 0) (q1 : g1.offset = 1) (m0 : P.cellsOf g0.type = 1) (m1 : P.cellsOf g1.type = 1) (v0 : P.underlying g0.type = some (.int .i64)) (v1 : P.underlying g1.type = some (.int .i64))
    (hf : DataW.trod enc P W base spare held fuel t [c0, c1, c2, c3, c4, c5, c6, c7, c8] = some y) : ∃ s : Sp, s.ok ∧ c0 = .int .i64 s.gen ∧ c1 = .int .i64 s.epoch ∧ c2 = .int .i64 s.blocks ∧ c3 = .int .i64 s.log ∧ c4 = .int .i64 s.stamp ∧ c5 = .int .i64 s.at_ ∧ c6 = .int .i64 s.root ∧ c7 = .int .i64 s.count ∧ c8 = .int .i64 s.version := by
  obtain ⟨xs, n, _, hx, _, hlen, hg⟩ := DataW.trod_struct hs hf
  match xs, hlen with
  | [y0, y1, y2, y3, y4, y5, y6, y7], _ =>
    have e0 : DataW.trod enc P W base spare held n f0.type [c0] = some y0 := by simpa [Value.cells, o0, k0] using hg 0 f0 rfl
    have e1 : DataW.trod enc P W base spare held n f1.type [c1] = some y1 := by simpa [Value.cells, o1, k1] using hg 1 f1 rfl
    have e2 : DataW.trod enc P W base spare held n f2.type [c2] = some y2 := by simpa [Value.cells, o2, k2] using hg 2 f2 rfl
    have e3 : DataW.trod enc P W base spare held n f3.type [c3] = some y3 := by simpa [Value.cells, o3, k3] using hg 3 f3 rfl
    have e4 : DataW.trod enc P W base spare held n f4.type [c4, c5] = some y4 := by simpa [Value.cells, o4, k4] using hg 4 f4 rfl
    have e5 : DataW.trod enc P W base spare held n f5.type [c6] = some y5 := by simpa [Value.cells, o5, k5] using hg 5 f5 rfl
    have e6 : DataW.trod enc P W base spare held n f6.type [c7] = some y6 := by simpa [Value.cells, o6, k6] using hg 6 f6 rfl
    have e7 : DataW.trod enc P W base spare held n f7.type [c8] = some y7 := by simpa [Value.cells, o7, k7] using hg 7 f7 rfl
    obtain ⟨zs, n', _, hz, _, hzl, hgg⟩ := DataW.trod_struct u4 e4
    match zs, hzl with
    | [z0, z1], _ =>
      have d0 : DataW.trod enc P W base spare held n' g0.type [c4] = some z0 := by simpa [q0, m0] using hgg 0 g0 rfl
      have d1 : DataW.trod enc P W base spare held n' g1.type [c5] = some z1 := by simpa [q1, m1] using hgg 1 g1 rfl
      obtain ⟨x0, rfl, w0⟩ := i64_one u0 e0
      obtain ⟨x1, rfl, w1⟩ := i64_one u1 e1
      obtain ⟨x2, rfl, w2⟩ := i64_one u2 e2
      obtain ⟨x3, rfl, w3⟩ := i64_one u3 e3
      obtain ⟨x4, rfl, w4⟩ := i64_one v0 d0
      obtain ⟨x5, rfl, w5⟩ := i64_one v1 d1
      obtain ⟨x6, rfl, w6⟩ := i64_one u5 e5
      obtain ⟨x7, rfl, w7⟩ := i64_one u6 e6
      obtain ⟨x8, rfl, w8⟩ := i64_one u7 e7
      exact ⟨⟨x0, x1, x2, x3, x4, x5, x6, x7, x8⟩, ⟨w0, w1, w2, w3, w4, w5, w6, w7, w8⟩, rfl, rfl, rfl, rfl, rfl, rfl, rfl, rfl, rfl⟩
theorem rdtry_of {h0 h1 h2 h3 s0 s1 s2 s3 s4 s5 s6 s7 g0 g1 f0 f1 : Field} {tf : TypeId} (hsz : (DataW.weightsEach P ts ds).all (· ≤ reachBytes) = true) (ht : ts[j]? = some t) (hd : ds[j]? = some d) (hu : P.underlying t = some (.slice e)) (he : P.underlying e = some (.struct #[h0, h1, h2, h3])) (ce : P.cellsOf e = 12)
    (p0 : h0.offset = 0) (p1 : h1.offset = 9) (p2 : h2.offset = 10) (p3 : h3.offset = 11)
    (l0 : P.cellsOf h0.type = 9) (l1 : P.cellsOf h1.type = 1) (l2 : P.cellsOf h2.type = 1) (l3 : P.cellsOf h3.type = 1)
    (w0 : P.underlying h0.type = some (.struct #[s0, s1, s2, s3, s4, s5, s6, s7])) (w1 : P.underlying h1.type = some (.int .i64)) (w2 : P.underlying h2.type = some .bool) (w3 : P.underlying h3.type = some (.slice tf))
    (n0 : s0.offset = 0) (n1 : s1.offset = 1) (n2 : s2.offset = 2) (n3 : s3.offset = 3) (n4 : s4.offset = 4) (n5 : s5.offset = 6) (n6 : s6.offset = 7) (n7 : s7.offset = 8)
    (k0 : P.cellsOf s0.type = 1) (k1 : P.cellsOf s1.type = 1) (k2 : P.cellsOf s2.type = 1) (k3 : P.cellsOf s3.type = 1) (k4 : P.cellsOf s4.type = 2) (k5 : P.cellsOf s5.type = 1) (k6 : P.cellsOf s6.type = 1) (k7 : P.cellsOf s7.type = 1)
    (u0 : P.underlying s0.type = some (.int .i64)) (u1 : P.underlying s1.type = some (.int .i64)) (u2 : P.underlying s2.type = some (.int .i64)) (u3 : P.underlying s3.type = some (.int .i64)) (u4 : P.underlying s4.type = some (.struct #[g0, g1])) (u5 : P.underlying s5.type = some (.int .i64)) (u6 : P.underlying s6.type = some (.int .i64)) (u7 : P.underlying s7.type = some (.int .i64))
    (i0 : g0.offset = 0) (i1 : g1.offset = 1) (m0 : P.cellsOf g0.type = 1) (m1 : P.cellsOf g1.type = 1) (v0 : P.underlying g0.type = some (.int .i64)) (v1 : P.underlying g1.type = some (.int .i64))
    (q1 : P.underlying tf = some (.struct #[f0, f1])) (q2 : P.cellsOf tf = 2) (q3 : P.bytesOf tf = 16)
    (o0 : f0.offset = 0) (o1 : f1.offset = 1) (c0 : P.cellsOf f0.type = 1) (c1 : P.cellsOf f1.type = 1) (y0 : P.underlying f0.type = some (.int .i64)) (y1 : P.underlying f1.type = some (.int .i64)) (hm : len ≤ 140737488351232)
    (h : DataW.Trod enc P W base spare held t (.slice a len cap) d ps) : ∃ l, RdTry W a len cap l := by
  have hwt := arg_weights hsz ht hd
  obtain ⟨fuel, hf⟩ := h
  rcases open_slice hu hf with ⟨hcs, _⟩ | ⟨x, l, c, m, n, D, Pl, hcs, _, hl, _, hmm, hx, hV⟩
  · simp [Value.cells] at hcs
    obtain ⟨rfl, rfl, rfl⟩ := hcs
    exact ⟨[], rfl, Nat.le_refl _, by omega, fun hp => absurd hp (by omega)⟩
  · simp [Value.cells] at hcs
    obtain ⟨rfl, rfl, rfl⟩ := hcs
    have hlm : len ≤ m := by rw [hmm]; split <;> omega
    obtain ⟨hx, _⟩ := Prod.mk.inj hx
    subst hx
    have each : ∀ i, i < len → ∃ o : TryD, o.ok ∧ (W.cell? (x.add (i * 12)) = some (.int .i64 o.s.gen) ∧ W.cell? (x.add (i * 12 + 1)) = some (.int .i64 o.s.epoch) ∧ W.cell? (x.add (i * 12 + 2)) = some (.int .i64 o.s.blocks) ∧ W.cell? (x.add (i * 12 + 3)) = some (.int .i64 o.s.log) ∧ W.cell? (x.add (i * 12 + 4)) = some (.int .i64 o.s.stamp) ∧ W.cell? (x.add (i * 12 + 5)) = some (.int .i64 o.s.at_) ∧ W.cell? (x.add (i * 12 + 6)) = some (.int .i64 o.s.root) ∧ W.cell? (x.add (i * 12 + 7)) = some (.int .i64 o.s.count) ∧ W.cell? (x.add (i * 12 + 8)) = some (.int .i64 o.s.version) ∧ W.cell? (x.add (i * 12 + 9)) = some (.int .i64 o.arm) ∧ W.cell? (x.add (i * 12 + 10)) = some (.bool o.crash)) ∧
        (∃ A n c, W.cell? (x.add (i * 12 + 11)) = some (.slice A n c) ∧ RdF W A n c o.F) := by
      intro i hi
      obtain ⟨cs', s1', s2'⟩ := hV i (by omega)
      rw [ce] at s1'
      obtain ⟨_, hlen, hcell⟩ := World.cells?_some s1'
      obtain ⟨xs, k, hk, hxy, _, hxl, hfl⟩ := DataW.trod_struct he s2'
      match xs, hxl, cs', hlen with
      | [t0, t1, t2, t3], _, [b0, b1, b2, b3, b4, b5, b6, b7, b8, b9, b10, b11], _ =>
        have e0 := hfl 0 h0 rfl
        have e1 := hfl 1 h1 rfl
        have e2 := hfl 2 h2 rfl
        have e3 := hfl 3 h3 rfl
        simp [p0, p1, p2, p3, l0, l1, l2, l3] at e0 e1 e2 e3
        have a0 := hcell 0 (by omega)
        have a1 := hcell 1 (by omega)
        have a2 := hcell 2 (by omega)
        have a3 := hcell 3 (by omega)
        have a4 := hcell 4 (by omega)
        have a5 := hcell 5 (by omega)
        have a6 := hcell 6 (by omega)
        have a7 := hcell 7 (by omega)
        have a8 := hcell 8 (by omega)
        have a9 := hcell 9 (by omega)
        have a10 := hcell 10 (by omega)
        have a11 := hcell 11 (by omega)
        rw [add_add] at a0 a1 a2 a3 a4 a5 a6 a7 a8 a9 a10 a11
        obtain ⟨S, hS, rfl, rfl, rfl, rfl, rfl, rfl, rfl, rfl, rfl⟩ := sp_trod w0 n0 n1 n2 n3 n4 n5 n6 n7 k0 k1 k2 k3 k4 k5 k6 k7 u0 u1 u2 u3 u4 u5 u6 u7 i0 i1 m0 m1 v0 v1 e0
        obtain ⟨z1, hb1, hw1⟩ := i64_one w1 e1
        obtain ⟨z2, hb2, _⟩ := DataW.trod_bool w2 e2
        simp at hb2
        subst hb1 hb2
        have hD : D i = .agg [t0.1, t1.1, t2.1, t3.1] := (Prod.mk.inj hxy).1
        have hDw : ∀ n ∈ (D i).weights P e, n ≤ reachBytes := fun n hn => elem_weight hu hwt (List.mem_map.2 ⟨i, by simpa using hi, rfl⟩) hn
        have hw7 : ∀ n ∈ t3.1.weights P h3.type, n ≤ reachBytes := fun n hn => hDw n (by
          rw [hD]; simp only [DataW.weights, he]
          exact DataW.weights_mem_each (j := 3) (t := h3.type) (d := t3.1) rfl rfl _ hn)
        obtain ⟨A7, n7', d7, l7, rfl, hr7, hn7⟩ := rdf_cell w3 q1 q2 q3 o0 o1 c0 c1 y0 y1 hw7 e3
        exact ⟨⟨S, z1, z2, l7⟩, ⟨hS, hw1, by have := hr7.len; simp only; omega⟩, ⟨by simpa using a0, by simpa using a1, by simpa using a2, by simpa using a3, by simpa using a4, by simpa using a5, by simpa using a6, by simpa using a7, by simpa using a8, by simpa using a9, by simpa using a10⟩, ⟨A7, n7', d7, by simpa using a11, hr7⟩⟩
    obtain ⟨F, hF⟩ := choose_lt each
    refine ⟨(List.range len).map F, by simp, hl, by omega, fun hp => ?_⟩
    have hs := spot0 (by simpa using (hF 0 (by omega)).2.1.1 : W.cell? (x.add 0) = _)
    obtain ⟨b, o, s⟩ := x
    simp only at hs
    subst hs
    refine ⟨b, o, rfl, fun j hj => ?_⟩
    have h1 := hF j (by omega)
    simp only [Addr.add_mid] at h1
    have e9 : ((List.range len).map F).getD j default = F j := by simp [List.getD_eq_getElem?_getD, hj]
    rw [e9]
    obtain ⟨r, ⟨r0, r1, r2, r3, r4, r5, r6, r7, r8, r9, r10⟩, r11⟩ := h1
    simp only [← Nat.add_assoc] at r1 r2 r3 r4 r5 r6 r7 r8 r9 r10 r11
    exact ⟨r, r0, r1, r2, r3, r4, r5, r6, r7, r8, r9, r10, r11⟩
end
end Go.Proofs.Ytggoaelbglhehaa
