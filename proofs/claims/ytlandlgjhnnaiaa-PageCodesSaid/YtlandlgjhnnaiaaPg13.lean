/- A block in the making as its first bytes; the entries of a leaf are laid. -/
import Derived.Test.YtlandlgjhnnaiaaPg12
set_option linter.unusedVariables false
set_option linter.unusedSimpArgs false
set_option maxRecDepth 100000
namespace Go.Proofs.Ytlandlgjhnnaiaa
open Go.RowKit SumMath
/-- the first bytes are P, all behind is 0 -/
def PB (w : World) (g : Nat) (P : List UInt8) : Prop := BkAt w g (padB P) P.length
section
variable {w w' : World} {g : Nat} {P : List UInt8}
theorem PB.keep {S : List Nat} (h : PB w g P) (hw : Only S w w') (hs : g ∉ S) : PB w' g P := BkAt.keep h hw hs
theorem PB.alloc (h : PB w g P) (o : Obj) : PB (w.alloc o) g P := BkAt.ext h ((Below.refl _ _).alloc (Nat.le_refl _) _)
theorem set_splice (M : List UInt8) (a : Nat) (x : UInt8) (h : a < M.length) : M.set a x = splice M a [x] := by
  have := spl_step M [x] a 0 0 (by simp; omega) (by simp)
  rw [List.take_zero, spl_nil] at this
  simpa using this
theorem pb_one (n : Int) (h : PB w g P) (ha : P.length < 512) :
    Calls Try.prog 36 #[.pointer (some ⟨g, 0, none⟩), .int .i64 n] w fun e w' => e = .returned (.tuple #[]) ∧ PB w' g (P ++ [b8 n]) ∧ Only [g] w w' := by
  refine (pg_one g P.length (padB P) n w h ha).mono ?_
  rintro e w' ⟨rfl, h1, h2⟩
  refine ⟨rfl, ?_, h2⟩
  unfold PB
  rw [set_splice _ _ _ (by rw [padB_len P (by omega)]; omega), padB_more P [b8 n] (by simp; omega)] at h1
  simpa using h1
theorem pb_four (n : Int) (h : PB w g P) (ha : P.length + 4 ≤ 512) :
    Calls Try.prog 38 #[.pointer (some ⟨g, 0, none⟩), .int .i64 n] w fun e w' => e = .returned (.tuple #[]) ∧ PB w' g (P ++ leB 4 n) ∧ Only [g] w w' := by
  refine (pg_four g P.length (padB P) n w h ha).mono ?_
  rintro e w' ⟨rfl, h1, h2⟩
  refine ⟨rfl, ?_, h2⟩
  unfold PB
  rw [padB_more P (leB 4 n) (by rw [leB_len]; omega)] at h1
  rw [List.length_append, leB_len]
  exact h1
theorem pb_text (s : ByteArray) (h : PB w g P) (ha : P.length + s.size ≤ 512) :
    Calls Try.prog 39 #[.pointer (some ⟨g, 0, none⟩), .string s] w fun e w' => e = .returned (.tuple #[]) ∧ PB w' g (P ++ byS s) ∧ Only [g] w w' := by
  refine (pg_text g P.length (padB P) s w h ha).mono ?_
  rintro e w' ⟨rfl, h1, h2⟩
  refine ⟨rfl, ?_, h2⟩
  unfold PB
  rw [padB_more P (byS s) (by rw [byS_len]; omega)] at h1
  rw [List.length_append, byS_len]
  exact h1
end
theorem entsB_take (es : List En) (cs : List Int) (hl : cs.length = es.length) : ∀ k, k < es.length → entsB (es.take (k + 1)) (cs.take (k + 1)) = entsB (es.take k) (cs.take k) ++ entB (es.getD k default) (cs.getD k 0) := by
  induction es generalizing cs with
  | nil => intro k h; simp at h
  | cons e es ih =>
    intro k h
    cases cs with
    | nil => simp at hl
    | cons c cs =>
      cases k with
      | zero => simp [entsB]
      | succ k =>
        have := ih cs (by simpa using hl) k (by simpa using h)
        simp only [List.take_succ_cons, entsB, List.getD_cons_succ] at this ⊢
        rw [this, List.append_assoc]
theorem entsZ_mono (es : List En) (cs : List Int) (hl : cs.length = es.length) : ∀ k, k ≤ es.length → entsZ (es.take k) (cs.take k) ≤ entsZ es cs := by
  induction es generalizing cs with
  | nil => intro k _; simp [entsZ]
  | cons e es ih =>
    intro k h
    cases cs with
    | nil => simp at hl
    | cons c cs =>
      cases k with
      | zero => simp [entsZ]
      | succ k =>
        have := ih cs (by simpa using hl) k (by simpa using h)
        simp only [List.take_succ_cons, entsZ] at this ⊢
        omega
theorem leafGo_ent : ∀ (es : List En) (cs : List Int) (last : ByteArray), leafGo last es cs = true → ∀ k, k < es.length → ∃ l, entOk l (es.getD k default) (cs.getD k 0) = true
  | [], _, _, _, k, h => by simp at h
  | e :: es, [], _, h, _, _ => by cases h
  | e :: es, c :: cs, last, h, k, hk => by
    simp only [leafGo, Bool.and_eq_true] at h
    cases k with
    | zero => exact ⟨last, h.1⟩
    | succ k => exact leafGo_ent es cs e.key h.2 k (by simpa using hk)
theorem leafGo_chain : ∀ {l : ByteArray} {e : En} {c : Int}, entOk l e c = true → c ≠ 0 → e.val.size = 0 := by
  intro l e c h hc
  simp only [entOk, Bool.and_eq_true, Bool.not_eq_true', Bool.and_eq_false_iff, decide_eq_false_iff_not, Bool.or_eq_false_iff, Bool.not_eq_false', decide_eq_true_eq, ne_eq, Decidable.not_not] at h
  rcases h.1.2 with h | h
  · exact absurd hc (by simpa using h)
  · exact h.2
set_option maxHeartbeats 2000000 in
theorem pg_entries (n : Nd) (vE vC vK vD : Value) (g : Nat) (P : List UInt8) (w0 w : World) (hN : NdR w0 n vE vC vK vD) (hb : Below w0.heap.size w0 w) (hg0 : w0.heap.size ≤ g) (hP : PB w g P) (hl : n.chs.length = n.ents.length) (hg : leafGo noS n.ents n.chs = true) (hz : P.length + entsZ n.ents n.chs ≤ 512) :
    Calls Try.prog 37 #[.pointer (some ⟨g, 0, none⟩), .agg (ndC n vE vC vK vD)] w fun e w' => e = .returned (.tuple #[]) ∧ PB w' g (P ++ entsB n.ents n.chs) ∧ Only [g] w w' := by
  obtain ⟨⟨A1, c1, rfl, h1⟩, ⟨A2, c2, rfl, h2⟩, ⟨A3, c3, rfl, h3⟩, ⟨A4, c4, rfl, h4⟩⟩ := hN
  obtain ⟨kind, ents, chs, keys, kids, next, data⟩ := n
  unfold ndC
  dsimp only at h1 h2 h3 h4 hl hg hz ⊢
  have m1 := h1.max
  have HR1 := Lib.hid h1
  have HR2 := Lib.hid h2
  have HBB := Lib.hid hb
  have HG0 := Lib.hid hg0
  clear h3 h4
  obtain ⟨W, hW⟩ : ∃ W, W = w.alloc (.cells #[.int .i64 kind, .slice A1 ents.length c1, .slice A2 chs.length c2, .slice A3 keys.length c3, .slice A4 kids.length c4, .int .i64 next, .string data] 26) := ⟨_, rfl⟩
  obtain ⟨q, hq⟩ : ∃ q, q = w.heap.size := ⟨_, rfl⟩
  have HB0 := Lib.hid (show Only [g] w W by rw [hW]; exact (Only.refl _ _).alloc _)
  have HBW := Lib.hid (show Below w0.heap.size w0 W by rw [hW]; exact hb.alloc hb.size _)
  have HQ := Lib.hid (show q ≠ g by have := BkAt.lt hP; omega)
  have HRW := Lib.hid (show W.heap[q]? = some (.cells #[.int .i64 kind, .slice A1 ents.length c1, .slice A2 chs.length c2, .slice A3 keys.length c3, .slice A4 kids.length c4, .int .i64 next, .string data] 26 (0, 0)) by rw [hW, hq]; exact heap_alloc_new w _)
  have HP := Lib.hid (show PB W g P by rw [hW]; exact hP.alloc _)
  have HZT := Lib.hid (entsZ_take ents chs hl)
  have HZM := Lib.hid (entsZ_mono ents chs hl)
  have HBT := Lib.hid (entsB_take ents chs hl)
  have HEN := Lib.hid (leafGo_ent ents chs noS hg)
  have HBL := Lib.hid (fun k (hk : k ≤ ents.length) => show (entsB (ents.take k) (chs.take k)).length = entsZ (ents.take k) (chs.take k) from by
    induction k with
    | zero => simp [entsB, entsZ]
    | succ k ih =>
      obtain ⟨l, hl9⟩ := HEN.out k (by omega)
      rw [HBT.out k (by omega), HZT.out k (by omega), List.length_append, ih (by omega), entB_len l _ _ hl9])
  have HZ := Lib.hid hz
  obtain ⟨ne, hne⟩ : ∃ ne, ne = ents.length := ⟨_, rfl⟩
  rw [hl] at HRW HR2 hW ⊢
  rw [← hne] at HR1 HR2 HRW HZT HZM HBT HEN HBL m1 hW ⊢
  have HNE := Lib.hid hne
  have HNC := Lib.hid (hne.trans hl.symm)
  clear h1 h2 hP hb hg0 hl hg hz hne
  go_enter Try.func37, Try.ntmps37
  go_wp2_with fail
  rw [← hW, ← hq]
  have hcell : W.cell? ⟨q, 1, none⟩ = some (.slice A1 ne c1) := cell_of_row W q 1 _ _ _ HRW.out
  clear hW hq
  go_wp2_with fail
  go_loopw [4, 5, 9] (fun _ _ x wx => ∃ k : Nat, k ≤ ne ∧ x = .int .i64 k ∧ PB wx g (P ++ entsB (ents.take k) (chs.take k)) ∧ Only [g] W wx) (fun _ _ x _ => ne - (intOf x).toNat)
  case atStart => exact ⟨0, by omega, rfl, by simp only [List.take_zero, entsB, List.append_nil]; exact HP.out, Only.refl _ _⟩
  case round =>
    obtain ⟨k, hk, rfl, hI, hO⟩ := hrel
    have HI := Lib.hid hI
    have HO := Lib.hid hO
    clear hI hO hcell
    by_cases hkn : k < ne
    · have HBk := Lib.hid (HBW.out.trans (HO.out.below HBW.out.size (by simp; exact HG0.out)))
      obtain ⟨b1, o1, rfl, hc1⟩ := (HR1.out.ext HBk.out).at_ (by omega)
      obtain ⟨b2, o2, rfl, -, hc2⟩ := HR2.out.at_ (by omega)
      obtain ⟨hck, hcv⟩ := hc1 k hkn
      have hcc := hc2 k hkn
      have hbs1 : b1 < wr.heap.size := World.block_lt_of_cell? wr _ hck
      have HCC := Lib.hid hcc
      clear hc1 hc2 hcc
      obtain ⟨l9, hen⟩ := HEN.out k hkn
      have HZK := Lib.hid (show (P ++ entsB (ents.take k) (chs.take k)).length + (2 + (ents.getD k default).key.size + (ents.getD k default).val.size + (if chs.getD k 0 ≠ 0 then 4 else 0)) ≤ 512 by
        have a1 := HBL.out k hk
        have a2 := HZT.out k hkn
        have a3 := HZM.out (k + 1) (by omega)
        have a4 := HZ.out
        rw [List.length_append, a1]; omega)
      have HBN := Lib.hid (HBT.out k hkn)
      obtain ⟨e, he⟩ : ∃ e, e = ents.getD k default := ⟨_, rfl⟩
      rw [← he] at hck hcv hen HZK HBN
      obtain ⟨c, hc⟩ : ∃ c, c = chs.getD k 0 := ⟨_, rfl⟩
      rw [← hc] at HCC hen HZK HBN
      clear he hc
      obtain ⟨key, val⟩ := e
      dsimp only at hck hcv hen HZK
      have HEC := Lib.hid (fun h => leafGo_chain hen h)
      obtain ⟨Q, hQ⟩ : ∃ Q, Q = P ++ entsB (ents.take k) (chs.take k) := ⟨_, rfl⟩
      rw [← hQ] at HI HZK
      have HQN := Lib.hid (show Q ++ entB ⟨key, val⟩ c = P ++ entsB (ents.take (k + 1)) (chs.take (k + 1)) by rw [hQ, HBN.out, List.append_assoc])
      obtain ⟨W5, hW5⟩ : ∃ W5, W5 = wr.alloc (.cells #[.string key, .string val] 46) := ⟨_, rfl⟩
      obtain ⟨x, hx⟩ : ∃ x, x = wr.heap.size := ⟨_, rfl⟩
      have HO5 := Lib.hid (show Only [g] W W5 by rw [hW5]; exact HO.out.alloc _)
      have HI5 := Lib.hid (show PB W5 g Q by rw [hW5]; exact HI.out.alloc _)
      have HXG := Lib.hid (show x ≠ g by have := BkAt.lt HI.out; omega)
      have HRX := Lib.hid (show W5.heap[x]? = some (.cells #[.string key, .string val] 46 (0, 0)) by rw [hW5, hx]; exact heap_alloc_new wr _)
      have HF := Lib.hid (show ∀ W', Only [g] W5 W' → W'.cell? ⟨x, 0, none⟩ = some (.string key) ∧ W'.cell? ⟨x, 1, none⟩ = some (.string val) ∧ W'.cell? ⟨q, 2, none⟩ = some (.slice (some ⟨b2, o2, none⟩) ne c2) ∧ W'.cell? ⟨b2, o2 + k, none⟩ = some (.int .i64 c) from fun W' ho => by
        have hx9 := (ho.blk x (lt_of_block HRX.out) (by simp; exact HXG.out)).trans HRX.out
        have hoW := HO5.out.trans ho
        have hq9 := (hoW.blk q (lt_of_block HRW.out) (by simp; exact HQ.out)).trans HRW.out
        have hb9 := HBW.out.trans (hoW.below HBW.out.size (by simp; exact HG0.out))
        exact ⟨cell_of_row _ x 0 _ _ _ hx9, cell_of_row _ x 1 _ _ _ hx9, cell_of_row _ q 2 _ _ _ hq9, cell_ext hb9 HCC.out⟩)
      have hk0 : (0 : Int) ≤ (k : Int) ∧ (k : Int) < (ne : Int) := by omega
      have HC1 := Lib.hid (pb_one (key.size : Int) HI5.out (by have := HZK.out; omega))
      have hgr : wr.cell? ⟨q, 1, none⟩ = some (.slice (some ⟨b1, o1, none⟩) ne c1) := by
        have hq9 := (HO.out.blk q (lt_of_block HRW.out) (by simp; exact HQ.out)).trans HRW.out
        exact cell_of_row _ q 1 _ _ _ hq9
      clear hQ hen
      go_wp2_with fail
      rw [← hW5, ← hx]
      clear hW5 hx hck hcv hgr hbs1
      refine HC1.out.mono ?_
      rintro e w1 ⟨rfl, hI1, hO1⟩
      have HI1 := Lib.hid hI1
      have HO1 := Lib.hid hO1
      obtain ⟨f0, f1, f2, f3⟩ := HF.out w1 hO1
      clear hI1 hO1 HC1
      by_cases hc0 : c = 0
      · subst hc0
        have HZ2 := Lib.hid (show Q.length + (2 + key.size + val.size) ≤ 512 by have := HZK.out; simp at this; omega)
        have HC2 := Lib.hid (pb_one (val.size : Int) HI1.out (by have := HZ2.out; simp; omega))
        go_wp2_with fail
        refine HC2.out.mono ?_
        rintro e w2 ⟨rfl, hI2, hO2⟩
        have HI2 := Lib.hid hI2
        have HO2 := Lib.hid (HO1.out.trans hO2)
        clear f0 f1 f2 f3
        obtain ⟨f0, f1, f2, f3⟩ := HF.out w2 HO2.out
        have HC3 := Lib.hid (pb_text key HI2.out (by have := HZ2.out; simp; omega))
        clear hI2 hO2 HC2
        go_wp2_with fail
        refine HC3.out.mono ?_
        rintro e w3 ⟨rfl, hI3, hO3⟩
        have HI3 := Lib.hid hI3
        have HO3 := Lib.hid (HO2.out.trans hO3)
        clear f0 f1 f2 f3
        obtain ⟨f0, f1, f2, f3⟩ := HF.out w3 HO3.out
        have HC4 := Lib.hid (pb_text val HI3.out (by have := HZ2.out; simp [byS_len]; omega))
        clear hI3 hO3 HC3
        go_wp2_with fail
        refine HC4.out.mono ?_
        rintro e w4 ⟨rfl, hI4, hO4⟩
        have HI4 := Lib.hid hI4
        have HO4 := Lib.hid (HO3.out.trans hO4)
        clear f0 f1 f2 f3 hI4 hO4 HC4
        go_wp2
        go_roundw
        case rel => exact ⟨k + 1, by omega, by go_num, by rw [← HQN.out]; have h9 := HI4.out; simp only [List.append_assoc, List.cons_append, List.nil_append] at h9; simpa [entB] using h9, HO5.out.trans HO4.out⟩
        case measure => simp [intOf]; omega
      · have hc1 : (c != 0) = true := by simpa using hc0
        have HZ2 := Lib.hid (show Q.length + (2 + key.size + 4) ≤ 512 by have := HZK.out; simp [hc0] at this; omega)
        have HC0 := Lib.hid hc0
        have HC2 := Lib.hid (pb_one 255 HI1.out (by have := HZ2.out; simp; omega))
        clear hc0
        go_wp2_with fail
        refine HC2.out.mono ?_
        rintro e w2 ⟨rfl, hI2, hO2⟩
        have HI2 := Lib.hid hI2
        have HO2 := Lib.hid (HO1.out.trans hO2)
        clear f0 f1 f2 f3
        obtain ⟨f0, f1, f2, f3⟩ := HF.out w2 HO2.out
        have HC3 := Lib.hid (pb_text key HI2.out (by have := HZ2.out; simp; omega))
        clear hI2 hO2 HC2
        go_wp2_with fail
        refine HC3.out.mono ?_
        rintro e w3 ⟨rfl, hI3, hO3⟩
        have HI3 := Lib.hid hI3
        have HO3 := Lib.hid (HO2.out.trans hO3)
        clear f0 f1 f2 f3
        obtain ⟨f0, f1, f2, f3⟩ := HF.out w3 HO3.out
        have HC4 := Lib.hid (pb_four c HI3.out (by have := HZ2.out; simp [byS_len]; omega))
        clear hI3 hO3 HC3
        go_wp2_with fail
        refine HC4.out.mono ?_
        rintro e w4 ⟨rfl, hI4, hO4⟩
        have HI4 := Lib.hid hI4
        have HO4 := Lib.hid (HO3.out.trans hO4)
        clear f0 f1 f2 f3 hI4 hO4 HC4
        go_wp2
        go_roundw
        case rel => exact ⟨k + 1, by omega, by go_num, by rw [← HQN.out]; have h9 := HI4.out; simp only [List.append_assoc, List.cons_append, List.nil_append] at h9; rw [entB, if_pos HC0.out]; exact h9, HO5.out.trans HO4.out⟩
        case measure => simp [intOf]; omega
    · obtain rfl : ne = k := by omega
      have HE := Lib.hid (show ents.take ne = ents ∧ chs.take ne = chs from ⟨List.take_of_length_le (by rw [← HNE.out]; exact Nat.le_refl _), List.take_of_length_le (by rw [← HNC.out]; exact Nat.le_refl _)⟩)
      go_wp2
      go_end0
      refine ⟨rfl, ?_, HB0.out.trans HO.out⟩
      have := HI.out
      rwa [HE.out.1, HE.out.2] at this
end Go.Proofs.Ytlandlgjhnnaiaa
