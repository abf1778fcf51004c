/- Decode of the program. -/
import Derived.Test.YtlandlgjhnnaiaaPg18
import Derived.Test.YtlandlgjhnnaiaaOrdZ
set_option linter.unusedVariables false
set_option linter.unusedSimpArgs false
set_option maxRecDepth 100000
namespace Go.Proofs.Ytlandlgjhnnaiaa
open Go.RowKit SumMath
def bkRow (L : List UInt8) (a : Nat) : Obj := .cells (bkC L a).toArray 60 (0, 0)
def ndRow (k : Int) (vE vC vK vD : Value) (nx : Int) (d : ByteArray) : Obj := .cells #[.int .i64 k, vE, vC, vK, vD, .int .i64 nx, .string d] 26 (0, 0)
theorem num_in (L : List UInt8) (a k : Nat) (h : k + a ≤ 512) : num L a k = (leN (seg L a k), a + k) := by unfold num nxt; rw [if_pos h]
theorem num1_in (L : List UInt8) (a : Nat) (hl : L.length = 512) (h : a < 512) : num L a 1 = ((L.getD a 0).toNat, a + 1) := by
  rw [num_in L a 1 (by omega)]
  congr 1
  unfold seg
  rw [List.drop_eq_getElem_cons (by omega), List.take_succ_cons, List.take_zero, List.getD_eq_getElem?_getD, List.getElem?_eq_getElem (by omega)]
  simp [leN]
theorem num2_in (L : List UInt8) (a : Nat) (hl : L.length = 512) (h : a + 1 < 512) : num L a 2 = ((L.getD a 0).toNat + 256 * (L.getD (a + 1) 0).toNat, a + 2) := by
  rw [num_in L a 2 (by omega)]
  congr 1
  unfold seg
  rw [List.drop_eq_getElem_cons (by omega), List.take_succ_cons, List.drop_eq_getElem_cons (by omega), List.take_succ_cons, List.take_zero, List.getD_eq_getElem?_getD, List.getElem?_eq_getElem (by omega), List.getD_eq_getElem?_getD, List.getElem?_eq_getElem (by omega)]
  simp [leN]
theorem copy_bk2 (W : World) (g a : Nat) (M L : List UInt8) (A : Option Addr) (c : Nat) (h : BkAt W g M a) (hr : Rd W A 512 c L) :
    ∃ W2, (Builtin.copy_ #[31, 31] 3 #[.slice (some ⟨g, 0, none⟩) 512 512, .slice A 512 c]).run Try.prog W = .ok (.int .i64 512) W2 ∧ BkAt W2 g L a ∧ Only [g] W W2 := by
  have hL := hr.len
  have hM := h.len
  obtain ⟨b, o, rfl, hc⟩ := hr.at_ (by omega)
  have h9 := run_copy_row (P := Try.prog) W 31 31 3 5 g 0 512 512 ⟨b, o, none⟩ 512 c _ _ (bv L) Try.underlying31 sz_u8p h.row (by rw [bv_length, hL]; rfl) (fun j v hv => by
    have hj : j < L.length := by
      rcases Nat.lt_or_ge j L.length with h | h
      · exact h
      · simp [bv, List.getElem?_eq_none h] at hv
    rw [bv_get L j hj] at hv
    rw [Addr.add_mid, hc j (by omega), hv]) (by rw [bv_length, hL, List.size_toArray, bkC_len]; omega) (bv_one _)
  rw [bv_length, hL] at h9
  refine ⟨_, h9, ⟨?_, hL⟩, ⟨rfl, rfl, rfl, by simp [World.setRow], fun k hk hs => setRow_other W g k _ (fun e => hs (by simp [e]))⟩⟩
  rw [setRow_heap W g _ _ _ (0, 0) h.row]
  congr 2
  have := bkC_lay M 0 L hM (by omega) a
  rw [hL] at this
  rw [this]
  congr 2
  unfold splice
  rw [List.take_zero, List.nil_append, hL, Nat.zero_add, List.drop_of_length_le (by omega), List.append_nil]
/-- the loop's invariant: what is still to be read -/
theorem pEnts_stop (L : List UInt8) (m a : Nat) (h : m = 0 ∨ 512 < a) : pEnts L m a = ([], [], a) := by
  rcases h with rfl | h
  · rfl
  · cases m with
    | zero => rfl
    | succ m => rw [pEnts, if_pos h]
theorem pKeys_stop (L : List UInt8) (m a : Nat) (h : m = 0 ∨ 512 < a) : pKeys L m a = ([], [], a) := by
  rcases h with rfl | h
  · rfl
  · cases m with
    | zero => rfl
    | succ m => rw [pKeys, if_pos h]
def DecPost (w : World) (L : List UInt8) (e : Ending) (w' : World) : Prop :=
  ∃ vE vC vK vD, e = .returned (.tuple #[.agg (ndC (decN L).1 vE vC vK vD), .int .i64 (decN L).2]) ∧ NdO w' w.heap.size (decN L).1 vE vC vK vD ∧ Below w.heap.size w w'
theorem pg_Decode_size (A : Option Addr) (n c : Nat) (w : World) (hn : n ≠ 512) (hm : n ≤ 140737490452480) :
    Calls Try.prog 23 #[.slice A n c] w fun e w' => e = .returned (.tuple #[.agg (ndC zNd nilV nilV nilV nilV), .int .i64 61]) ∧ Below w.heap.size w w' := by
  have hne : ((n : Int) != 512) = true := by simp; omega
  clear hn
  go_enter Try.func23, Try.ntmps23
  go_wp2
  exact bodyPost_ret (results_cr2 rfl _ _ w.heap.size 26 (ndC zNd nilV nilV nilV nilV) (0, 0) _ rfl (heap_alloc_new w _) Try.underlying26 rfl sz_nd) rfl ⟨rfl, (Below.refl _ w).alloc (Nat.le_refl _) _⟩
theorem decN_bad {L : List UInt8} (h : ¬ (L.getD 0 0 = 181 ∧ (num L 4 4).1 = (sealL L).toNat ∧ (pNd L).2 ≤ 512 ∧ blankL L (pNd L).2 = true ∧ fitsN (pNd L).1 = true ∧ encN (pNd L).1 = L)) : decN L = (zNd, 2) := by
  unfold decN; rw [if_neg (fun h9 => h ((pageL_iff L).1 h9))]
theorem bad_end {w W : World} {R : List (Nat × Obj)} {i r : Nat} (h : Rw w W R) (hi : R[i]? = some (r, ndRow 0 nilV nilV nilV nilV 0 ⟨#[]⟩)) :
    (W.cell? ⟨r, 0, none⟩ = some (.int .i64 0) ∧ W.cell? ⟨r, 1, none⟩ = some nilV ∧ W.cell? ⟨r, 2, none⟩ = some nilV ∧ W.cell? ⟨r, 3, none⟩ = some nilV ∧ W.cell? ⟨r, 4, none⟩ = some nilV ∧ W.cell? ⟨r, 5, none⟩ = some (.int .i64 0) ∧ W.cell? ⟨r, 6, none⟩ = some (.string ⟨#[]⟩) ∧ r < W.heap.size) ∧
    (W.frozen? ⟨r, 0, none⟩ = false ∧ W.frozen? ⟨r, 1, none⟩ = false ∧ W.frozen? ⟨r, 2, none⟩ = false ∧ W.frozen? ⟨r, 3, none⟩ = false ∧ W.frozen? ⟨r, 4, none⟩ = false ∧ W.frozen? ⟨r, 5, none⟩ = false ∧ W.frozen? ⟨r, 6, none⟩ = false) ∧
    (put7 W r zNd nilV nilV nilV nilV).heap[r]? = some (.cells (ndC zNd nilV nilV nilV nilV) 26 (0, 0)) ∧ Below w.heap.size w (put7 W r zNd nilV nilV nilV nilV) := by
  have hrow : W.heap[r]? = some (.cells (ndC zNd nilV nilV nilV nilV) 26 (0, 0)) := h.get i hi
  exact ⟨cell7 (n := zNd) hrow, free7 hrow, row7 (n := zNd) (m := zNd) hrow, h.bl.trans (only7.below h.bl.size (by simpa using h.geq i hi))⟩
theorem pEnt_at (L : List UInt8) (a : Nat) (ha : a ≤ 513) : (pEnt L a).2.2 ≤ 513 := by
  rw [pEnt_def L a _ _ _ rfl rfl rfl]
  have h1 := num_at L a 1 ha
  have h2 := num_at L _ 1 h1
  split
  · exact num_at L _ 4 (nxt_at L _ _ h2)
  · exact nxt_at L _ _ (nxt_at L _ _ h2)
theorem pKey_at (L : List UInt8) (a : Nat) (ha : a ≤ 513) : (pKey L a).2.2 ≤ 513 := by
  unfold pKey
  exact num_at L _ 4 (nxt_at L _ _ (num_at L a 1 ha))
theorem pKey_def (L : List UInt8) (a : Nat) (k : Nat × Nat) (s : List UInt8 × Nat) (hk : k = num L a 1) (hs : s = nxt L k.2 k.1) : pKey L a = (strS s.1, ((num L s.2 4).1 : Int), (num L s.2 4).2) := by
  subst hk
  subst hs
  rfl
theorem info_int_parts : ∃ iI : TypeInfo, Try.prog.info? 3 = some iI ∧ iI.zero = some (.int .i64 0) ∧ iI.size = 1 ∧ iI.bytes = 8 := by
  obtain ⟨iI, hiI, hzz⟩ := Option.map_eq_some_iff.1 info_int
  simp only [Prod.mk.injEq] at hzz
  exact ⟨iI, hiI, hzz.1, hzz.2.1, hzz.2.2⟩
theorem info_str_parts : ∃ iI : TypeInfo, Try.prog.info? 9 = some iI ∧ iI.zero = some (.string ⟨#[]⟩) ∧ iI.size = 1 ∧ iI.bytes = 16 := by
  obtain ⟨iI, hiI, hzz⟩ := Option.map_eq_some_iff.1 info_str
  simp only [Prod.mk.injEq] at hzz
  exact ⟨iI, hiI, hzz.1, hzz.2.1, hzz.2.2⟩
theorem QV.len {t : TypeId} {sz n : Nat} {vs : List Value} {v : Value} {Q : List (Nat × Obj)} (h : QV t sz v n vs Q) : vs.length = n * sz := by
  rcases h with ⟨rfl, rfl, rfl, rfl⟩ | ⟨k, c, o, rfl, rfl, hr⟩
  · simp
  · obtain ⟨cur, _, h1, _⟩ := hr; exact h1
/-- what the inner page's loop keeps -/
def IInv (w : World) (r q g : Nat) (L : List UInt8) (cn k : Nat) (W : World) : Prop :=
  ∃ (ks : List ByteArray) (ds : List Int) (a : Nat) (vK vD : Value) (QK QD : List (Nat × Obj)), Rw w W ((q, ndRow 2 nilV nilV vK vD 0 ⟨#[]⟩) :: (g, bkRow L a) :: (r, ndRow 0 nilV nilV nilV nilV 0 ⟨#[]⟩) :: (QK ++ (QD ++ []))) ∧ QV 9 1 vK k (tv ks) QK ∧ QV 3 1 vD (k + 1) (iv_ ds) QD ∧ ks.length = k ∧
    (∃ ds2, ds = ((num L 8 4).1 : Int) :: ds2 ∧ pKeys L cn (num L 8 4).2 = (ks ++ (pKeys L (cn - k) a).1, ds2 ++ (pKeys L (cn - k) a).2.1, (pKeys L (cn - k) a).2.2)) ∧ a ≤ 513
/-- what the leaf's loop keeps -/
def LInv (w : World) (r q g : Nat) (L : List UInt8) (cn k : Nat) (W : World) : Prop :=
  ∃ (es : List En) (cs : List Int) (a : Nat) (vE vC : Value) (QE QC : List (Nat × Obj)), Rw w W ((q, ndRow 1 vE vC nilV nilV 0 ⟨#[]⟩) :: (g, bkRow L a) :: (r, ndRow 0 nilV nilV nilV nilV 0 ⟨#[]⟩) :: (QE ++ (QC ++ []))) ∧ QV 46 2 vE k (ev es) QE ∧ QV 3 1 vC k (iv_ cs) QC ∧ es.length = k ∧ cs.length = k ∧ a ≤ 513 ∧
    pEnts L cn 8 = (es ++ (pEnts L (cn - k) a).1, cs ++ (pEnts L (cn - k) a).2.1, (pEnts L (cn - k) a).2.2)
set_option maxHeartbeats 8000000 in
theorem pg_Decode (A : Option Addr) (c : Nat) (L : List UInt8) (w : World) (hr : Rd w A 512 c L) :
    Calls Try.prog 23 #[.slice A 512 c] w (DecPost w L) := by
  have HR := Lib.hid hr
  have HL := Lib.hid hr.len
  clear hr
  obtain ⟨r, hrr⟩ : ∃ r, r = w.heap.size := ⟨_, rfl⟩
  obtain ⟨W0, hW0⟩ : ∃ W0, W0 = w.alloc (ndRow 0 nilV nilV nilV nilV 0 ⟨#[]⟩) := ⟨_, rfl⟩
  have HS0 := Lib.hid (show Rw w W0 [(r, ndRow 0 nilV nilV nilV nilV 0 ⟨#[]⟩)] by rw [hW0, hrr]; exact (Rw.start w).made _)
  have hbd := build_bk
  have hzc : Try.zeroCells60 = (bkC (List.replicate 512 0) 0).toArray := by rw [bkC_zero]; kernel_rfl
  obtain ⟨X, hX⟩ : ∃ X, X = (bkC (List.replicate 512 0) 0).toArray := ⟨_, rfl⟩
  have HX := Lib.hid (show ∀ W g (_ : (W : World).heap[g]? = some (.cells X 60 (0, 0))), BkAt W g (List.replicate 512 0) 0 from fun W g h => ⟨by rw [← hX]; exact h, by simp⟩)
  rw [← hX] at hbd hzc
  clear hX
  go_enter Try.func23, Try.ntmps23
  go_upto_region 3 with fail
  rw [← hrr]
  unfold ndRow nilV at hW0
  rw [← hW0]
  clear hW0 hrr
  refine wp_region_lit ?_
  refine wpl_val rfl (.agg X) W0 ?_ ?_
  · go_simp
  refine wpl_val rfl (.pointer (some ⟨W0.heap.size, 0, none⟩)) (W0.alloc (.cells X 60)) ?_ ?_
  · rfl
  obtain ⟨g, hg⟩ : ∃ g, g = W0.heap.size := ⟨_, rfl⟩
  obtain ⟨W1, hW1⟩ : ∃ W1, W1 = W0.alloc (.cells X 60) := ⟨_, rfl⟩
  have HS1 := Lib.hid (show Rw w W1 [(g, .cells X 60), (r, ndRow 0 nilV nilV nilV nilV 0 ⟨#[]⟩)] by rw [hW1, hg]; exact HS0.out.made _)
  have HB1 := Lib.hid (HX.out W1 g (HS1.out.get 0 rfl))
  rw [← hW1, ← hg]
  clear hW1 hg hbd hzc
  obtain ⟨W2, hcp, hB2, hO2⟩ := copy_bk2 W1 g 0 _ L A c HB1.out (HR.out.ext HS1.out.bl)
  have HS2 := Lib.hid (show Rw w W2 [(g, bkRow L 0), (r, ndRow 0 nilV nilV nilV nilV 0 ⟨#[]⟩)] from HS1.out.upd 0 rfl hO2 hB2.row)
  have hsl := sl_all g
  have HC3 := Lib.hid (pg_number g 0 1 L W2 hB2 (by decide) (by decide))
  rw [num1_in L 0 HL.out (by decide)] at HC3
  clear hB2 hO2
  go_wp2_with fail
  clear hcp hsl
  refine HC3.out.mono ?_
  rintro e W3 ⟨rfl, hB, hO⟩
  have HS3 := Lib.hid (show Rw w W3 [(g, bkRow L 1), (r, ndRow 0 nilV nilV nilV nilV 0 ⟨#[]⟩)] from HS2.out.upd 0 rfl hO hB.row)
  have HC4 := Lib.hid (pg_number g 1 1 L W3 hB (by decide) (by decide))
  rw [num1_in L 1 HL.out (by decide)] at HC4
  clear hB hO HC3
  obtain ⟨x0, hx0⟩ : ∃ x0, x0 = L.getD 0 0 := ⟨_, rfl⟩
  have HX0 := Lib.hid hx0
  rw [← hx0]
  clear hx0
  go_wp2_with fail
  refine HC4.out.mono ?_
  rintro e W4 ⟨rfl, hB, hO⟩
  have HS4 := Lib.hid (show Rw w W4 [(g, bkRow L 2), (r, ndRow 0 nilV nilV nilV nilV 0 ⟨#[]⟩)] from HS3.out.upd 0 rfl hO hB.row)
  have HC5 := Lib.hid (pg_number g 2 2 L W4 hB (by decide) (by decide))
  rw [num2_in L 2 HL.out (by decide)] at HC5
  obtain ⟨kd, hkd⟩ : ∃ kd, kd = kindL L := ⟨_, rfl⟩
  obtain ⟨cn, hcn⟩ : ∃ cn, cn = cntL L := ⟨_, rfl⟩
  rw [show (L.getD 2 0).toNat + 256 * (L.getD (2 + 1) 0).toNat = cn from hcn.symm] at HC5
  rw [show (L.getD 1 0).toNat = kd from hkd.symm]
  have hcb : cn ≤ 65535 := by
    rw [hcn]; unfold cntL
    have := u8_lt (L.getD 2 0)
    have := u8_lt (L.getD 3 0)
    omega
  have HKD := Lib.hid hkd
  have HCN := Lib.hid hcn
  clear hB hO HC4 hkd hcn
  go_wp2_with fail
  refine HC5.out.mono ?_
  rintro e W5 ⟨rfl, hB, hO⟩
  have HS5 := Lib.hid (show Rw w W5 [(g, bkRow L 4), (r, ndRow 0 nilV nilV nilV nilV 0 ⟨#[]⟩)] from HS4.out.upd 0 rfl hO hB.row)
  clear hB hO HC5
  obtain ⟨q, hq⟩ : ∃ q, q = W5.heap.size := ⟨_, rfl⟩
  obtain ⟨W6, hW6⟩ : ∃ W6, W6 = W5.alloc (ndRow kd nilV nilV nilV nilV 0 ⟨#[]⟩) := ⟨_, rfl⟩
  have HS6 := Lib.hid (show Rw w W6 [(q, ndRow kd nilV nilV nilV nilV 0 ⟨#[]⟩), (g, bkRow L 4), (r, ndRow 0 nilV nilV nilV nilV 0 ⟨#[]⟩)] by rw [hW6, hq]; exact HS5.out.made _)
  go_upto_region 7 with fail
  unfold ndRow nilV at hW6
  rw [← hW6, ← hq]
  clear hW6 hq
  by_cases h181 : x0 = 181
  rotate_left
  · have hne : ((x0.toNat : Int) != 181) = true := by
      have : x0.toNat ≠ 181 := fun e => h181 (UInt8.toNat_inj.1 (by rw [e]; rfl))
      simp; omega
    have HD := Lib.hid (decN_bad (L := L) (fun h => h181 (HX0.out.trans h.1)))
    clear h181
    have b7 := bad_end HS6.out (i := 2) rfl
    have c7 := b7.1
    have f7 := b7.2.1
    have HB7 := Lib.hid b7.2.2
    clear b7
    unfold nilV at c7
    go_wp2
    exact bodyPost_ret (results_cr2 rfl _ _ r 26 (ndC zNd nilV nilV nilV nilV) (0, 0) _ rfl HB7.out.1 Try.underlying26 rfl sz_nd) rfl ⟨nilV, nilV, nilV, nilV, by rw [HD.out]; rfl, by rw [HD.out]; exact NdO.zero _ _, HB7.out.2⟩
  have hne : ((x0.toNat : Int) != 181) = false := by rw [h181]; rfl
  have HC7 := Lib.hid (pg_number g 4 4 L W6 ⟨HS6.out.get 1 rfl, HL.out⟩ (by decide) (by decide))
  obtain ⟨v, hv⟩ : ∃ v, v = (num L 4 4).1 := ⟨_, rfl⟩
  have hv4 : v < 4294967296 := by rw [hv]; exact num_lt L 4 4
  rw [← hv, show (num L 4 4).2 = 8 by rw [num_in L 4 4 (by decide)]] at HC7
  have HV := Lib.hid hv
  have H181 := Lib.hid (show L.getD 0 0 = 181 by rw [← HX0.out]; exact h181)
  have hwv : IntKind.u32.wrap (v : Int) = (v : Int) := by
    show (v : Int) % 4294967296 = _
    omega
  clear hv h181
  go_wp2_with fail
  refine HC7.out.mono ?_
  rintro e W7 ⟨rfl, hB, hO⟩
  have HS7 := Lib.hid (show Rw w W7 [(q, ndRow kd nilV nilV nilV nilV 0 ⟨#[]⟩), (g, bkRow L 8), (r, ndRow 0 nilV nilV nilV nilV 0 ⟨#[]⟩)] from HS6.out.upd 1 rfl hO hB.row)
  have HC8 := Lib.hid (pg_seal A c L W7 (HR.out.ext HS7.out.bl))
  clear hB hO HC7
  go_wp2_with fail
  refine HC8.out.mono ?_
  rintro e W8 ⟨rfl, hB⟩
  have HS8 := Lib.hid (HS7.out.below hB)
  have hsl := (sealL L).isLt
  obtain ⟨sl, hsl9⟩ : ∃ sl, sl = (sealL L).toNat := ⟨_, rfl⟩
  rw [← hsl9] at hsl ⊢
  clear hB HC8
  by_cases hvs : v = sl
  rotate_left
  · have hne2 : ((v : Int) != (sl : Int)) = true := by simp; omega
    have HD := Lib.hid (decN_bad (L := L) (fun h => hvs (by rw [HV.out, hsl9]; exact h.2.1)))
    clear hvs hsl9
    have b7 := bad_end HS8.out (i := 2) rfl
    have c7 := b7.1
    have f7 := b7.2.1
    have HB7 := Lib.hid b7.2.2
    clear b7
    unfold nilV at c7
    go_wp2
    exact bodyPost_ret (results_cr2 rfl _ _ r 26 (ndC zNd nilV nilV nilV nilV) (0, 0) _ rfl HB7.out.1 Try.underlying26 rfl sz_nd) rfl ⟨nilV, nilV, nilV, nilV, by rw [HD.out]; rfl, by rw [HD.out]; exact NdO.zero _ _, HB7.out.2⟩
  have HVS := Lib.hid (show (num L 4 4).1 = (sealL L).toNat by rw [← HV.out, ← hsl9]; exact hvs)
  subst hvs
  clear hsl9 hwv hne hv4
  by_cases k1 : kd = 1
  · subst k1
    have HI0 := Lib.hid (show LInv w r q g L cn 0 W8 from ⟨[], [], 8, nilV, nilV, [], [], HS8.out, QV.nil _ _, QV.nil _ _, rfl, rfl, by decide, by simp⟩)
    go_wp2_with fail
    go_loopw [9, 10, 11] (fun x _ _ wr => ∃ k : Nat, k ≤ cn ∧ x = .int .i64 k ∧ LInv w r q g L cn k wr) (fun x _ _ _ => cn - (intOf x).toNat)
    case atStart => exact ⟨0, by omega, rfl, HI0.out⟩
    case round =>
      obtain ⟨k, hk, rfl, es, cs, a, vE, vC, QE, QC, hS, hqE, hqC, hes, hcs, ha, hP⟩ := hrel
      have HS := Lib.hid hS
      have HQE := Lib.hid hqE
      have HQC := Lib.hid hqC
      have HES := Lib.hid hes
      have HCS := Lib.hid hcs
      have HP := Lib.hid hP
      have HA := Lib.hid ha
      have HBK := Lib.hid (show BkAt wr g L a from ⟨hS.get 1 rfl, HL.out⟩)
      clear hS hqE hqC hes hcs hP ha
      by_cases hkn : k < cn
      · have hk0 : (0 : Int) ≤ (k : Int) ∧ (k : Int) < (cn : Int) := by omega
        have HC1 := Lib.hid (pg_short g a L wr HBK.out)
        by_cases hsh : 512 < a
        · rw [decide_eq_true hsh] at HC1
          have HPE := Lib.hid (show pEnts L cn 8 = (es, cs, a) by rw [HP.out, pEnts_stop L _ a (.inr hsh)]; simp)
          have HSH := Lib.hid hsh
          clear hsh
          go_wp2_with fail
          refine HC1.out.mono ?_
          rintro e w3 ⟨rfl, rfl⟩
          clear HSH HBK HC1
          obtain ⟨AE, cE, rfl⟩ := HQE.out.slice
          obtain ⟨AC, cC, rfl⟩ := HQC.out.slice
          have HLB := Lib.hid (show k ≤ 65535 ∧ es.length = k ∧ cs.length = k from ⟨by omega, HES.out, HCS.out⟩)
          have HPN := Lib.hid (show pNd L = ((⟨1, es, cs, [], [], 0, noS⟩ : Nd), a) by
            unfold pNd
            rw [if_pos HKD.out.symm, ← HCN.out, HPE.out])
          have HNO := Lib.hid (show ∀ (V : World) (o1 o2 o3 : Obj), Rw w V ((q, o1) :: (g, o2) :: (r, o3) :: (QE ++ (QC ++ []))) → NdO V w.heap.size (⟨1, es, cs, [], [], 0, noS⟩ : Nd) (.slice AE k cE) (.slice AC k cC) nilV nilV from fun V o1 o2 o3 h =>
            ⟨by have h1 := HQE.out.ownsB (w := V) (base := w.heap.size) (fun p hp => h.all p (by simp [hp])) (fun p hp => h.ge p (by simp [hp])); rw [HES.out]; exact h1,
             by have h1 := HQC.out.ownsB (w := V) (base := w.heap.size) (fun p hp => h.all p (by simp [hp])) (fun p hp => h.ge p (by simp [hp])); rw [HCS.out]; exact h1, OwnT.nil _ _, OwnI.nil _ _⟩)
          have HS20 := Lib.hid (show Rw w w3 ((q, ndRow 1 (.slice AE k cE) (.slice AC k cC) nilV nilV 0 noS) :: (g, bkRow L a) :: (r, ndRow 0 nilV nilV nilV nilV 0 ⟨#[]⟩) :: (QE ++ (QC ++ []))) from HS.out)
          have HSH := Lib.hid (pg_short g a L w3 ⟨HS20.out.get 1 rfl, HL.out⟩)
          by_cases hfs : 512 < a
          · rw [decide_eq_true hfs] at HSH
            have HD := Lib.hid (decN_bad (L := L) (fun h => by have h1 := h.2.2.1; rw [HPN.out] at h1; dsimp only at h1; omega))
            clear hfs
            go_wp2_with fail
            refine HSH.out.mono ?_
            rintro e w21 ⟨rfl, rfl⟩
            have b7 := bad_end HS20.out (i := 2) rfl
            have c7 := b7.1
            have f7 := b7.2.1
            have HB7 := Lib.hid b7.2.2
            clear b7
            unfold nilV at c7
            go_wp2
            exact bodyPost_ret (results_cr2 rfl _ _ r 26 (ndC zNd nilV nilV nilV nilV) (0, 0) _ rfl HB7.out.1 Try.underlying26 rfl sz_nd) rfl ⟨nilV, nilV, nilV, nilV, by rw [HD.out]; rfl, by rw [HD.out]; exact NdO.zero _ _, HB7.out.2⟩
          rw [decide_eq_false hfs] at HSH
          have HBL := Lib.hid (pg_blank g a L w3 ⟨HS20.out.get 1 rfl, HL.out⟩ (by omega))
          have HAL := Lib.hid (show a ≤ 512 by omega)
          clear hfs
          go_wp2_with fail
          refine HSH.out.mono ?_
          rintro e w21 ⟨rfl, rfl⟩
          go_wp2_with fail
          refine HBL.out.mono ?_
          rintro e W22 ⟨rfl, -, hO⟩
          have HS22 := Lib.hid (HS20.out.below (hO.below (Nat.le_refl _) (by simp)))
          clear hO
          obtain ⟨bl, hbl⟩ : ∃ bl, bl = blankL L a := ⟨_, rfl⟩
          rw [← hbl]
          have HBB := Lib.hid hbl
          clear hbl
          cases bl
          · have HD := Lib.hid (decN_bad (L := L) (fun h => by have h1 := h.2.2.2.1; rw [HPN.out] at h1; rw [← HBB.out] at h1; cases h1))
            have b7 := bad_end HS22.out (i := 2) rfl
            have c7 := b7.1
            have f7 := b7.2.1
            have HB7 := Lib.hid b7.2.2
            clear b7
            unfold nilV at c7
            go_wp2
            exact bodyPost_ret (results_cr2 rfl _ _ r 26 (ndC zNd nilV nilV nilV nilV) (0, 0) _ rfl HB7.out.1 Try.underlying26 rfl sz_nd) rfl ⟨nilV, nilV, nilV, nilV, by rw [HD.out]; rfl, by rw [HD.out]; exact NdO.zero _ _, HB7.out.2⟩
          have HN22 := Lib.hid ((HNO.out W22 _ _ _ HS22.out).rd (by have := HLB.out; dsimp only; (try simp only [List.length_nil]); (try omega)) (by have := HLB.out; dsimp only; (try simp only [List.length_nil]); (try omega)) (by have := HLB.out; dsimp only; (try simp only [List.length_nil]); (try omega)) (by have := HLB.out; dsimp only; (try simp only [List.length_nil]); (try omega)))
          have HFT := Lib.hid (pg_Fits (⟨1, es, cs, [], [], 0, noS⟩ : Nd) (.slice AE k cE) (.slice AC k cC) nilV nilV W22 HN22.out)
          obtain ⟨ft, hft⟩ : ∃ ft, ft = fitsN (⟨1, es, cs, [], [], 0, noS⟩ : Nd) := ⟨_, rfl⟩
          rw [← hft] at HFT
          have HFF := Lib.hid hft
          clear hft
          unfold ndC at HFT
          dsimp only at HFT
          have c7 := cell7 (n := (⟨1, es, cs, [], [], 0, noS⟩ : Nd)) (vE := (.slice AE k cE)) (vC := (.slice AC k cC)) (vK := nilV) (vD := nilV) (HS22.out.get 0 rfl)
          dsimp only at c7
          go_wp2_with fail
          clear c7
          refine HFT.out.mono ?_
          rintro e W23 ⟨rfl, hB⟩
          have HS23 := Lib.hid (HS22.out.below hB)
          have HN23 := Lib.hid (HN22.out.ext hB)
          clear hB
          cases ft
          · have HD := Lib.hid (decN_bad (L := L) (fun h => by have h1 := h.2.2.2.2.1; rw [HPN.out] at h1; rw [← HFF.out] at h1; cases h1))
            have b7 := bad_end HS23.out (i := 2) rfl
            have c7 := b7.1
            have f7 := b7.2.1
            have HB7 := Lib.hid b7.2.2
            clear b7
            unfold nilV at c7
            go_wp2
            exact bodyPost_ret (results_cr2 rfl _ _ r 26 (ndC zNd nilV nilV nilV nilV) (0, 0) _ rfl HB7.out.1 Try.underlying26 rfl sz_nd) rfl ⟨nilV, nilV, nilV, nilV, by rw [HD.out]; rfl, by rw [HD.out]; exact NdO.zero _ _, HB7.out.2⟩
          have HSB := Lib.hid (pg_sameBytes (⟨1, es, cs, [], [], 0, noS⟩ : Nd) (.slice AE k cE) (.slice AC k cC) nilV nilV A c L W23 HN23.out (HR.out.ext HS23.out.bl) HFF.out.symm)
          obtain ⟨sb, hsb⟩ : ∃ sb, sb = decide (encN (⟨1, es, cs, [], [], 0, noS⟩ : Nd) = L) := ⟨_, rfl⟩
          rw [← hsb] at HSB
          have HBD := Lib.hid hsb
          clear hsb
          unfold ndC at HSB
          dsimp only at HSB
          have c7 := cell7 (n := (⟨1, es, cs, [], [], 0, noS⟩ : Nd)) (vE := (.slice AE k cE)) (vC := (.slice AC k cC)) (vK := nilV) (vD := nilV) (HS23.out.get 0 rfl)
          dsimp only at c7
          go_wp2_with fail
          clear c7
          refine HSB.out.mono ?_
          rintro e W24 ⟨rfl, hB⟩
          have HS24 := Lib.hid (HS23.out.below hB)
          clear hB
          cases sb
          · have HD := Lib.hid (decN_bad (L := L) (fun h => by have h1 := h.2.2.2.2.2; rw [HPN.out] at h1; have h2 := HBD.out; rw [decide_eq_true h1] at h2; cases h2))
            have b7 := bad_end HS24.out (i := 2) rfl
            have c7 := b7.1
            have f7 := b7.2.1
            have HB7 := Lib.hid b7.2.2
            clear b7
            unfold nilV at c7
            go_wp2
            exact bodyPost_ret (results_cr2 rfl _ _ r 26 (ndC zNd nilV nilV nilV nilV) (0, 0) _ rfl HB7.out.1 Try.underlying26 rfl sz_nd) rfl ⟨nilV, nilV, nilV, nilV, by rw [HD.out]; rfl, by rw [HD.out]; exact NdO.zero _ _, HB7.out.2⟩
          have HD := Lib.hid (show decN L = ((⟨1, es, cs, [], [], 0, noS⟩ : Nd), 0) by
            unfold decN
            rw [if_pos ((pageL_iff L).2 (by rw [HPN.out]; exact ⟨H181.out, HVS.out, HAL.out, HBB.out.symm, HFF.out.symm, of_decide_eq_true HBD.out.symm⟩)), HPN.out])
          have c7 := cell7 (n := (⟨1, es, cs, [], [], 0, noS⟩ : Nd)) (vE := (.slice AE k cE)) (vC := (.slice AC k cC)) (vK := nilV) (vD := nilV) (HS24.out.get 0 rfl)
          dsimp only at c7
          have b7 := bad_end HS24.out (i := 2) rfl
          have d7 := b7.1
          have f7 := b7.2.1
          clear b7
          obtain ⟨W26, hW26⟩ : ∃ W26, W26 = ((((((W24.setCell ⟨r, 0, none⟩ (.int .i64 1)).setCell ⟨r, 1, none⟩ ((.slice AE k cE))).setCell ⟨r, 2, none⟩ ((.slice AC k cC))).setCell ⟨r, 3, none⟩ (.slice none 0 0)).setCell ⟨r, 4, none⟩ (.slice none 0 0)).setCell ⟨r, 5, none⟩ (.int .i64 0)).setCell ⟨r, 6, none⟩ (.string noS) := ⟨_, rfl⟩
          have hp7 : put7 W24 r (⟨1, es, cs, [], [], 0, noS⟩ : Nd) (.slice AE k cE) (.slice AC k cC) nilV nilV = W26 := by rw [hW26]; rfl
          have HS26 := Lib.hid (show Rw w W26 ((q, ndRow 1 (.slice AE k cE) (.slice AC k cC) nilV nilV 0 noS) :: (g, bkRow L a) :: (r, .cells (ndC (⟨1, es, cs, [], [], 0, noS⟩ : Nd) (.slice AE k cE) (.slice AC k cC) nilV nilV) 26 (0, 0)) :: (QE ++ (QC ++ []))) by rw [← hp7]; exact HS24.out.upd 2 rfl only7 (row7 (n := zNd) (m := (⟨1, es, cs, [], [], 0, noS⟩ : Nd)) (HS24.out.get 2 rfl)))
          clear hp7
          unfold nilV at d7 c7
          go_wp2
          rw [← hW26]
          clear hW26 c7 d7 f7
          have hrow := HS26.out.get 2 rfl
          refine bodyPost_ret (results_cr2 rfl _ _ r 26 (ndC (⟨1, es, cs, [], [], 0, noS⟩ : Nd) (.slice AE k cE) (.slice AC k cC) nilV nilV) (0, 0) _ rfl hrow Try.underlying26 rfl sz_nd) rfl ?_
          refine ⟨(.slice AE k cE), (.slice AC k cC), nilV, nilV, ?_, ?_, HS26.out.bl⟩
          · rw [HD.out]; rfl
          · rw [HD.out]; exact HNO.out _ _ _ _ HS26.out
        · rw [decide_eq_false hsh] at HC1
          have HPK := Lib.hid (show pEnts L (cn - k) a = ((pEnt L a).1 :: (pEnts L (cn - (k + 1)) (pEnt L a).2.2).1, (pEnt L a).2.1 :: (pEnts L (cn - (k + 1)) (pEnt L a).2.2).2.1, (pEnts L (cn - (k + 1)) (pEnt L a).2.2).2.2) by
            rw [show cn - k = (cn - (k + 1)) + 1 by omega, pEnts, if_neg hsh])
          clear hsh
          go_wp2_with fail
          refine HC1.out.mono ?_
          rintro e w3 ⟨rfl, rfl⟩
          have HC2 := Lib.hid (pg_entry g a L w3 HBK.out HA.out)
          go_wp2_with fail
          refine HC2.out.mono ?_
          rintro e w4 ⟨rfl, hB, hO⟩
          have HA2 := Lib.hid (show (pEnt L a).2.2 ≤ 513 from pEnt_at L a HA.out)
          have HS4 := Lib.hid (HS.out.upd 1 rfl hO hB.row)
          clear hB hO HC1 HC2
          obtain ⟨xx, hxx⟩ : ∃ xx, xx = (pEnt L a).1 := ⟨_, rfl⟩
          obtain ⟨cc, hcc⟩ : ∃ cc, cc = (pEnt L a).2.1 := ⟨_, rfl⟩
          obtain ⟨a2, ha2⟩ : ∃ a2, a2 = (pEnt L a).2.2 := ⟨_, rfl⟩
          have HPN := Lib.hid (show pEnts L cn 8 = ((es ++ [xx]) ++ (pEnts L (cn - (k + 1)) a2).1, (cs ++ [cc]) ++ (pEnts L (cn - (k + 1)) a2).2.1, (pEnts L (cn - (k + 1)) a2).2.2) by
            rw [HP.out, HPK.out, hxx, hcc, ha2]; simp)
          rw [← hxx, ← hcc]
          rw [← ha2] at HA2 HS4
          clear hxx hcc ha2 HPK HP
          obtain ⟨key, val⟩ := xx
          unfold enC
          dsimp only
          obtain ⟨x, hx⟩ : ∃ x, x = w4.heap.size := ⟨_, rfl⟩
          obtain ⟨V0, hV0⟩ : ∃ V0, V0 = w4.alloc (.cells #[.string key, .string val] 46) := ⟨_, rfl⟩
          have HSV0 := Lib.hid (show Rw w V0 ((x, .cells #[.string key, .string val] 46 (0, 0)) :: (q, ndRow 1 vE vC nilV nilV 0 ⟨#[]⟩) :: (g, bkRow L a2) :: (r, ndRow 0 nilV nilV nilV nilV 0 ⟨#[]⟩) :: (QE ++ (QC ++ []))) by rw [hV0, hx]; exact (show Rw w w4 ((q, ndRow 1 vE vC nilV nilV 0 ⟨#[]⟩) :: (g, bkRow L a2) :: (r, ndRow 0 nilV nilV nilV nilV 0 ⟨#[]⟩) :: (QE ++ (QC ++ []))) from HS4.out).made _)
          go_upto_region 15 with fail
          rw [← hV0, ← hx]
          clear hV0 hx
          obtain ⟨Vd, hVd⟩ : ∃ Vd, Vd = V0.drew := ⟨_, rfl⟩
          have HSVd := Lib.hid (show Rw w Vd ((x, .cells #[.string key, .string val] 46 (0, 0)) :: (q, ndRow 1 vE vC nilV nilV 0 ⟨#[]⟩) :: (g, bkRow L a2) :: (r, ndRow 0 nilV nilV nilV nilV 0 ⟨#[]⟩) :: (QE ++ (QC ++ []))) by rw [hVd]; exact HSV0.out.drew)
          have hT : Vd.cell? ⟨q, 1, none⟩ = some vE ∧ Vd.cell? ⟨q, 2, none⟩ = some vC ∧ Vd.cell? ⟨x, 0, none⟩ = some (.string key) ∧ Vd.cell? ⟨x, 1, none⟩ = some (.string val) := ⟨cell_of_row _ q 1 _ _ _ (HSVd.out.get 1 rfl), cell_of_row _ q 2 _ _ _ (HSVd.out.get 1 rfl), cell_of_row _ x 0 _ _ _ (HSVd.out.get 0 rfl), cell_of_row _ x 1 _ _ _ (HSVd.out.get 0 rfl)⟩
          obtain ⟨iE, hiE, hzz⟩ := Option.map_eq_some_iff.1 info_en
          simp only [Prod.mk.injEq] at hzz
          have HIE := Lib.hid (And.intro hiE (And.intro hzz.1 (And.intro hzz.2.1 hzz.2.2)))
          clear hiE hzz
          obtain ⟨iI, hiI, hzz⟩ := Option.map_eq_some_iff.1 info_int
          simp only [Prod.mk.injEq] at hzz
          have HII := Lib.hid (And.intro hiI (And.intro hzz.1 (And.intro hzz.2.1 hzz.2.2)))
          clear hiI hzz
          refine wp_region_z (fun w' => True) (fun w' => w'.cell? ⟨q, 1, none⟩ = some vE ∧ w'.cell? ⟨q, 2, none⟩ = some vC ∧ w'.cell? ⟨x, 0, none⟩ = some (.string key) ∧ w'.cell? ⟨x, 1, none⟩ = some (.string val)) 11 (by kernel_rfl) ?_
          rw [← hVd]
          clear hVd
          refine wpAnyZ.takeN (i := 0) (v := .pointer (some ⟨q, 1, none⟩)) rfl (by kernel_rfl) (by kernel_rfl) (by kernel_rfl) (by decide) (fun _ _ _ h => h) (by rfl) (fun w => ?zy) trivial (fun _ => hT) ?_
          case zy => (go_simp)
          (try simp only [Act.put, List.getElem_toArray, List.getElem_cons_zero, List.getElem_cons_succ, List.setIfInBounds_toArray, List.set_cons_zero, List.set_cons_succ])
          refine wpAnyZ.take (i := 1) (v := vE) (U := fun w' => w'.cell? ⟨q, 1, none⟩ = some vE ∧ w'.cell? ⟨q, 2, none⟩ = some vC ∧ w'.cell? ⟨x, 0, none⟩ = some (.string key) ∧ w'.cell? ⟨x, 1, none⟩ = some (.string val)) rfl (by kernel_rfl) (by kernel_rfl) (by kernel_rfl) (by decide) (fun _ _ _ h => h) (.inr ⟨fun _ h => h, by kernel_rfl⟩) (.inl (by kernel_rfl)) (.inl ⟨by rfl, fun w hw => ?zy⟩) hT trivial (fun _ => hT) ?_
          case zy => (obtain ⟨hw1, hw2, hw3, hw4⟩ := hw; go_simp)
          (try simp only [Act.put, List.getElem_toArray, List.getElem_cons_zero, List.getElem_cons_succ, List.setIfInBounds_toArray, List.set_cons_zero, List.set_cons_succ])
          refine wpAnyZ.take (i := 2) (v := .agg #[.string key, .string val]) (U := fun w' => w'.cell? ⟨q, 1, none⟩ = some vE ∧ w'.cell? ⟨q, 2, none⟩ = some vC ∧ w'.cell? ⟨x, 0, none⟩ = some (.string key) ∧ w'.cell? ⟨x, 1, none⟩ = some (.string val)) rfl (by kernel_rfl) (by kernel_rfl) (by kernel_rfl) (by decide) (fun _ _ _ h => h) (.inr ⟨fun _ h => h, by kernel_rfl⟩) (.inl (by kernel_rfl)) (.inl ⟨by rfl, fun w hw => ?zy⟩) hT trivial (fun _ => hT) ?_
          case zy => (obtain ⟨hw1, hw2, hw3, hw4⟩ := hw; go_simp)
          (try simp only [Act.put, List.getElem_toArray, List.getElem_cons_zero, List.getElem_cons_succ, List.setIfInBounds_toArray, List.set_cons_zero, List.set_cons_succ])
          refine wpAnyZ.takeN (i := 5) (v := .pointer (some ⟨q, 2, none⟩)) rfl (by kernel_rfl) (by kernel_rfl) (by kernel_rfl) (by decide) (fun _ _ _ h => h) (by rfl) (fun w => ?zy) trivial (fun _ => hT) ?_
          case zy => (go_simp)
          (try simp only [Act.put, List.getElem_toArray, List.getElem_cons_zero, List.getElem_cons_succ, List.setIfInBounds_toArray, List.set_cons_zero, List.set_cons_succ])
          refine wpAnyZ.take (i := 6) (v := vC) (U := fun w' => w'.cell? ⟨q, 1, none⟩ = some vE ∧ w'.cell? ⟨q, 2, none⟩ = some vC ∧ w'.cell? ⟨x, 0, none⟩ = some (.string key) ∧ w'.cell? ⟨x, 1, none⟩ = some (.string val)) rfl (by kernel_rfl) (by kernel_rfl) (by kernel_rfl) (by decide) (fun _ _ _ h => h) (.inr ⟨fun _ h => h, by kernel_rfl⟩) (.inl (by kernel_rfl)) (.inl ⟨by rfl, fun w hw => ?zy⟩) hT trivial (fun _ => hT) ?_
          case zy => (obtain ⟨hw1, hw2, hw3, hw4⟩ := hw; go_simp)
          (try simp only [Act.put, List.getElem_toArray, List.getElem_cons_zero, List.getElem_cons_succ, List.setIfInBounds_toArray, List.set_cons_zero, List.set_cons_succ])
          refine wpAnyZ.takeN (i := 7) (v := .int .i64 cc) rfl (by kernel_rfl) (by kernel_rfl) (by kernel_rfl) (by decide) (fun _ _ _ h => h) (by rfl) (fun w => ?zy) trivial (fun _ => hT) ?_
          case zy => (go_simp)
          (try simp only [Act.put, List.getElem_toArray, List.getElem_cons_zero, List.getElem_cons_succ, List.setIfInBounds_toArray, List.set_cons_zero, List.set_cons_succ])
          refine wpAnyZ.twoK (i := 3) (k := 8) (E := False) (by kernel_rfl) rfl rfl (by rfl) (by rfl) (fun K hK => ?_) (fun K hK => ?_)
          · go_simp
            obtain ⟨b1, hb1⟩ : ∃ b, b = Vd.heap.size := ⟨_, rfl⟩
            obtain ⟨V2, hV2⟩ : ∃ V, V = Vd.alloc (.cells #[.string key, .string val] 46) := ⟨_, rfl⟩
            have HS3 := Lib.hid (show Rw w V2 ((b1, .cells #[.string key, .string val] 46 (0, 0)) :: (x, .cells #[.string key, .string val] 46 (0, 0)) :: (q, ndRow 1 vE vC nilV nilV 0 ⟨#[]⟩) :: (g, bkRow L a2) :: (r, ndRow 0 nilV nilV nilV nilV 0 ⟨#[]⟩) :: (QE ++ (QC ++ []))) by rw [hV2, hb1]; exact HSVd.out.made _)
            rw [← hV2, ← hb1]
            clear hV2 hb1 hT
            have hT : V2.cell? ⟨q, 1, none⟩ = some vE ∧ V2.cell? ⟨q, 2, none⟩ = some vC ∧ V2.cell? ⟨x, 0, none⟩ = some (.string key) ∧ V2.cell? ⟨x, 1, none⟩ = some (.string val) := ⟨cell_of_row _ q 1 _ _ _ (HS3.out.get 2 rfl), cell_of_row _ q 2 _ _ _ (HS3.out.get 2 rfl), cell_of_row _ x 0 _ _ _ (HS3.out.get 1 rfl), cell_of_row _ x 1 _ _ _ (HS3.out.get 1 rfl)⟩
            refine hK.out _ _ ⟨⟨trivial, fun _ => hT⟩, ?_⟩
            clear hK
            (try simp only [Act.put, List.getElem_toArray, List.getElem_cons_zero, List.getElem_cons_succ, List.setIfInBounds_toArray, List.set_cons_zero, List.set_cons_succ])
            refine wpAnyZ.twoK (i := 4) (k := 8) (E := False) (by kernel_rfl) rfl rfl (by rfl) (by rfl) (fun K hK => ?_) (fun K hK => ?_)
            · obtain ⟨vE6, V4, QE7, hrun, hq1, hS1⟩ := Rw.run_appQ Try.underlying22 HIE.out.1 HIE.out.2.1 HIE.out.2.2.1 HIE.out.2.2.2 rfl (by decide) 22 (P := [(b1, .cells #[.string key, .string val] 46 (0, 0)), (x, .cells #[.string key, .string val] 46 (0, 0)), (q, ndRow 1 vE vC nilV nilV 0 ⟨#[]⟩), (g, bkRow L a2), (r, ndRow 0 nilV nilV nilV nilV 0 ⟨#[]⟩)]) (Q := QE) (T := QC ++ []) HS3.out HQE.out [.string key, .string val] rfl (by intro u hu; simp at hu; rcases hu with rfl | rfl <;> rfl) (by omega) (by simp only [maxLen]; omega) b1 (HS3.out.get 0 rfl)
              obtain ⟨AvE6, cvE6, rfl⟩ := hq1.slice
              have HQvE6 := Lib.hid hq1
              have hS2 : Rw w V4 ((b1, .cells #[.string key, .string val] 46 (0, 0)) :: (x, .cells #[.string key, .string val] 46 (0, 0)) :: (q, ndRow 1 vE vC nilV nilV 0 ⟨#[]⟩) :: (g, bkRow L a2) :: (r, ndRow 0 nilV nilV nilV nilV 0 ⟨#[]⟩) :: (QE7 ++ (QC ++ []))) := hS1
              have HS5 := Lib.hid (show Rw w V4 ((x, .cells #[.string key, .string val] 46 (0, 0)) :: (q, ndRow 1 vE vC nilV nilV 0 ⟨#[]⟩) :: (g, bkRow L a2) :: (r, ndRow 0 nilV nilV nilV nilV 0 ⟨#[]⟩) :: (QE7 ++ (QC ++ []))) from hS2.sub (List.sublist_cons_self _ _))
              clear hS1 hS2 hq1 hT
              have hT : V4.cell? ⟨q, 1, none⟩ = some vE ∧ V4.cell? ⟨q, 2, none⟩ = some vC ∧ V4.cell? ⟨x, 0, none⟩ = some (.string key) ∧ V4.cell? ⟨x, 1, none⟩ = some (.string val) := ⟨cell_of_row _ q 1 _ _ _ (HS5.out.get 1 rfl), cell_of_row _ q 2 _ _ _ (HS5.out.get 1 rfl), cell_of_row _ x 0 _ _ _ (HS5.out.get 0 rfl), cell_of_row _ x 1 _ _ _ (HS5.out.get 0 rfl)⟩
              refine step_app1 _ _ rfl rfl rfl rfl hrun ?_
              clear hrun
              refine hK.out _ _ ⟨⟨trivial, fun _ => hT⟩, ?_⟩
              clear hK
              (try simp only [Act.put, List.getElem_toArray, List.getElem_cons_zero, List.getElem_cons_succ, List.setIfInBounds_toArray, List.set_cons_zero, List.set_cons_succ])
              refine wpAnyZ.takeN (i := 10) (v := .pointer (some ⟨q, 1, none⟩)) rfl (by kernel_rfl) (by kernel_rfl) (by kernel_rfl) (by decide) (fun _ _ _ h => h) (by rfl) (fun w => ?zy) trivial (fun _ => hT) ?_
              case zy => (go_simp)
              (try simp only [Act.put, List.getElem_toArray, List.getElem_cons_zero, List.getElem_cons_succ, List.setIfInBounds_toArray, List.set_cons_zero, List.set_cons_succ])
              refine wpAnyZ.oneK (i := 8) (E := False) (by kernel_rfl) rfl (by rfl) (fun K hK => ?_)
              go_simp
              obtain ⟨b8, hb8⟩ : ∃ b, b = V4.heap.size := ⟨_, rfl⟩
              obtain ⟨V9, hV9⟩ : ∃ V, V = V4.alloc (.cells #[.int .i64 cc] 3) := ⟨_, rfl⟩
              have HS10 := Lib.hid (show Rw w V9 ((b8, .cells #[.int .i64 cc] 3 (0, 0)) :: (x, .cells #[.string key, .string val] 46 (0, 0)) :: (q, ndRow 1 vE vC nilV nilV 0 ⟨#[]⟩) :: (g, bkRow L a2) :: (r, ndRow 0 nilV nilV nilV nilV 0 ⟨#[]⟩) :: (QE7 ++ (QC ++ []))) by rw [hV9, hb8]; exact HS5.out.made _)
              rw [← hV9, ← hb8]
              clear hV9 hb8 hT
              have hT : V9.cell? ⟨q, 1, none⟩ = some vE ∧ V9.cell? ⟨q, 2, none⟩ = some vC ∧ V9.cell? ⟨x, 0, none⟩ = some (.string key) ∧ V9.cell? ⟨x, 1, none⟩ = some (.string val) := ⟨cell_of_row _ q 1 _ _ _ (HS10.out.get 2 rfl), cell_of_row _ q 2 _ _ _ (HS10.out.get 2 rfl), cell_of_row _ x 0 _ _ _ (HS10.out.get 1 rfl), cell_of_row _ x 1 _ _ _ (HS10.out.get 1 rfl)⟩
              refine hK.out _ _ ⟨⟨trivial, fun _ => hT⟩, ?_⟩
              clear hK
              (try simp only [Act.put, List.getElem_toArray, List.getElem_cons_zero, List.getElem_cons_succ, List.setIfInBounds_toArray, List.set_cons_zero, List.set_cons_succ])
              refine wpAnyZ.oneK (i := 9) (E := False) (by kernel_rfl) rfl (by rfl) (fun K hK => ?_)
              have h9 : Rw w V9 (([(b8, .cells #[.int .i64 cc] 3 (0, 0)), (x, .cells #[.string key, .string val] 46 (0, 0)), (q, ndRow 1 vE vC nilV nilV 0 ⟨#[]⟩), (g, bkRow L a2), (r, ndRow 0 nilV nilV nilV nilV 0 ⟨#[]⟩)] ++ QE7) ++ (QC ++ [])) := by rw [List.append_assoc]; exact HS10.out
              obtain ⟨vC13, V11, QC14, hrun, hq1, hS1⟩ := Rw.run_appQ Try.underlying23 HII.out.1 HII.out.2.1 HII.out.2.2.1 HII.out.2.2.2 rfl (by decide) 23 h9 HQC.out [.int .i64 cc] rfl (by intro u hu; simp at hu; rcases hu with rfl; rfl) (by omega) (by simp only [maxLen]; omega) b8 (HS10.out.get 0 rfl)
              clear h9
              rw [List.append_assoc] at hS1
              obtain ⟨AvC13, cvC13, rfl⟩ := hq1.slice
              have HQvC13 := Lib.hid hq1
              have hS2 : Rw w V11 ((b8, .cells #[.int .i64 cc] 3 (0, 0)) :: (x, .cells #[.string key, .string val] 46 (0, 0)) :: (q, ndRow 1 vE vC nilV nilV 0 ⟨#[]⟩) :: (g, bkRow L a2) :: (r, ndRow 0 nilV nilV nilV nilV 0 ⟨#[]⟩) :: (QE7 ++ (QC14 ++ []))) := hS1
              have HS12 := Lib.hid (show Rw w V11 ((x, .cells #[.string key, .string val] 46 (0, 0)) :: (q, ndRow 1 vE vC nilV nilV 0 ⟨#[]⟩) :: (g, bkRow L a2) :: (r, ndRow 0 nilV nilV nilV nilV 0 ⟨#[]⟩) :: (QE7 ++ (QC14 ++ []))) from hS2.sub (List.sublist_cons_self _ _))
              clear hS1 hS2 hq1 hT
              have hT : V11.cell? ⟨q, 1, none⟩ = some vE ∧ V11.cell? ⟨q, 2, none⟩ = some vC ∧ V11.cell? ⟨x, 0, none⟩ = some (.string key) ∧ V11.cell? ⟨x, 1, none⟩ = some (.string val) := ⟨cell_of_row _ q 1 _ _ _ (HS12.out.get 1 rfl), cell_of_row _ q 2 _ _ _ (HS12.out.get 1 rfl), cell_of_row _ x 0 _ _ _ (HS12.out.get 0 rfl), cell_of_row _ x 1 _ _ _ (HS12.out.get 0 rfl)⟩
              refine step_app1 _ _ rfl rfl rfl rfl hrun ?_
              clear hrun
              refine hK.out _ _ ⟨⟨trivial, fun _ => hT⟩, ?_⟩
              clear hK
              (try simp only [Act.put, List.getElem_toArray, List.getElem_cons_zero, List.getElem_cons_succ, List.setIfInBounds_toArray, List.set_cons_zero, List.set_cons_succ])
              refine wpAnyZ.oneK (i := 11) (E := False) (by kernel_rfl) rfl (by rfl) (fun K hK => ?_)
              have hrw := HS12.out.get 1 rfl
              have c1 : V11.cell? ⟨q, 1, none⟩ = some vE := cell_of_row _ q 1 _ _ _ hrw
              have f1 : V11.frozen? ⟨q, 1, none⟩ = false := frozen_of_row _ q 1 _ _ hrw
              have HS17 := Lib.hid (show Rw w (V11.setCell ⟨q, 1, none⟩ (.slice AvE6 (k + 1) cvE6)) ((x, .cells #[.string key, .string val] 46 (0, 0)) :: (q, ndRow 1 (.slice AvE6 (k + 1) cvE6) vC nilV nilV 0 ⟨#[]⟩) :: (g, bkRow L a2) :: (r, ndRow 0 nilV nilV nilV nilV 0 ⟨#[]⟩) :: (QE7 ++ (QC14 ++ []))) from HS12.out.store 1 rfl 1 (.slice AvE6 (k + 1) cvE6))
              go_simp
              obtain ⟨V15, hV15⟩ : ∃ V, V = V11.setCell ⟨q, 1, none⟩ (.slice AvE6 (k + 1) cvE6) := ⟨_, rfl⟩
              rw [← hV15] at HS17 ⊢
              clear hV15 hrw c1 f1 hT
              refine hK.out _ _ ⟨⟨trivial, (fun h => (have h9 : (true : Bool) = false := h; by cases h9))⟩, ?_⟩
              clear hK
              (try simp only [Act.put, List.getElem_toArray, List.getElem_cons_zero, List.getElem_cons_succ, List.setIfInBounds_toArray, List.set_cons_zero, List.set_cons_succ])
              refine wpAnyZ.takeN (i := 12) (v := .pointer (some ⟨q, 2, none⟩)) rfl (by kernel_rfl) (by kernel_rfl) (by kernel_rfl) (by decide) (fun _ _ _ h => h) (by rfl) (fun w => ?zy) trivial (fun h => (have h9 : (true : Bool) = false := h; by cases h9)) ?_
              case zy => (go_simp)
              (try simp only [Act.put, List.getElem_toArray, List.getElem_cons_zero, List.getElem_cons_succ, List.setIfInBounds_toArray, List.set_cons_zero, List.set_cons_succ])
              refine wpAnyZ.oneK (i := 13) (E := False) (by kernel_rfl) rfl (by rfl) (fun K hK => ?_)
              have hrw := HS17.out.get 1 rfl
              have c1 : V15.cell? ⟨q, 2, none⟩ = some vC := cell_of_row _ q 2 _ _ _ hrw
              have f1 : V15.frozen? ⟨q, 2, none⟩ = false := frozen_of_row _ q 2 _ _ hrw
              have HS18 := Lib.hid (show Rw w (V15.setCell ⟨q, 2, none⟩ (.slice AvC13 (k + 1) cvC13)) ((x, .cells #[.string key, .string val] 46 (0, 0)) :: (q, ndRow 1 (.slice AvE6 (k + 1) cvE6) (.slice AvC13 (k + 1) cvC13) nilV nilV 0 ⟨#[]⟩) :: (g, bkRow L a2) :: (r, ndRow 0 nilV nilV nilV nilV 0 ⟨#[]⟩) :: (QE7 ++ (QC14 ++ []))) from HS17.out.store 1 rfl 2 (.slice AvC13 (k + 1) cvC13))
              go_simp
              obtain ⟨V16, hV16⟩ : ∃ V, V = V15.setCell ⟨q, 2, none⟩ (.slice AvC13 (k + 1) cvC13) := ⟨_, rfl⟩
              rw [← hV16] at HS18 ⊢
              clear hV16 hrw c1 f1
              refine hK.out _ _ ⟨⟨trivial, (fun h => (have h9 : (true : Bool) = false := h; by cases h9))⟩, ?_⟩
              clear hK
              refine wpAnyZ.done (by kernel_rfl) ?_ _
              have HFIN := Lib.hid (show LInv w r q g L cn (k + 1) V16 from by
                refine ⟨es ++ [⟨key, val⟩], cs ++ [cc], a2, (.slice AvE6 (k + 1) cvE6), (.slice AvC13 (k + 1) cvC13), QE7, QC14, HS18.out.sub (List.sublist_cons_self _ _), ?_, ?_, by rw [List.length_append, HES.out]; rfl, by rw [List.length_append, HCS.out]; rfl, HA2.out, ?_⟩
                · rw [ev_append]; exact HQvE6.out
                · rw [iv_append]; exact HQvC13.out
                · exact HPN.out)
              go_wp2
              go_roundw
              case rel => exact ⟨k + 1, by omega, by go_num, HFIN.out⟩
              case measure => simp [intOf]; omega
            · go_simp
              obtain ⟨b19, hb19⟩ : ∃ b, b = V2.heap.size := ⟨_, rfl⟩
              obtain ⟨V20, hV20⟩ : ∃ V, V = V2.alloc (.cells #[.int .i64 cc] 3) := ⟨_, rfl⟩
              have HS21 := Lib.hid (show Rw w V20 ((b19, .cells #[.int .i64 cc] 3 (0, 0)) :: (b1, .cells #[.string key, .string val] 46 (0, 0)) :: (x, .cells #[.string key, .string val] 46 (0, 0)) :: (q, ndRow 1 vE vC nilV nilV 0 ⟨#[]⟩) :: (g, bkRow L a2) :: (r, ndRow 0 nilV nilV nilV nilV 0 ⟨#[]⟩) :: (QE ++ (QC ++ []))) by rw [hV20, hb19]; exact HS3.out.made _)
              rw [← hV20, ← hb19]
              clear hV20 hb19 hT
              have hT : V20.cell? ⟨q, 1, none⟩ = some vE ∧ V20.cell? ⟨q, 2, none⟩ = some vC ∧ V20.cell? ⟨x, 0, none⟩ = some (.string key) ∧ V20.cell? ⟨x, 1, none⟩ = some (.string val) := ⟨cell_of_row _ q 1 _ _ _ (HS21.out.get 3 rfl), cell_of_row _ q 2 _ _ _ (HS21.out.get 3 rfl), cell_of_row _ x 0 _ _ _ (HS21.out.get 2 rfl), cell_of_row _ x 1 _ _ _ (HS21.out.get 2 rfl)⟩
              refine hK.out _ _ ⟨⟨trivial, fun _ => hT⟩, ?_⟩
              clear hK
              (try simp only [Act.put, List.getElem_toArray, List.getElem_cons_zero, List.getElem_cons_succ, List.setIfInBounds_toArray, List.set_cons_zero, List.set_cons_succ])
              refine wpAnyZ.oneK (i := 4) (E := False) (by kernel_rfl) rfl (by rfl) (fun K hK => ?_)
              obtain ⟨vE24, V22, QE25, hrun, hq1, hS1⟩ := Rw.run_appQ Try.underlying22 HIE.out.1 HIE.out.2.1 HIE.out.2.2.1 HIE.out.2.2.2 rfl (by decide) 22 (P := [(b19, .cells #[.int .i64 cc] 3 (0, 0)), (b1, .cells #[.string key, .string val] 46 (0, 0)), (x, .cells #[.string key, .string val] 46 (0, 0)), (q, ndRow 1 vE vC nilV nilV 0 ⟨#[]⟩), (g, bkRow L a2), (r, ndRow 0 nilV nilV nilV nilV 0 ⟨#[]⟩)]) (Q := QE) (T := QC ++ []) HS21.out HQE.out [.string key, .string val] rfl (by intro u hu; simp at hu; rcases hu with rfl | rfl <;> rfl) (by omega) (by simp only [maxLen]; omega) b1 (HS21.out.get 1 rfl)
              obtain ⟨AvE24, cvE24, rfl⟩ := hq1.slice
              have HQvE24 := Lib.hid hq1
              have hS2 : Rw w V22 ((b19, .cells #[.int .i64 cc] 3 (0, 0)) :: (b1, .cells #[.string key, .string val] 46 (0, 0)) :: (x, .cells #[.string key, .string val] 46 (0, 0)) :: (q, ndRow 1 vE vC nilV nilV 0 ⟨#[]⟩) :: (g, bkRow L a2) :: (r, ndRow 0 nilV nilV nilV nilV 0 ⟨#[]⟩) :: (QE25 ++ (QC ++ []))) := hS1
              have HS23 := Lib.hid (show Rw w V22 ((b19, .cells #[.int .i64 cc] 3 (0, 0)) :: (x, .cells #[.string key, .string val] 46 (0, 0)) :: (q, ndRow 1 vE vC nilV nilV 0 ⟨#[]⟩) :: (g, bkRow L a2) :: (r, ndRow 0 nilV nilV nilV nilV 0 ⟨#[]⟩) :: (QE25 ++ (QC ++ []))) from hS2.sub (List.Sublist.cons_cons _ (List.sublist_cons_self _ _)))
              clear hS1 hS2 hq1 hT
              have hT : V22.cell? ⟨q, 1, none⟩ = some vE ∧ V22.cell? ⟨q, 2, none⟩ = some vC ∧ V22.cell? ⟨x, 0, none⟩ = some (.string key) ∧ V22.cell? ⟨x, 1, none⟩ = some (.string val) := ⟨cell_of_row _ q 1 _ _ _ (HS23.out.get 2 rfl), cell_of_row _ q 2 _ _ _ (HS23.out.get 2 rfl), cell_of_row _ x 0 _ _ _ (HS23.out.get 1 rfl), cell_of_row _ x 1 _ _ _ (HS23.out.get 1 rfl)⟩
              refine step_app1 _ _ rfl rfl rfl rfl hrun ?_
              clear hrun
              refine hK.out _ _ ⟨⟨trivial, fun _ => hT⟩, ?_⟩
              clear hK
              (try simp only [Act.put, List.getElem_toArray, List.getElem_cons_zero, List.getElem_cons_succ, List.setIfInBounds_toArray, List.set_cons_zero, List.set_cons_succ])
              refine wpAnyZ.takeN (i := 10) (v := .pointer (some ⟨q, 1, none⟩)) rfl (by kernel_rfl) (by kernel_rfl) (by kernel_rfl) (by decide) (fun _ _ _ h => h) (by rfl) (fun w => ?zy) trivial (fun _ => hT) ?_
              case zy => (go_simp)
              (try simp only [Act.put, List.getElem_toArray, List.getElem_cons_zero, List.getElem_cons_succ, List.setIfInBounds_toArray, List.set_cons_zero, List.set_cons_succ])
              refine wpAnyZ.oneK (i := 9) (E := False) (by kernel_rfl) rfl (by rfl) (fun K hK => ?_)
              have h9 : Rw w V22 (([(b19, .cells #[.int .i64 cc] 3 (0, 0)), (x, .cells #[.string key, .string val] 46 (0, 0)), (q, ndRow 1 vE vC nilV nilV 0 ⟨#[]⟩), (g, bkRow L a2), (r, ndRow 0 nilV nilV nilV nilV 0 ⟨#[]⟩)] ++ QE25) ++ (QC ++ [])) := by rw [List.append_assoc]; exact HS23.out
              obtain ⟨vC28, V26, QC29, hrun, hq1, hS1⟩ := Rw.run_appQ Try.underlying23 HII.out.1 HII.out.2.1 HII.out.2.2.1 HII.out.2.2.2 rfl (by decide) 23 h9 HQC.out [.int .i64 cc] rfl (by intro u hu; simp at hu; rcases hu with rfl; rfl) (by omega) (by simp only [maxLen]; omega) b19 (HS23.out.get 0 rfl)
              clear h9
              rw [List.append_assoc] at hS1
              obtain ⟨AvC28, cvC28, rfl⟩ := hq1.slice
              have HQvC28 := Lib.hid hq1
              have hS2 : Rw w V26 ((b19, .cells #[.int .i64 cc] 3 (0, 0)) :: (x, .cells #[.string key, .string val] 46 (0, 0)) :: (q, ndRow 1 vE vC nilV nilV 0 ⟨#[]⟩) :: (g, bkRow L a2) :: (r, ndRow 0 nilV nilV nilV nilV 0 ⟨#[]⟩) :: (QE25 ++ (QC29 ++ []))) := hS1
              have HS27 := Lib.hid (show Rw w V26 ((x, .cells #[.string key, .string val] 46 (0, 0)) :: (q, ndRow 1 vE vC nilV nilV 0 ⟨#[]⟩) :: (g, bkRow L a2) :: (r, ndRow 0 nilV nilV nilV nilV 0 ⟨#[]⟩) :: (QE25 ++ (QC29 ++ []))) from hS2.sub (List.sublist_cons_self _ _))
              clear hS1 hS2 hq1 hT
              have hT : V26.cell? ⟨q, 1, none⟩ = some vE ∧ V26.cell? ⟨q, 2, none⟩ = some vC ∧ V26.cell? ⟨x, 0, none⟩ = some (.string key) ∧ V26.cell? ⟨x, 1, none⟩ = some (.string val) := ⟨cell_of_row _ q 1 _ _ _ (HS27.out.get 1 rfl), cell_of_row _ q 2 _ _ _ (HS27.out.get 1 rfl), cell_of_row _ x 0 _ _ _ (HS27.out.get 0 rfl), cell_of_row _ x 1 _ _ _ (HS27.out.get 0 rfl)⟩
              refine step_app1 _ _ rfl rfl rfl rfl hrun ?_
              clear hrun
              refine hK.out _ _ ⟨⟨trivial, fun _ => hT⟩, ?_⟩
              clear hK
              (try simp only [Act.put, List.getElem_toArray, List.getElem_cons_zero, List.getElem_cons_succ, List.setIfInBounds_toArray, List.set_cons_zero, List.set_cons_succ])
              refine wpAnyZ.oneK (i := 11) (E := False) (by kernel_rfl) rfl (by rfl) (fun K hK => ?_)
              have hrw := HS27.out.get 1 rfl
              have c1 : V26.cell? ⟨q, 1, none⟩ = some vE := cell_of_row _ q 1 _ _ _ hrw
              have f1 : V26.frozen? ⟨q, 1, none⟩ = false := frozen_of_row _ q 1 _ _ hrw
              have HS32 := Lib.hid (show Rw w (V26.setCell ⟨q, 1, none⟩ (.slice AvE24 (k + 1) cvE24)) ((x, .cells #[.string key, .string val] 46 (0, 0)) :: (q, ndRow 1 (.slice AvE24 (k + 1) cvE24) vC nilV nilV 0 ⟨#[]⟩) :: (g, bkRow L a2) :: (r, ndRow 0 nilV nilV nilV nilV 0 ⟨#[]⟩) :: (QE25 ++ (QC29 ++ []))) from HS27.out.store 1 rfl 1 (.slice AvE24 (k + 1) cvE24))
              go_simp
              obtain ⟨V30, hV30⟩ : ∃ V, V = V26.setCell ⟨q, 1, none⟩ (.slice AvE24 (k + 1) cvE24) := ⟨_, rfl⟩
              rw [← hV30] at HS32 ⊢
              clear hV30 hrw c1 f1 hT
              refine hK.out _ _ ⟨⟨trivial, (fun h => (have h9 : (true : Bool) = false := h; by cases h9))⟩, ?_⟩
              clear hK
              (try simp only [Act.put, List.getElem_toArray, List.getElem_cons_zero, List.getElem_cons_succ, List.setIfInBounds_toArray, List.set_cons_zero, List.set_cons_succ])
              refine wpAnyZ.takeN (i := 12) (v := .pointer (some ⟨q, 2, none⟩)) rfl (by kernel_rfl) (by kernel_rfl) (by kernel_rfl) (by decide) (fun _ _ _ h => h) (by rfl) (fun w => ?zy) trivial (fun h => (have h9 : (true : Bool) = false := h; by cases h9)) ?_
              case zy => (go_simp)
              (try simp only [Act.put, List.getElem_toArray, List.getElem_cons_zero, List.getElem_cons_succ, List.setIfInBounds_toArray, List.set_cons_zero, List.set_cons_succ])
              refine wpAnyZ.oneK (i := 13) (E := False) (by kernel_rfl) rfl (by rfl) (fun K hK => ?_)
              have hrw := HS32.out.get 1 rfl
              have c1 : V30.cell? ⟨q, 2, none⟩ = some vC := cell_of_row _ q 2 _ _ _ hrw
              have f1 : V30.frozen? ⟨q, 2, none⟩ = false := frozen_of_row _ q 2 _ _ hrw
              have HS33 := Lib.hid (show Rw w (V30.setCell ⟨q, 2, none⟩ (.slice AvC28 (k + 1) cvC28)) ((x, .cells #[.string key, .string val] 46 (0, 0)) :: (q, ndRow 1 (.slice AvE24 (k + 1) cvE24) (.slice AvC28 (k + 1) cvC28) nilV nilV 0 ⟨#[]⟩) :: (g, bkRow L a2) :: (r, ndRow 0 nilV nilV nilV nilV 0 ⟨#[]⟩) :: (QE25 ++ (QC29 ++ []))) from HS32.out.store 1 rfl 2 (.slice AvC28 (k + 1) cvC28))
              go_simp
              obtain ⟨V31, hV31⟩ : ∃ V, V = V30.setCell ⟨q, 2, none⟩ (.slice AvC28 (k + 1) cvC28) := ⟨_, rfl⟩
              rw [← hV31] at HS33 ⊢
              clear hV31 hrw c1 f1
              refine hK.out _ _ ⟨⟨trivial, (fun h => (have h9 : (true : Bool) = false := h; by cases h9))⟩, ?_⟩
              clear hK
              refine wpAnyZ.done (by kernel_rfl) ?_ _
              have HFIN := Lib.hid (show LInv w r q g L cn (k + 1) V31 from by
                refine ⟨es ++ [⟨key, val⟩], cs ++ [cc], a2, (.slice AvE24 (k + 1) cvE24), (.slice AvC28 (k + 1) cvC28), QE25, QC29, HS33.out.sub (List.sublist_cons_self _ _), ?_, ?_, by rw [List.length_append, HES.out]; rfl, by rw [List.length_append, HCS.out]; rfl, HA2.out, ?_⟩
                · rw [ev_append]; exact HQvE24.out
                · rw [iv_append]; exact HQvC28.out
                · exact HPN.out)
              go_wp2
              go_roundw
              case rel => exact ⟨k + 1, by omega, by go_num, HFIN.out⟩
              case measure => simp [intOf]; omega
          · go_simp
            obtain ⟨b34, hb34⟩ : ∃ b, b = Vd.heap.size := ⟨_, rfl⟩
            obtain ⟨V35, hV35⟩ : ∃ V, V = Vd.alloc (.cells #[.int .i64 cc] 3) := ⟨_, rfl⟩
            have HS36 := Lib.hid (show Rw w V35 ((b34, .cells #[.int .i64 cc] 3 (0, 0)) :: (x, .cells #[.string key, .string val] 46 (0, 0)) :: (q, ndRow 1 vE vC nilV nilV 0 ⟨#[]⟩) :: (g, bkRow L a2) :: (r, ndRow 0 nilV nilV nilV nilV 0 ⟨#[]⟩) :: (QE ++ (QC ++ []))) by rw [hV35, hb34]; exact HSVd.out.made _)
            rw [← hV35, ← hb34]
            clear hV35 hb34 hT
            have hT : V35.cell? ⟨q, 1, none⟩ = some vE ∧ V35.cell? ⟨q, 2, none⟩ = some vC ∧ V35.cell? ⟨x, 0, none⟩ = some (.string key) ∧ V35.cell? ⟨x, 1, none⟩ = some (.string val) := ⟨cell_of_row _ q 1 _ _ _ (HS36.out.get 2 rfl), cell_of_row _ q 2 _ _ _ (HS36.out.get 2 rfl), cell_of_row _ x 0 _ _ _ (HS36.out.get 1 rfl), cell_of_row _ x 1 _ _ _ (HS36.out.get 1 rfl)⟩
            refine hK.out _ _ ⟨⟨trivial, fun _ => hT⟩, ?_⟩
            clear hK
            (try simp only [Act.put, List.getElem_toArray, List.getElem_cons_zero, List.getElem_cons_succ, List.setIfInBounds_toArray, List.set_cons_zero, List.set_cons_succ])
            refine wpAnyZ.oneK (i := 3) (E := False) (by kernel_rfl) rfl (by rfl) (fun K hK => ?_)
            go_simp
            obtain ⟨b37, hb37⟩ : ∃ b, b = V35.heap.size := ⟨_, rfl⟩
            obtain ⟨V38, hV38⟩ : ∃ V, V = V35.alloc (.cells #[.string key, .string val] 46) := ⟨_, rfl⟩
            have HS39 := Lib.hid (show Rw w V38 ((b37, .cells #[.string key, .string val] 46 (0, 0)) :: (b34, .cells #[.int .i64 cc] 3 (0, 0)) :: (x, .cells #[.string key, .string val] 46 (0, 0)) :: (q, ndRow 1 vE vC nilV nilV 0 ⟨#[]⟩) :: (g, bkRow L a2) :: (r, ndRow 0 nilV nilV nilV nilV 0 ⟨#[]⟩) :: (QE ++ (QC ++ []))) by rw [hV38, hb37]; exact HS36.out.made _)
            rw [← hV38, ← hb37]
            clear hV38 hb37 hT
            have hT : V38.cell? ⟨q, 1, none⟩ = some vE ∧ V38.cell? ⟨q, 2, none⟩ = some vC ∧ V38.cell? ⟨x, 0, none⟩ = some (.string key) ∧ V38.cell? ⟨x, 1, none⟩ = some (.string val) := ⟨cell_of_row _ q 1 _ _ _ (HS39.out.get 3 rfl), cell_of_row _ q 2 _ _ _ (HS39.out.get 3 rfl), cell_of_row _ x 0 _ _ _ (HS39.out.get 2 rfl), cell_of_row _ x 1 _ _ _ (HS39.out.get 2 rfl)⟩
            refine hK.out _ _ ⟨⟨trivial, fun _ => hT⟩, ?_⟩
            clear hK
            (try simp only [Act.put, List.getElem_toArray, List.getElem_cons_zero, List.getElem_cons_succ, List.setIfInBounds_toArray, List.set_cons_zero, List.set_cons_succ])
            refine wpAnyZ.oneK (i := 4) (E := False) (by kernel_rfl) rfl (by rfl) (fun K hK => ?_)
            obtain ⟨vE42, V40, QE43, hrun, hq1, hS1⟩ := Rw.run_appQ Try.underlying22 HIE.out.1 HIE.out.2.1 HIE.out.2.2.1 HIE.out.2.2.2 rfl (by decide) 22 (P := [(b37, .cells #[.string key, .string val] 46 (0, 0)), (b34, .cells #[.int .i64 cc] 3 (0, 0)), (x, .cells #[.string key, .string val] 46 (0, 0)), (q, ndRow 1 vE vC nilV nilV 0 ⟨#[]⟩), (g, bkRow L a2), (r, ndRow 0 nilV nilV nilV nilV 0 ⟨#[]⟩)]) (Q := QE) (T := QC ++ []) HS39.out HQE.out [.string key, .string val] rfl (by intro u hu; simp at hu; rcases hu with rfl | rfl <;> rfl) (by omega) (by simp only [maxLen]; omega) b37 (HS39.out.get 0 rfl)
            obtain ⟨AvE42, cvE42, rfl⟩ := hq1.slice
            have HQvE42 := Lib.hid hq1
            have hS2 : Rw w V40 ((b37, .cells #[.string key, .string val] 46 (0, 0)) :: (b34, .cells #[.int .i64 cc] 3 (0, 0)) :: (x, .cells #[.string key, .string val] 46 (0, 0)) :: (q, ndRow 1 vE vC nilV nilV 0 ⟨#[]⟩) :: (g, bkRow L a2) :: (r, ndRow 0 nilV nilV nilV nilV 0 ⟨#[]⟩) :: (QE43 ++ (QC ++ []))) := hS1
            have HS41 := Lib.hid (show Rw w V40 ((b34, .cells #[.int .i64 cc] 3 (0, 0)) :: (x, .cells #[.string key, .string val] 46 (0, 0)) :: (q, ndRow 1 vE vC nilV nilV 0 ⟨#[]⟩) :: (g, bkRow L a2) :: (r, ndRow 0 nilV nilV nilV nilV 0 ⟨#[]⟩) :: (QE43 ++ (QC ++ []))) from hS2.sub (List.sublist_cons_self _ _))
            clear hS1 hS2 hq1 hT
            have hT : V40.cell? ⟨q, 1, none⟩ = some vE ∧ V40.cell? ⟨q, 2, none⟩ = some vC ∧ V40.cell? ⟨x, 0, none⟩ = some (.string key) ∧ V40.cell? ⟨x, 1, none⟩ = some (.string val) := ⟨cell_of_row _ q 1 _ _ _ (HS41.out.get 2 rfl), cell_of_row _ q 2 _ _ _ (HS41.out.get 2 rfl), cell_of_row _ x 0 _ _ _ (HS41.out.get 1 rfl), cell_of_row _ x 1 _ _ _ (HS41.out.get 1 rfl)⟩
            refine step_app1 _ _ rfl rfl rfl rfl hrun ?_
            clear hrun
            refine hK.out _ _ ⟨⟨trivial, fun _ => hT⟩, ?_⟩
            clear hK
            (try simp only [Act.put, List.getElem_toArray, List.getElem_cons_zero, List.getElem_cons_succ, List.setIfInBounds_toArray, List.set_cons_zero, List.set_cons_succ])
            refine wpAnyZ.takeN (i := 10) (v := .pointer (some ⟨q, 1, none⟩)) rfl (by kernel_rfl) (by kernel_rfl) (by kernel_rfl) (by decide) (fun _ _ _ h => h) (by rfl) (fun w => ?zy) trivial (fun _ => hT) ?_
            case zy => (go_simp)
            (try simp only [Act.put, List.getElem_toArray, List.getElem_cons_zero, List.getElem_cons_succ, List.setIfInBounds_toArray, List.set_cons_zero, List.set_cons_succ])
            refine wpAnyZ.oneK (i := 9) (E := False) (by kernel_rfl) rfl (by rfl) (fun K hK => ?_)
            have h9 : Rw w V40 (([(b34, .cells #[.int .i64 cc] 3 (0, 0)), (x, .cells #[.string key, .string val] 46 (0, 0)), (q, ndRow 1 vE vC nilV nilV 0 ⟨#[]⟩), (g, bkRow L a2), (r, ndRow 0 nilV nilV nilV nilV 0 ⟨#[]⟩)] ++ QE43) ++ (QC ++ [])) := by rw [List.append_assoc]; exact HS41.out
            obtain ⟨vC46, V44, QC47, hrun, hq1, hS1⟩ := Rw.run_appQ Try.underlying23 HII.out.1 HII.out.2.1 HII.out.2.2.1 HII.out.2.2.2 rfl (by decide) 23 h9 HQC.out [.int .i64 cc] rfl (by intro u hu; simp at hu; rcases hu with rfl; rfl) (by omega) (by simp only [maxLen]; omega) b34 (HS41.out.get 0 rfl)
            clear h9
            rw [List.append_assoc] at hS1
            obtain ⟨AvC46, cvC46, rfl⟩ := hq1.slice
            have HQvC46 := Lib.hid hq1
            have hS2 : Rw w V44 ((b34, .cells #[.int .i64 cc] 3 (0, 0)) :: (x, .cells #[.string key, .string val] 46 (0, 0)) :: (q, ndRow 1 vE vC nilV nilV 0 ⟨#[]⟩) :: (g, bkRow L a2) :: (r, ndRow 0 nilV nilV nilV nilV 0 ⟨#[]⟩) :: (QE43 ++ (QC47 ++ []))) := hS1
            have HS45 := Lib.hid (show Rw w V44 ((x, .cells #[.string key, .string val] 46 (0, 0)) :: (q, ndRow 1 vE vC nilV nilV 0 ⟨#[]⟩) :: (g, bkRow L a2) :: (r, ndRow 0 nilV nilV nilV nilV 0 ⟨#[]⟩) :: (QE43 ++ (QC47 ++ []))) from hS2.sub (List.sublist_cons_self _ _))
            clear hS1 hS2 hq1 hT
            have hT : V44.cell? ⟨q, 1, none⟩ = some vE ∧ V44.cell? ⟨q, 2, none⟩ = some vC ∧ V44.cell? ⟨x, 0, none⟩ = some (.string key) ∧ V44.cell? ⟨x, 1, none⟩ = some (.string val) := ⟨cell_of_row _ q 1 _ _ _ (HS45.out.get 1 rfl), cell_of_row _ q 2 _ _ _ (HS45.out.get 1 rfl), cell_of_row _ x 0 _ _ _ (HS45.out.get 0 rfl), cell_of_row _ x 1 _ _ _ (HS45.out.get 0 rfl)⟩
            refine step_app1 _ _ rfl rfl rfl rfl hrun ?_
            clear hrun
            refine hK.out _ _ ⟨⟨trivial, fun _ => hT⟩, ?_⟩
            clear hK
            (try simp only [Act.put, List.getElem_toArray, List.getElem_cons_zero, List.getElem_cons_succ, List.setIfInBounds_toArray, List.set_cons_zero, List.set_cons_succ])
            refine wpAnyZ.oneK (i := 11) (E := False) (by kernel_rfl) rfl (by rfl) (fun K hK => ?_)
            have hrw := HS45.out.get 1 rfl
            have c1 : V44.cell? ⟨q, 1, none⟩ = some vE := cell_of_row _ q 1 _ _ _ hrw
            have f1 : V44.frozen? ⟨q, 1, none⟩ = false := frozen_of_row _ q 1 _ _ hrw
            have HS50 := Lib.hid (show Rw w (V44.setCell ⟨q, 1, none⟩ (.slice AvE42 (k + 1) cvE42)) ((x, .cells #[.string key, .string val] 46 (0, 0)) :: (q, ndRow 1 (.slice AvE42 (k + 1) cvE42) vC nilV nilV 0 ⟨#[]⟩) :: (g, bkRow L a2) :: (r, ndRow 0 nilV nilV nilV nilV 0 ⟨#[]⟩) :: (QE43 ++ (QC47 ++ []))) from HS45.out.store 1 rfl 1 (.slice AvE42 (k + 1) cvE42))
            go_simp
            obtain ⟨V48, hV48⟩ : ∃ V, V = V44.setCell ⟨q, 1, none⟩ (.slice AvE42 (k + 1) cvE42) := ⟨_, rfl⟩
            rw [← hV48] at HS50 ⊢
            clear hV48 hrw c1 f1 hT
            refine hK.out _ _ ⟨⟨trivial, (fun h => (have h9 : (true : Bool) = false := h; by cases h9))⟩, ?_⟩
            clear hK
            (try simp only [Act.put, List.getElem_toArray, List.getElem_cons_zero, List.getElem_cons_succ, List.setIfInBounds_toArray, List.set_cons_zero, List.set_cons_succ])
            refine wpAnyZ.takeN (i := 12) (v := .pointer (some ⟨q, 2, none⟩)) rfl (by kernel_rfl) (by kernel_rfl) (by kernel_rfl) (by decide) (fun _ _ _ h => h) (by rfl) (fun w => ?zy) trivial (fun h => (have h9 : (true : Bool) = false := h; by cases h9)) ?_
            case zy => (go_simp)
            (try simp only [Act.put, List.getElem_toArray, List.getElem_cons_zero, List.getElem_cons_succ, List.setIfInBounds_toArray, List.set_cons_zero, List.set_cons_succ])
            refine wpAnyZ.oneK (i := 13) (E := False) (by kernel_rfl) rfl (by rfl) (fun K hK => ?_)
            have hrw := HS50.out.get 1 rfl
            have c1 : V48.cell? ⟨q, 2, none⟩ = some vC := cell_of_row _ q 2 _ _ _ hrw
            have f1 : V48.frozen? ⟨q, 2, none⟩ = false := frozen_of_row _ q 2 _ _ hrw
            have HS51 := Lib.hid (show Rw w (V48.setCell ⟨q, 2, none⟩ (.slice AvC46 (k + 1) cvC46)) ((x, .cells #[.string key, .string val] 46 (0, 0)) :: (q, ndRow 1 (.slice AvE42 (k + 1) cvE42) (.slice AvC46 (k + 1) cvC46) nilV nilV 0 ⟨#[]⟩) :: (g, bkRow L a2) :: (r, ndRow 0 nilV nilV nilV nilV 0 ⟨#[]⟩) :: (QE43 ++ (QC47 ++ []))) from HS50.out.store 1 rfl 2 (.slice AvC46 (k + 1) cvC46))
            go_simp
            obtain ⟨V49, hV49⟩ : ∃ V, V = V48.setCell ⟨q, 2, none⟩ (.slice AvC46 (k + 1) cvC46) := ⟨_, rfl⟩
            rw [← hV49] at HS51 ⊢
            clear hV49 hrw c1 f1
            refine hK.out _ _ ⟨⟨trivial, (fun h => (have h9 : (true : Bool) = false := h; by cases h9))⟩, ?_⟩
            clear hK
            refine wpAnyZ.done (by kernel_rfl) ?_ _
            have HFIN := Lib.hid (show LInv w r q g L cn (k + 1) V49 from by
              refine ⟨es ++ [⟨key, val⟩], cs ++ [cc], a2, (.slice AvE42 (k + 1) cvE42), (.slice AvC46 (k + 1) cvC46), QE43, QC47, HS51.out.sub (List.sublist_cons_self _ _), ?_, ?_, by rw [List.length_append, HES.out]; rfl, by rw [List.length_append, HCS.out]; rfl, HA2.out, ?_⟩
              · rw [ev_append]; exact HQvE42.out
              · rw [iv_append]; exact HQvC46.out
              · exact HPN.out)
            go_wp2
            go_roundw
            case rel => exact ⟨k + 1, by omega, by go_num, HFIN.out⟩
            case measure => simp [intOf]; omega
      · obtain rfl : k = cn := by omega
        have HPE := Lib.hid (show pEnts L k 8 = (es, cs, a) by rw [HP.out, pEnts_stop L _ a (.inl (Nat.sub_self _))]; simp)
        clear HBK
        obtain ⟨AE, cE, rfl⟩ := HQE.out.slice
        obtain ⟨AC, cC, rfl⟩ := HQC.out.slice
        have HLB := Lib.hid (show k ≤ 65535 ∧ es.length = k ∧ cs.length = k from ⟨by omega, HES.out, HCS.out⟩)
        have HPN := Lib.hid (show pNd L = ((⟨1, es, cs, [], [], 0, noS⟩ : Nd), a) by
          unfold pNd
          rw [if_pos HKD.out.symm, ← HCN.out, HPE.out])
        have HNO := Lib.hid (show ∀ (V : World) (o1 o2 o3 : Obj), Rw w V ((q, o1) :: (g, o2) :: (r, o3) :: (QE ++ (QC ++ []))) → NdO V w.heap.size (⟨1, es, cs, [], [], 0, noS⟩ : Nd) (.slice AE k cE) (.slice AC k cC) nilV nilV from fun V o1 o2 o3 h =>
          ⟨by have h1 := HQE.out.ownsB (w := V) (base := w.heap.size) (fun p hp => h.all p (by simp [hp])) (fun p hp => h.ge p (by simp [hp])); rw [HES.out]; exact h1,
           by have h1 := HQC.out.ownsB (w := V) (base := w.heap.size) (fun p hp => h.all p (by simp [hp])) (fun p hp => h.ge p (by simp [hp])); rw [HCS.out]; exact h1, OwnT.nil _ _, OwnI.nil _ _⟩)
        have HS20 := Lib.hid (show Rw w wr ((q, ndRow 1 (.slice AE k cE) (.slice AC k cC) nilV nilV 0 noS) :: (g, bkRow L a) :: (r, ndRow 0 nilV nilV nilV nilV 0 ⟨#[]⟩) :: (QE ++ (QC ++ []))) from HS.out)
        have HSH := Lib.hid (pg_short g a L wr ⟨HS20.out.get 1 rfl, HL.out⟩)
        by_cases hfs : 512 < a
        · rw [decide_eq_true hfs] at HSH
          have HD := Lib.hid (decN_bad (L := L) (fun h => by have h1 := h.2.2.1; rw [HPN.out] at h1; dsimp only at h1; omega))
          clear hfs
          go_wp2_with fail
          refine HSH.out.mono ?_
          rintro e w21 ⟨rfl, rfl⟩
          have b7 := bad_end HS20.out (i := 2) rfl
          have c7 := b7.1
          have f7 := b7.2.1
          have HB7 := Lib.hid b7.2.2
          clear b7
          unfold nilV at c7
          go_wp2
          exact bodyPost_ret (results_cr2 rfl _ _ r 26 (ndC zNd nilV nilV nilV nilV) (0, 0) _ rfl HB7.out.1 Try.underlying26 rfl sz_nd) rfl ⟨nilV, nilV, nilV, nilV, by rw [HD.out]; rfl, by rw [HD.out]; exact NdO.zero _ _, HB7.out.2⟩
        rw [decide_eq_false hfs] at HSH
        have HBL := Lib.hid (pg_blank g a L wr ⟨HS20.out.get 1 rfl, HL.out⟩ (by omega))
        have HAL := Lib.hid (show a ≤ 512 by omega)
        clear hfs
        go_wp2_with fail
        refine HSH.out.mono ?_
        rintro e w21 ⟨rfl, rfl⟩
        go_wp2_with fail
        refine HBL.out.mono ?_
        rintro e W22 ⟨rfl, -, hO⟩
        have HS22 := Lib.hid (HS20.out.below (hO.below (Nat.le_refl _) (by simp)))
        clear hO
        obtain ⟨bl, hbl⟩ : ∃ bl, bl = blankL L a := ⟨_, rfl⟩
        rw [← hbl]
        have HBB := Lib.hid hbl
        clear hbl
        cases bl
        · have HD := Lib.hid (decN_bad (L := L) (fun h => by have h1 := h.2.2.2.1; rw [HPN.out] at h1; rw [← HBB.out] at h1; cases h1))
          have b7 := bad_end HS22.out (i := 2) rfl
          have c7 := b7.1
          have f7 := b7.2.1
          have HB7 := Lib.hid b7.2.2
          clear b7
          unfold nilV at c7
          go_wp2
          exact bodyPost_ret (results_cr2 rfl _ _ r 26 (ndC zNd nilV nilV nilV nilV) (0, 0) _ rfl HB7.out.1 Try.underlying26 rfl sz_nd) rfl ⟨nilV, nilV, nilV, nilV, by rw [HD.out]; rfl, by rw [HD.out]; exact NdO.zero _ _, HB7.out.2⟩
        have HN22 := Lib.hid ((HNO.out W22 _ _ _ HS22.out).rd (by have := HLB.out; dsimp only; (try simp only [List.length_nil]); (try omega)) (by have := HLB.out; dsimp only; (try simp only [List.length_nil]); (try omega)) (by have := HLB.out; dsimp only; (try simp only [List.length_nil]); (try omega)) (by have := HLB.out; dsimp only; (try simp only [List.length_nil]); (try omega)))
        have HFT := Lib.hid (pg_Fits (⟨1, es, cs, [], [], 0, noS⟩ : Nd) (.slice AE k cE) (.slice AC k cC) nilV nilV W22 HN22.out)
        obtain ⟨ft, hft⟩ : ∃ ft, ft = fitsN (⟨1, es, cs, [], [], 0, noS⟩ : Nd) := ⟨_, rfl⟩
        rw [← hft] at HFT
        have HFF := Lib.hid hft
        clear hft
        unfold ndC at HFT
        dsimp only at HFT
        have c7 := cell7 (n := (⟨1, es, cs, [], [], 0, noS⟩ : Nd)) (vE := (.slice AE k cE)) (vC := (.slice AC k cC)) (vK := nilV) (vD := nilV) (HS22.out.get 0 rfl)
        dsimp only at c7
        go_wp2_with fail
        clear c7
        refine HFT.out.mono ?_
        rintro e W23 ⟨rfl, hB⟩
        have HS23 := Lib.hid (HS22.out.below hB)
        have HN23 := Lib.hid (HN22.out.ext hB)
        clear hB
        cases ft
        · have HD := Lib.hid (decN_bad (L := L) (fun h => by have h1 := h.2.2.2.2.1; rw [HPN.out] at h1; rw [← HFF.out] at h1; cases h1))
          have b7 := bad_end HS23.out (i := 2) rfl
          have c7 := b7.1
          have f7 := b7.2.1
          have HB7 := Lib.hid b7.2.2
          clear b7
          unfold nilV at c7
          go_wp2
          exact bodyPost_ret (results_cr2 rfl _ _ r 26 (ndC zNd nilV nilV nilV nilV) (0, 0) _ rfl HB7.out.1 Try.underlying26 rfl sz_nd) rfl ⟨nilV, nilV, nilV, nilV, by rw [HD.out]; rfl, by rw [HD.out]; exact NdO.zero _ _, HB7.out.2⟩
        have HSB := Lib.hid (pg_sameBytes (⟨1, es, cs, [], [], 0, noS⟩ : Nd) (.slice AE k cE) (.slice AC k cC) nilV nilV A c L W23 HN23.out (HR.out.ext HS23.out.bl) HFF.out.symm)
        obtain ⟨sb, hsb⟩ : ∃ sb, sb = decide (encN (⟨1, es, cs, [], [], 0, noS⟩ : Nd) = L) := ⟨_, rfl⟩
        rw [← hsb] at HSB
        have HBD := Lib.hid hsb
        clear hsb
        unfold ndC at HSB
        dsimp only at HSB
        have c7 := cell7 (n := (⟨1, es, cs, [], [], 0, noS⟩ : Nd)) (vE := (.slice AE k cE)) (vC := (.slice AC k cC)) (vK := nilV) (vD := nilV) (HS23.out.get 0 rfl)
        dsimp only at c7
        go_wp2_with fail
        clear c7
        refine HSB.out.mono ?_
        rintro e W24 ⟨rfl, hB⟩
        have HS24 := Lib.hid (HS23.out.below hB)
        clear hB
        cases sb
        · have HD := Lib.hid (decN_bad (L := L) (fun h => by have h1 := h.2.2.2.2.2; rw [HPN.out] at h1; have h2 := HBD.out; rw [decide_eq_true h1] at h2; cases h2))
          have b7 := bad_end HS24.out (i := 2) rfl
          have c7 := b7.1
          have f7 := b7.2.1
          have HB7 := Lib.hid b7.2.2
          clear b7
          unfold nilV at c7
          go_wp2
          exact bodyPost_ret (results_cr2 rfl _ _ r 26 (ndC zNd nilV nilV nilV nilV) (0, 0) _ rfl HB7.out.1 Try.underlying26 rfl sz_nd) rfl ⟨nilV, nilV, nilV, nilV, by rw [HD.out]; rfl, by rw [HD.out]; exact NdO.zero _ _, HB7.out.2⟩
        have HD := Lib.hid (show decN L = ((⟨1, es, cs, [], [], 0, noS⟩ : Nd), 0) by
          unfold decN
          rw [if_pos ((pageL_iff L).2 (by rw [HPN.out]; exact ⟨H181.out, HVS.out, HAL.out, HBB.out.symm, HFF.out.symm, of_decide_eq_true HBD.out.symm⟩)), HPN.out])
        have c7 := cell7 (n := (⟨1, es, cs, [], [], 0, noS⟩ : Nd)) (vE := (.slice AE k cE)) (vC := (.slice AC k cC)) (vK := nilV) (vD := nilV) (HS24.out.get 0 rfl)
        dsimp only at c7
        have b7 := bad_end HS24.out (i := 2) rfl
        have d7 := b7.1
        have f7 := b7.2.1
        clear b7
        obtain ⟨W26, hW26⟩ : ∃ W26, W26 = ((((((W24.setCell ⟨r, 0, none⟩ (.int .i64 1)).setCell ⟨r, 1, none⟩ ((.slice AE k cE))).setCell ⟨r, 2, none⟩ ((.slice AC k cC))).setCell ⟨r, 3, none⟩ (.slice none 0 0)).setCell ⟨r, 4, none⟩ (.slice none 0 0)).setCell ⟨r, 5, none⟩ (.int .i64 0)).setCell ⟨r, 6, none⟩ (.string noS) := ⟨_, rfl⟩
        have hp7 : put7 W24 r (⟨1, es, cs, [], [], 0, noS⟩ : Nd) (.slice AE k cE) (.slice AC k cC) nilV nilV = W26 := by rw [hW26]; rfl
        have HS26 := Lib.hid (show Rw w W26 ((q, ndRow 1 (.slice AE k cE) (.slice AC k cC) nilV nilV 0 noS) :: (g, bkRow L a) :: (r, .cells (ndC (⟨1, es, cs, [], [], 0, noS⟩ : Nd) (.slice AE k cE) (.slice AC k cC) nilV nilV) 26 (0, 0)) :: (QE ++ (QC ++ []))) by rw [← hp7]; exact HS24.out.upd 2 rfl only7 (row7 (n := zNd) (m := (⟨1, es, cs, [], [], 0, noS⟩ : Nd)) (HS24.out.get 2 rfl)))
        clear hp7
        unfold nilV at d7 c7
        go_wp2
        rw [← hW26]
        clear hW26 c7 d7 f7
        have hrow := HS26.out.get 2 rfl
        refine bodyPost_ret (results_cr2 rfl _ _ r 26 (ndC (⟨1, es, cs, [], [], 0, noS⟩ : Nd) (.slice AE k cE) (.slice AC k cC) nilV nilV) (0, 0) _ rfl hrow Try.underlying26 rfl sz_nd) rfl ?_
        refine ⟨(.slice AE k cE), (.slice AC k cC), nilV, nilV, ?_, ?_, HS26.out.bl⟩
        · rw [HD.out]; rfl
        · rw [HD.out]; exact HNO.out _ _ _ _ HS26.out
  have q1 : ((kd : Int) == 1) = false := by simp; omega
  by_cases k2 : kd = 2
  · subst k2
    clear q1
    obtain ⟨iI, hiI⟩ := info_int_parts
    have HII := Lib.hid hiI
    obtain ⟨iS, hiS⟩ := info_str_parts
    have HIS := Lib.hid hiS
    clear hiI hiS
    have HQD := Lib.hid (QV.nil 3 1)
    obtain ⟨n0, hn0⟩ : ∃ n0, n0 = num L 8 4 := ⟨_, rfl⟩
    have HN0 := Lib.hid hn0
    clear hn0
    go_upto_region 17 with fail
    obtain ⟨Vd, hVd⟩ : ∃ Vd, Vd = W8.drew := ⟨_, rfl⟩
    have HS1 := Lib.hid (show Rw w Vd ((q, ndRow 2 nilV nilV nilV nilV 0 ⟨#[]⟩) :: (g, bkRow L 8) :: (r, ndRow 0 nilV nilV nilV nilV 0 ⟨#[]⟩) :: ([] ++ ([] ++ []))) by rw [hVd]; exact HS8.out.drew)
    have hT : Vd.cell? ⟨q, 4, none⟩ = some nilV := cell_of_row _ q 4 _ _ _ (HS1.out.get 0 rfl)
    refine wp_region_z (fun w' => True) (fun w' => w'.cell? ⟨q, 4, none⟩ = some nilV) 7 (by kernel_rfl) ?_
    rw [← hVd]
    clear hVd
    refine wpAnyZ.takeN (i := 0) (v := .pointer (some ⟨q, 4, none⟩)) rfl (by kernel_rfl) (by kernel_rfl) (by kernel_rfl) (by decide) (fun _ _ _ h => h) (by rfl) (fun w => ?zy) trivial (fun _ => hT) ?_
    case zy => (go_simp)
    (try simp only [Act.put, List.getElem_toArray, List.getElem_cons_zero, List.getElem_cons_succ, List.setIfInBounds_toArray, List.set_cons_zero, List.set_cons_succ])
    refine wpAnyZ.take (i := 1) (v := nilV) (U := fun w' => w'.cell? ⟨q, 4, none⟩ = some nilV) rfl (by kernel_rfl) (by kernel_rfl) (by kernel_rfl) (by decide) (fun _ _ _ h => h) (.inr ⟨fun _ h => h, by kernel_rfl⟩) (.inl (by kernel_rfl)) (.inl ⟨by rfl, fun w hw => ?zy⟩) hT trivial (fun _ => hT) ?_
    case zy => (dsimp only at hw; go_simp)
    (try simp only [Act.put, List.getElem_toArray, List.getElem_cons_zero, List.getElem_cons_succ, List.setIfInBounds_toArray, List.set_cons_zero, List.set_cons_succ])
    refine wpAnyZ.takeN (i := 2) (v := .pointer (some ⟨g, 0, none⟩)) rfl (by kernel_rfl) (by kernel_rfl) (by kernel_rfl) (by decide) (fun _ _ _ h => h) (by rfl) (fun w => ?zy) trivial (fun _ => hT) ?_
    case zy => (go_simp)
    (try simp only [Act.put, List.getElem_toArray, List.getElem_cons_zero, List.getElem_cons_succ, List.setIfInBounds_toArray, List.set_cons_zero, List.set_cons_succ])
    refine wpAnyZ.oneK (i := 3) (E := False) (by kernel_rfl) rfl (by rfl) (fun K hK => ?_)
    have HCa := Lib.hid ((by have h9 := pg_number g 8 4 L Vd ⟨HS1.out.get 1 rfl, HL.out⟩ (by decide) (by decide); rw [← HN0.out] at h9; exact h9 : Calls Try.prog 47 #[.pointer (some ⟨g, 0, none⟩), .int .i64 4] Vd fun e w' => e = .returned (.int .i64 (n0.1 : Int)) ∧ BkAt w' g L n0.2 ∧ Only [g] Vd w'))
    go_simp
    refine HCa.out.mono ?_
    rintro e V2 ⟨rfl, hB, hO⟩
    have HS3 := Lib.hid (show Rw w V2 ((q, ndRow 2 nilV nilV nilV nilV 0 ⟨#[]⟩) :: (g, bkRow L n0.2) :: (r, ndRow 0 nilV nilV nilV nilV 0 ⟨#[]⟩) :: ([] ++ ([] ++ []))) from HS1.out.upd 1 rfl hO hB.row)
    clear hB hO hT HCa
    have hT : V2.cell? ⟨q, 4, none⟩ = some nilV := cell_of_row _ q 4 _ _ _ (HS3.out.get 0 rfl)
    go_wp2_with fail
    refine hK.out _ _ ⟨⟨trivial, fun _ => hT⟩, ?_⟩
    clear hK
    (try simp only [Act.put, List.getElem_toArray, List.getElem_cons_zero, List.getElem_cons_succ, List.setIfInBounds_toArray, List.set_cons_zero, List.set_cons_succ])
    refine wpAnyZ.oneK (i := 4) (E := False) (by kernel_rfl) rfl (by rfl) (fun K hK => ?_)
    go_simp
    obtain ⟨b4, hb4⟩ : ∃ b, b = V2.heap.size := ⟨_, rfl⟩
    obtain ⟨V5, hV5⟩ : ∃ V, V = V2.alloc (.cells #[.int .i64 (n0.1 : Int)] 3) := ⟨_, rfl⟩
    have HS6 := Lib.hid (show Rw w V5 ((b4, .cells #[.int .i64 (n0.1 : Int)] 3 (0, 0)) :: (q, ndRow 2 nilV nilV nilV nilV 0 ⟨#[]⟩) :: (g, bkRow L n0.2) :: (r, ndRow 0 nilV nilV nilV nilV 0 ⟨#[]⟩) :: ([] ++ ([] ++ []))) by rw [hV5, hb4]; exact HS3.out.made _)
    rw [← hV5, ← hb4]
    clear hV5 hb4 hT
    have hT : V5.cell? ⟨q, 4, none⟩ = some nilV := cell_of_row _ q 4 _ _ _ (HS6.out.get 1 rfl)
    refine hK.out _ _ ⟨⟨trivial, fun _ => hT⟩, ?_⟩
    clear hK
    (try simp only [Act.put, List.getElem_toArray, List.getElem_cons_zero, List.getElem_cons_succ, List.setIfInBounds_toArray, List.set_cons_zero, List.set_cons_succ])
    refine wpAnyZ.oneK (i := 5) (E := False) (by kernel_rfl) rfl (by rfl) (fun K hK => ?_)
    have h9 : Rw w V5 (([(b4, .cells #[.int .i64 (n0.1 : Int)] 3 (0, 0)), (q, ndRow 2 nilV nilV nilV nilV 0 ⟨#[]⟩), (g, bkRow L n0.2), (r, ndRow 0 nilV nilV nilV nilV 0 ⟨#[]⟩)] ++ []) ++ ([] ++ [])) := by rw [List.append_assoc]; exact HS6.out
    obtain ⟨v7, V9, Q8, hrun, hq1, hS1⟩ := Rw.run_appQ Try.underlying23 HII.out.1 HII.out.2.1 HII.out.2.2.1 HII.out.2.2.2 rfl (by decide) 23 h9 HQD.out [.int .i64 (n0.1 : Int)] rfl (by intro u hu; simp at hu; rcases hu with rfl; rfl) (by omega) (by simp only [maxLen]; omega) b4 (HS6.out.get 0 rfl)
    clear h9
    rw [List.append_assoc] at hS1
    obtain ⟨Av7, cv7, rfl⟩ := hq1.slice
    have HQv7 := Lib.hid hq1
    have hS2 : Rw w V9 ((b4, .cells #[.int .i64 (n0.1 : Int)] 3 (0, 0)) :: (q, ndRow 2 nilV nilV nilV nilV 0 ⟨#[]⟩) :: (g, bkRow L n0.2) :: (r, ndRow 0 nilV nilV nilV nilV 0 ⟨#[]⟩) :: ([] ++ (Q8 ++ []))) := hS1
    have HS10 := Lib.hid (show Rw w V9 ((q, ndRow 2 nilV nilV nilV nilV 0 ⟨#[]⟩) :: (g, bkRow L n0.2) :: (r, ndRow 0 nilV nilV nilV nilV 0 ⟨#[]⟩) :: ([] ++ (Q8 ++ []))) from hS2.sub (List.sublist_cons_self _ _))
    clear hS1 hS2 hq1 hT
    have hT : V9.cell? ⟨q, 4, none⟩ = some nilV := cell_of_row _ q 4 _ _ _ (HS10.out.get 0 rfl)
    refine step_app1 _ _ rfl rfl rfl rfl hrun ?_
    clear hrun
    refine hK.out _ _ ⟨⟨trivial, fun _ => hT⟩, ?_⟩
    clear hK
    (try simp only [Act.put, List.getElem_toArray, List.getElem_cons_zero, List.getElem_cons_succ, List.setIfInBounds_toArray, List.set_cons_zero, List.set_cons_succ])
    refine wpAnyZ.takeN (i := 6) (v := .pointer (some ⟨q, 4, none⟩)) rfl (by kernel_rfl) (by kernel_rfl) (by kernel_rfl) (by decide) (fun _ _ _ h => h) (by rfl) (fun w => ?zy) trivial (fun _ => hT) ?_
    case zy => (go_simp)
    (try simp only [Act.put, List.getElem_toArray, List.getElem_cons_zero, List.getElem_cons_succ, List.setIfInBounds_toArray, List.set_cons_zero, List.set_cons_succ])
    refine wpAnyZ.oneK (i := 7) (E := False) (by kernel_rfl) rfl (by rfl) (fun K hK => ?_)
    have hrw := HS10.out.get 0 rfl
    have c1 : V9.cell? ⟨q, 4, none⟩ = some nilV := cell_of_row _ q 4 _ _ _ hrw
    have f1 : V9.frozen? ⟨q, 4, none⟩ = false := frozen_of_row _ q 4 _ _ hrw
    have HS12 := Lib.hid (show Rw w (V9.setCell ⟨q, 4, none⟩ (.slice Av7 (0 + 1) cv7)) ((q, ndRow 2 nilV nilV nilV (.slice Av7 (0 + 1) cv7) 0 ⟨#[]⟩) :: (g, bkRow L n0.2) :: (r, ndRow 0 nilV nilV nilV nilV 0 ⟨#[]⟩) :: ([] ++ (Q8 ++ []))) from HS10.out.store 0 rfl 4 (.slice Av7 (0 + 1) cv7))
    go_simp
    obtain ⟨V11, hV11⟩ : ∃ V, V = V9.setCell ⟨q, 4, none⟩ (.slice Av7 (0 + 1) cv7) := ⟨_, rfl⟩
    rw [← hV11] at HS12 ⊢
    clear hV11 hrw c1 f1 hT
    refine hK.out _ _ ⟨⟨trivial, (fun h => (have h9 : (true : Bool) = false := h; by cases h9))⟩, ?_⟩
    clear hK
    refine wpAnyZ.done (by kernel_rfl) ?_ _
    have HI0 := Lib.hid (show IInv w r q g L cn 0 V11 from ⟨[], [(n0.1 : Int)], n0.2, nilV, (.slice Av7 (0 + 1) cv7), [], Q8, HS12.out, QV.nil _ _, HQv7.out, rfl, ⟨[], by (rw [HN0.out]), by rw [HN0.out]; simp⟩, by rw [HN0.out]; exact num_at L 8 4 (by decide)⟩)
    go_wp2_with fail
    go_loopw [12] (fun x wr => ∃ k : Nat, k ≤ cn ∧ x = .int .i64 k ∧ IInv w r q g L cn k wr) (fun x _ => cn - (intOf x).toNat)
    case atStart => exact ⟨0, by omega, rfl, HI0.out⟩
    case round =>
      obtain ⟨k, hk, rfl, ks, ds, a, vK, vD, QK, QD, hS, hqK, hqD, hks, ⟨ds2, hds, hP⟩, ha⟩ := hrel
      have HS := Lib.hid hS
      have HQK := Lib.hid hqK
      have HQD := Lib.hid hqD
      have HKS := Lib.hid hks
      have HDS := Lib.hid hds
      have HP := Lib.hid hP
      have HA := Lib.hid ha
      have HBK := Lib.hid (show BkAt wr g L a from ⟨hS.get 1 rfl, HL.out⟩)
      clear hS hqK hqD hks hds hP ha
      by_cases hkn : k < cn
      · have hk0 : (0 : Int) ≤ (k : Int) ∧ (k : Int) < (cn : Int) := by omega
        have HC1 := Lib.hid (pg_short g a L wr HBK.out)
        by_cases hsh : 512 < a
        · rw [decide_eq_true hsh] at HC1
          have HPE := Lib.hid (show pKeys L cn (num L 8 4).2 = (ks, ds2, a) by rw [HP.out, pKeys_stop L _ a (.inr hsh)]; simp)
          clear hsh
          go_wp2_with fail
          refine HC1.out.mono ?_
          rintro e w3 ⟨rfl, rfl⟩
          clear HBK HC1
          obtain ⟨AK, cK, rfl⟩ := HQK.out.slice
          obtain ⟨AD, cD, rfl⟩ := HQD.out.slice
          have HLB := Lib.hid (show k ≤ 65535 ∧ ks.length = k ∧ ds.length = k + 1 from ⟨by omega, HKS.out, by have h9 := HQD.out.len; rw [iv_length, Nat.mul_one] at h9; exact h9⟩)
          have HPN := Lib.hid (show pNd L = ((⟨2, [], [], ks, ds, 0, noS⟩ : Nd), a) by
            unfold pNd
            rw [if_neg (by rw [← HKD.out]; decide), if_pos HKD.out.symm, ← HCN.out, HPE.out, HDS.out])
          have HNO := Lib.hid (show ∀ (V : World) (o1 o2 o3 : Obj), Rw w V ((q, o1) :: (g, o2) :: (r, o3) :: (QK ++ (QD ++ []))) → NdO V w.heap.size (⟨2, [], [], ks, ds, 0, noS⟩ : Nd) nilV nilV (.slice AK k cK) (.slice AD (k + 1) cD) from fun V o1 o2 o3 h =>
            ⟨OwnE.nil _ _, OwnI.nil _ _, by have h1 := HQK.out.ownsB (w := V) (base := w.heap.size) (fun p hp => h.all p (by simp [hp])) (fun p hp => h.ge p (by simp [hp])); rw [HKS.out]; exact h1,
             by have h1 := HQD.out.ownsB (w := V) (base := w.heap.size) (fun p hp => h.all p (by simp [hp])) (fun p hp => h.ge p (by simp [hp])); rw [HLB.out.2.2]; exact h1⟩)
          have HS20 := Lib.hid (show Rw w w3 ((q, ndRow 2 nilV nilV (.slice AK k cK) (.slice AD (k + 1) cD) 0 noS) :: (g, bkRow L a) :: (r, ndRow 0 nilV nilV nilV nilV 0 ⟨#[]⟩) :: (QK ++ (QD ++ []))) from HS.out)
          have HSH := Lib.hid (pg_short g a L w3 ⟨HS20.out.get 1 rfl, HL.out⟩)
          by_cases hfs : 512 < a
          · rw [decide_eq_true hfs] at HSH
            have HD := Lib.hid (decN_bad (L := L) (fun h => by have h1 := h.2.2.1; rw [HPN.out] at h1; dsimp only at h1; omega))
            clear hfs
            go_wp2_with fail
            refine HSH.out.mono ?_
            rintro e w21 ⟨rfl, rfl⟩
            have b7 := bad_end HS20.out (i := 2) rfl
            have c7 := b7.1
            have f7 := b7.2.1
            have HB7 := Lib.hid b7.2.2
            clear b7
            unfold nilV at c7
            go_wp2
            exact bodyPost_ret (results_cr2 rfl _ _ r 26 (ndC zNd nilV nilV nilV nilV) (0, 0) _ rfl HB7.out.1 Try.underlying26 rfl sz_nd) rfl ⟨nilV, nilV, nilV, nilV, by rw [HD.out]; rfl, by rw [HD.out]; exact NdO.zero _ _, HB7.out.2⟩
          rw [decide_eq_false hfs] at HSH
          have HBL := Lib.hid (pg_blank g a L w3 ⟨HS20.out.get 1 rfl, HL.out⟩ (by omega))
          have HAL := Lib.hid (show a ≤ 512 by omega)
          clear hfs
          go_wp2_with fail
          refine HSH.out.mono ?_
          rintro e w21 ⟨rfl, rfl⟩
          go_wp2_with fail
          refine HBL.out.mono ?_
          rintro e W22 ⟨rfl, -, hO⟩
          have HS22 := Lib.hid (HS20.out.below (hO.below (Nat.le_refl _) (by simp)))
          clear hO
          obtain ⟨bl, hbl⟩ : ∃ bl, bl = blankL L a := ⟨_, rfl⟩
          rw [← hbl]
          have HBB := Lib.hid hbl
          clear hbl
          cases bl
          · have HD := Lib.hid (decN_bad (L := L) (fun h => by have h1 := h.2.2.2.1; rw [HPN.out] at h1; rw [← HBB.out] at h1; cases h1))
            have b7 := bad_end HS22.out (i := 2) rfl
            have c7 := b7.1
            have f7 := b7.2.1
            have HB7 := Lib.hid b7.2.2
            clear b7
            unfold nilV at c7
            go_wp2
            exact bodyPost_ret (results_cr2 rfl _ _ r 26 (ndC zNd nilV nilV nilV nilV) (0, 0) _ rfl HB7.out.1 Try.underlying26 rfl sz_nd) rfl ⟨nilV, nilV, nilV, nilV, by rw [HD.out]; rfl, by rw [HD.out]; exact NdO.zero _ _, HB7.out.2⟩
          have HN22 := Lib.hid ((HNO.out W22 _ _ _ HS22.out).rd (by have := HLB.out; dsimp only; (try simp only [List.length_nil]); (try omega)) (by have := HLB.out; dsimp only; (try simp only [List.length_nil]); (try omega)) (by have := HLB.out; dsimp only; (try simp only [List.length_nil]); (try omega)) (by have := HLB.out; dsimp only; (try simp only [List.length_nil]); (try omega)))
          have HFT := Lib.hid (pg_Fits (⟨2, [], [], ks, ds, 0, noS⟩ : Nd) nilV nilV (.slice AK k cK) (.slice AD (k + 1) cD) W22 HN22.out)
          obtain ⟨ft, hft⟩ : ∃ ft, ft = fitsN (⟨2, [], [], ks, ds, 0, noS⟩ : Nd) := ⟨_, rfl⟩
          rw [← hft] at HFT
          have HFF := Lib.hid hft
          clear hft
          unfold ndC at HFT
          dsimp only at HFT
          have c7 := cell7 (n := (⟨2, [], [], ks, ds, 0, noS⟩ : Nd)) (vE := nilV) (vC := nilV) (vK := (.slice AK k cK)) (vD := (.slice AD (k + 1) cD)) (HS22.out.get 0 rfl)
          dsimp only at c7
          go_wp2_with fail
          clear c7
          refine HFT.out.mono ?_
          rintro e W23 ⟨rfl, hB⟩
          have HS23 := Lib.hid (HS22.out.below hB)
          have HN23 := Lib.hid (HN22.out.ext hB)
          clear hB
          cases ft
          · have HD := Lib.hid (decN_bad (L := L) (fun h => by have h1 := h.2.2.2.2.1; rw [HPN.out] at h1; rw [← HFF.out] at h1; cases h1))
            have b7 := bad_end HS23.out (i := 2) rfl
            have c7 := b7.1
            have f7 := b7.2.1
            have HB7 := Lib.hid b7.2.2
            clear b7
            unfold nilV at c7
            go_wp2
            exact bodyPost_ret (results_cr2 rfl _ _ r 26 (ndC zNd nilV nilV nilV nilV) (0, 0) _ rfl HB7.out.1 Try.underlying26 rfl sz_nd) rfl ⟨nilV, nilV, nilV, nilV, by rw [HD.out]; rfl, by rw [HD.out]; exact NdO.zero _ _, HB7.out.2⟩
          have HSB := Lib.hid (pg_sameBytes (⟨2, [], [], ks, ds, 0, noS⟩ : Nd) nilV nilV (.slice AK k cK) (.slice AD (k + 1) cD) A c L W23 HN23.out (HR.out.ext HS23.out.bl) HFF.out.symm)
          obtain ⟨sb, hsb⟩ : ∃ sb, sb = decide (encN (⟨2, [], [], ks, ds, 0, noS⟩ : Nd) = L) := ⟨_, rfl⟩
          rw [← hsb] at HSB
          have HBD := Lib.hid hsb
          clear hsb
          unfold ndC at HSB
          dsimp only at HSB
          have c7 := cell7 (n := (⟨2, [], [], ks, ds, 0, noS⟩ : Nd)) (vE := nilV) (vC := nilV) (vK := (.slice AK k cK)) (vD := (.slice AD (k + 1) cD)) (HS23.out.get 0 rfl)
          dsimp only at c7
          go_wp2_with fail
          clear c7
          refine HSB.out.mono ?_
          rintro e W24 ⟨rfl, hB⟩
          have HS24 := Lib.hid (HS23.out.below hB)
          clear hB
          cases sb
          · have HD := Lib.hid (decN_bad (L := L) (fun h => by have h1 := h.2.2.2.2.2; rw [HPN.out] at h1; have h2 := HBD.out; rw [decide_eq_true h1] at h2; cases h2))
            have b7 := bad_end HS24.out (i := 2) rfl
            have c7 := b7.1
            have f7 := b7.2.1
            have HB7 := Lib.hid b7.2.2
            clear b7
            unfold nilV at c7
            go_wp2
            exact bodyPost_ret (results_cr2 rfl _ _ r 26 (ndC zNd nilV nilV nilV nilV) (0, 0) _ rfl HB7.out.1 Try.underlying26 rfl sz_nd) rfl ⟨nilV, nilV, nilV, nilV, by rw [HD.out]; rfl, by rw [HD.out]; exact NdO.zero _ _, HB7.out.2⟩
          have HD := Lib.hid (show decN L = ((⟨2, [], [], ks, ds, 0, noS⟩ : Nd), 0) by
            unfold decN
            rw [if_pos ((pageL_iff L).2 (by rw [HPN.out]; exact ⟨H181.out, HVS.out, HAL.out, HBB.out.symm, HFF.out.symm, of_decide_eq_true HBD.out.symm⟩)), HPN.out])
          have c7 := cell7 (n := (⟨2, [], [], ks, ds, 0, noS⟩ : Nd)) (vE := nilV) (vC := nilV) (vK := (.slice AK k cK)) (vD := (.slice AD (k + 1) cD)) (HS24.out.get 0 rfl)
          dsimp only at c7
          have b7 := bad_end HS24.out (i := 2) rfl
          have d7 := b7.1
          have f7 := b7.2.1
          clear b7
          obtain ⟨W26, hW26⟩ : ∃ W26, W26 = ((((((W24.setCell ⟨r, 0, none⟩ (.int .i64 2)).setCell ⟨r, 1, none⟩ (.slice none 0 0)).setCell ⟨r, 2, none⟩ (.slice none 0 0)).setCell ⟨r, 3, none⟩ ((.slice AK k cK))).setCell ⟨r, 4, none⟩ ((.slice AD (k + 1) cD))).setCell ⟨r, 5, none⟩ (.int .i64 0)).setCell ⟨r, 6, none⟩ (.string noS) := ⟨_, rfl⟩
          have hp7 : put7 W24 r (⟨2, [], [], ks, ds, 0, noS⟩ : Nd) nilV nilV (.slice AK k cK) (.slice AD (k + 1) cD) = W26 := by rw [hW26]; rfl
          have HS26 := Lib.hid (show Rw w W26 ((q, ndRow 2 nilV nilV (.slice AK k cK) (.slice AD (k + 1) cD) 0 noS) :: (g, bkRow L a) :: (r, .cells (ndC (⟨2, [], [], ks, ds, 0, noS⟩ : Nd) nilV nilV (.slice AK k cK) (.slice AD (k + 1) cD)) 26 (0, 0)) :: (QK ++ (QD ++ []))) by rw [← hp7]; exact HS24.out.upd 2 rfl only7 (row7 (n := zNd) (m := (⟨2, [], [], ks, ds, 0, noS⟩ : Nd)) (HS24.out.get 2 rfl)))
          clear hp7
          unfold nilV at d7 c7
          go_wp2
          rw [← hW26]
          clear hW26 c7 d7 f7
          have hrow := HS26.out.get 2 rfl
          refine bodyPost_ret (results_cr2 rfl _ _ r 26 (ndC (⟨2, [], [], ks, ds, 0, noS⟩ : Nd) nilV nilV (.slice AK k cK) (.slice AD (k + 1) cD)) (0, 0) _ rfl hrow Try.underlying26 rfl sz_nd) rfl ?_
          refine ⟨nilV, nilV, (.slice AK k cK), (.slice AD (k + 1) cD), ?_, ?_, HS26.out.bl⟩
          · rw [HD.out]; rfl
          · rw [HD.out]; exact HNO.out _ _ _ _ HS26.out
        · rw [decide_eq_false hsh] at HC1
          obtain ⟨kk, hkk⟩ : ∃ kk, kk = num L a 1 := ⟨_, rfl⟩
          obtain ⟨ss, hss⟩ : ∃ ss, ss = nxt L kk.2 kk.1 := ⟨_, rfl⟩
          obtain ⟨nn, hnn⟩ : ∃ nn, nn = num L ss.2 4 := ⟨_, rfl⟩
          have HPN := Lib.hid (show pKeys L cn (num L 8 4).2 = ((ks ++ [strS ss.1]) ++ (pKeys L (cn - (k + 1)) nn.2).1, (ds2 ++ [(nn.1 : Int)]) ++ (pKeys L (cn - (k + 1)) nn.2).2.1, (pKeys L (cn - (k + 1)) nn.2).2.2) by
            rw [HP.out, show cn - k = (cn - (k + 1)) + 1 by omega, pKeys, if_neg hsh, pKey_def L a kk ss hkk hss, ← hnn]
            simp)
          have hk1 : kk.1 < 256 := by rw [hkk]; exact num1_lt L a
          have hk2 : kk.2 ≤ 513 := by rw [hkk]; exact num_at L a 1 HA.out
          have hs2 : ss.2 ≤ 513 := by rw [hss]; exact nxt_at L kk.2 kk.1 hk2
          have hn2 : nn.2 ≤ 513 := by rw [hnn]; exact num_at L ss.2 4 hs2
          have HKK := Lib.hid hkk
          have HSS := Lib.hid hss
          have HNN := Lib.hid hnn
          obtain ⟨key, hkey⟩ : ∃ key, key = strS ss.1 := ⟨_, rfl⟩
          rw [← hkey] at HPN
          have HKEY := Lib.hid hkey
          clear hkk hss hnn hsh HP hkey
          go_wp2_with fail
          refine HC1.out.mono ?_
          rintro e w3 ⟨rfl, rfl⟩
          clear HC1 HBK
          go_upto_region 21 with fail
          obtain ⟨Vd, hVd⟩ : ∃ Vd, Vd = w3.drew := ⟨_, rfl⟩
          have HS13 := Lib.hid (show Rw w Vd ((q, ndRow 2 nilV nilV vK vD 0 ⟨#[]⟩) :: (g, bkRow L a) :: (r, ndRow 0 nilV nilV nilV nilV 0 ⟨#[]⟩) :: (QK ++ (QD ++ []))) by rw [hVd]; exact HS.out.drew)
          have hT : Vd.cell? ⟨q, 3, none⟩ = some vK := cell_of_row _ q 3 _ _ _ (HS13.out.get 0 rfl)
          refine wp_region_z (fun w' => True) (fun w' => w'.cell? ⟨q, 3, none⟩ = some vK) 9 (by kernel_rfl) ?_
          rw [← hVd]
          clear hVd
          refine wpAnyZ.takeN (i := 0) (v := .pointer (some ⟨q, 3, none⟩)) rfl (by kernel_rfl) (by kernel_rfl) (by kernel_rfl) (by decide) (fun _ _ _ h => h) (by rfl) (fun w => ?zy) trivial (fun _ => hT) ?_
          case zy => (go_simp)
          (try simp only [Act.put, List.getElem_toArray, List.getElem_cons_zero, List.getElem_cons_succ, List.setIfInBounds_toArray, List.set_cons_zero, List.set_cons_succ])
          refine wpAnyZ.take (i := 1) (v := vK) (U := fun w' => w'.cell? ⟨q, 3, none⟩ = some vK) rfl (by kernel_rfl) (by kernel_rfl) (by kernel_rfl) (by decide) (fun _ _ _ h => h) (.inr ⟨fun _ h => h, by kernel_rfl⟩) (.inl (by kernel_rfl)) (.inl ⟨by rfl, fun w hw => ?zy⟩) hT trivial (fun _ => hT) ?_
          case zy => (dsimp only at hw; go_simp)
          (try simp only [Act.put, List.getElem_toArray, List.getElem_cons_zero, List.getElem_cons_succ, List.setIfInBounds_toArray, List.set_cons_zero, List.set_cons_succ])
          refine wpAnyZ.takeN (i := 2) (v := .pointer (some ⟨g, 0, none⟩)) rfl (by kernel_rfl) (by kernel_rfl) (by kernel_rfl) (by decide) (fun _ _ _ h => h) (by rfl) (fun w => ?zy) trivial (fun _ => hT) ?_
          case zy => (go_simp)
          (try simp only [Act.put, List.getElem_toArray, List.getElem_cons_zero, List.getElem_cons_succ, List.setIfInBounds_toArray, List.set_cons_zero, List.set_cons_succ])
          refine wpAnyZ.takeN (i := 3) (v := .pointer (some ⟨g, 0, none⟩)) rfl (by kernel_rfl) (by kernel_rfl) (by kernel_rfl) (by decide) (fun _ _ _ h => h) (by rfl) (fun w => ?zy) trivial (fun _ => hT) ?_
          case zy => (go_simp)
          (try simp only [Act.put, List.getElem_toArray, List.getElem_cons_zero, List.getElem_cons_succ, List.setIfInBounds_toArray, List.set_cons_zero, List.set_cons_succ])
          refine wpAnyZ.oneK (i := 4) (E := False) (by kernel_rfl) rfl (by rfl) (fun K hK => ?_)
          have HCa := Lib.hid ((by have h9 := pg_number g a 1 L Vd ⟨HS13.out.get 1 rfl, HL.out⟩ HA.out (by decide); rw [← HKK.out] at h9; exact h9 : Calls Try.prog 47 #[.pointer (some ⟨g, 0, none⟩), .int .i64 1] Vd fun e w' => e = .returned (.int .i64 (kk.1 : Int)) ∧ BkAt w' g L kk.2 ∧ Only [g] Vd w'))
          go_simp
          refine HCa.out.mono ?_
          rintro e V14 ⟨rfl, hB, hO⟩
          have HS15 := Lib.hid (show Rw w V14 ((q, ndRow 2 nilV nilV vK vD 0 ⟨#[]⟩) :: (g, bkRow L kk.2) :: (r, ndRow 0 nilV nilV nilV nilV 0 ⟨#[]⟩) :: (QK ++ (QD ++ []))) from HS13.out.upd 1 rfl hO hB.row)
          clear hB hO hT HCa
          have hT : V14.cell? ⟨q, 3, none⟩ = some vK := cell_of_row _ q 3 _ _ _ (HS15.out.get 0 rfl)
          go_wp2_with fail
          refine hK.out _ _ ⟨⟨trivial, fun _ => hT⟩, ?_⟩
          clear hK
          (try simp only [Act.put, List.getElem_toArray, List.getElem_cons_zero, List.getElem_cons_succ, List.setIfInBounds_toArray, List.set_cons_zero, List.set_cons_succ])
          refine wpAnyZ.oneK (i := 5) (E := False) (by kernel_rfl) rfl (by rfl) (fun K hK => ?_)
          have HCa := Lib.hid ((by have h9 := pg_next g kk.2 kk.1 L V14 ⟨HS15.out.get 1 rfl, HL.out⟩ hk2 (by omega); rw [← HSS.out, ← HKEY.out] at h9; exact h9 : Calls Try.prog 50 #[.pointer (some ⟨g, 0, none⟩), .int .i64 (kk.1 : Int)] V14 fun e w' => e = .returned (.string key) ∧ BkAt w' g L ss.2 ∧ Only [g] V14 w'))
          go_simp
          refine HCa.out.mono ?_
          rintro e V16 ⟨rfl, hB, hO⟩
          have HS17 := Lib.hid (show Rw w V16 ((q, ndRow 2 nilV nilV vK vD 0 ⟨#[]⟩) :: (g, bkRow L ss.2) :: (r, ndRow 0 nilV nilV nilV nilV 0 ⟨#[]⟩) :: (QK ++ (QD ++ []))) from HS15.out.upd 1 rfl hO hB.row)
          clear hB hO hT HCa
          have hT : V16.cell? ⟨q, 3, none⟩ = some vK := cell_of_row _ q 3 _ _ _ (HS17.out.get 0 rfl)
          go_wp2_with fail
          refine hK.out _ _ ⟨⟨trivial, fun _ => hT⟩, ?_⟩
          clear hK
          (try simp only [Act.put, List.getElem_toArray, List.getElem_cons_zero, List.getElem_cons_succ, List.setIfInBounds_toArray, List.set_cons_zero, List.set_cons_succ])
          refine wpAnyZ.oneK (i := 6) (E := False) (by kernel_rfl) rfl (by rfl) (fun K hK => ?_)
          go_simp
          obtain ⟨b18, hb18⟩ : ∃ b, b = V16.heap.size := ⟨_, rfl⟩
          obtain ⟨V19, hV19⟩ : ∃ V, V = V16.alloc (.cells #[.string key] 9) := ⟨_, rfl⟩
          have HS20 := Lib.hid (show Rw w V19 ((b18, .cells #[.string key] 9 (0, 0)) :: (q, ndRow 2 nilV nilV vK vD 0 ⟨#[]⟩) :: (g, bkRow L ss.2) :: (r, ndRow 0 nilV nilV nilV nilV 0 ⟨#[]⟩) :: (QK ++ (QD ++ []))) by rw [hV19, hb18]; exact HS17.out.made _)
          rw [← hV19, ← hb18]
          clear hV19 hb18 hT
          have hT : V19.cell? ⟨q, 3, none⟩ = some vK := cell_of_row _ q 3 _ _ _ (HS20.out.get 1 rfl)
          refine hK.out _ _ ⟨⟨trivial, fun _ => hT⟩, ?_⟩
          clear hK
          (try simp only [Act.put, List.getElem_toArray, List.getElem_cons_zero, List.getElem_cons_succ, List.setIfInBounds_toArray, List.set_cons_zero, List.set_cons_succ])
          refine wpAnyZ.oneK (i := 7) (E := False) (by kernel_rfl) rfl (by rfl) (fun K hK => ?_)
          obtain ⟨v21, V23, Q22, hrun, hq1, hS1⟩ := Rw.run_appQ Try.underlying24 HIS.out.1 HIS.out.2.1 HIS.out.2.2.1 HIS.out.2.2.2 rfl (by decide) 24 (P := [(b18, .cells #[.string key] 9 (0, 0)), (q, ndRow 2 nilV nilV vK vD 0 ⟨#[]⟩), (g, bkRow L ss.2), (r, ndRow 0 nilV nilV nilV nilV 0 ⟨#[]⟩)]) (Q := QK) (T := QD ++ []) HS20.out HQK.out [.string key] rfl (by intro u hu; simp at hu; rcases hu with rfl; rfl) (by omega) (by simp only [maxLen]; omega) b18 (HS20.out.get 0 rfl)
          obtain ⟨Av21, cv21, rfl⟩ := hq1.slice
          have HQv21 := Lib.hid hq1
          have hS2 : Rw w V23 ((b18, .cells #[.string key] 9 (0, 0)) :: (q, ndRow 2 nilV nilV vK vD 0 ⟨#[]⟩) :: (g, bkRow L ss.2) :: (r, ndRow 0 nilV nilV nilV nilV 0 ⟨#[]⟩) :: (Q22 ++ (QD ++ []))) := hS1
          have HS24 := Lib.hid (show Rw w V23 ((q, ndRow 2 nilV nilV vK vD 0 ⟨#[]⟩) :: (g, bkRow L ss.2) :: (r, ndRow 0 nilV nilV nilV nilV 0 ⟨#[]⟩) :: (Q22 ++ (QD ++ []))) from hS2.sub (List.sublist_cons_self _ _))
          clear hS1 hS2 hq1 hT
          have hT : V23.cell? ⟨q, 3, none⟩ = some vK := cell_of_row _ q 3 _ _ _ (HS24.out.get 0 rfl)
          refine step_app1 _ _ rfl rfl rfl rfl hrun ?_
          clear hrun
          refine hK.out _ _ ⟨⟨trivial, fun _ => hT⟩, ?_⟩
          clear hK
          (try simp only [Act.put, List.getElem_toArray, List.getElem_cons_zero, List.getElem_cons_succ, List.setIfInBounds_toArray, List.set_cons_zero, List.set_cons_succ])
          refine wpAnyZ.takeN (i := 8) (v := .pointer (some ⟨q, 3, none⟩)) rfl (by kernel_rfl) (by kernel_rfl) (by kernel_rfl) (by decide) (fun _ _ _ h => h) (by rfl) (fun w => ?zy) trivial (fun _ => hT) ?_
          case zy => (go_simp)
          (try simp only [Act.put, List.getElem_toArray, List.getElem_cons_zero, List.getElem_cons_succ, List.setIfInBounds_toArray, List.set_cons_zero, List.set_cons_succ])
          refine wpAnyZ.oneK (i := 9) (E := False) (by kernel_rfl) rfl (by rfl) (fun K hK => ?_)
          have hrw := HS24.out.get 0 rfl
          have c1 : V23.cell? ⟨q, 3, none⟩ = some vK := cell_of_row _ q 3 _ _ _ hrw
          have f1 : V23.frozen? ⟨q, 3, none⟩ = false := frozen_of_row _ q 3 _ _ hrw
          have HS26 := Lib.hid (show Rw w (V23.setCell ⟨q, 3, none⟩ (.slice Av21 (k + 1) cv21)) ((q, ndRow 2 nilV nilV (.slice Av21 (k + 1) cv21) vD 0 ⟨#[]⟩) :: (g, bkRow L ss.2) :: (r, ndRow 0 nilV nilV nilV nilV 0 ⟨#[]⟩) :: (Q22 ++ (QD ++ []))) from HS24.out.store 0 rfl 3 (.slice Av21 (k + 1) cv21))
          go_simp
          obtain ⟨V25, hV25⟩ : ∃ V, V = V23.setCell ⟨q, 3, none⟩ (.slice Av21 (k + 1) cv21) := ⟨_, rfl⟩
          rw [← hV25] at HS26 ⊢
          clear hV25 hrw c1 f1 hT
          refine hK.out _ _ ⟨⟨trivial, (fun h => (have h9 : (true : Bool) = false := h; by cases h9))⟩, ?_⟩
          clear hK
          refine wpAnyZ.done (by kernel_rfl) ?_ _
          go_upto_region 22 with fail
          obtain ⟨Vd, hVd⟩ : ∃ Vd, Vd = V25.drew := ⟨_, rfl⟩
          have HS27 := Lib.hid (show Rw w Vd ((q, ndRow 2 nilV nilV (.slice Av21 (k + 1) cv21) vD 0 ⟨#[]⟩) :: (g, bkRow L ss.2) :: (r, ndRow 0 nilV nilV nilV nilV 0 ⟨#[]⟩) :: (Q22 ++ (QD ++ []))) by rw [hVd]; exact HS26.out.drew)
          have hT : Vd.cell? ⟨q, 4, none⟩ = some vD := cell_of_row _ q 4 _ _ _ (HS27.out.get 0 rfl)
          refine wp_region_z (fun w' => True) (fun w' => w'.cell? ⟨q, 4, none⟩ = some vD) 7 (by kernel_rfl) ?_
          rw [← hVd]
          clear hVd
          refine wpAnyZ.takeN (i := 0) (v := .pointer (some ⟨q, 4, none⟩)) rfl (by kernel_rfl) (by kernel_rfl) (by kernel_rfl) (by decide) (fun _ _ _ h => h) (by rfl) (fun w => ?zy) trivial (fun _ => hT) ?_
          case zy => (go_simp)
          (try simp only [Act.put, List.getElem_toArray, List.getElem_cons_zero, List.getElem_cons_succ, List.setIfInBounds_toArray, List.set_cons_zero, List.set_cons_succ])
          refine wpAnyZ.take (i := 1) (v := vD) (U := fun w' => w'.cell? ⟨q, 4, none⟩ = some vD) rfl (by kernel_rfl) (by kernel_rfl) (by kernel_rfl) (by decide) (fun _ _ _ h => h) (.inr ⟨fun _ h => h, by kernel_rfl⟩) (.inl (by kernel_rfl)) (.inl ⟨by rfl, fun w hw => ?zy⟩) hT trivial (fun _ => hT) ?_
          case zy => (dsimp only at hw; go_simp)
          (try simp only [Act.put, List.getElem_toArray, List.getElem_cons_zero, List.getElem_cons_succ, List.setIfInBounds_toArray, List.set_cons_zero, List.set_cons_succ])
          refine wpAnyZ.takeN (i := 2) (v := .pointer (some ⟨g, 0, none⟩)) rfl (by kernel_rfl) (by kernel_rfl) (by kernel_rfl) (by decide) (fun _ _ _ h => h) (by rfl) (fun w => ?zy) trivial (fun _ => hT) ?_
          case zy => (go_simp)
          (try simp only [Act.put, List.getElem_toArray, List.getElem_cons_zero, List.getElem_cons_succ, List.setIfInBounds_toArray, List.set_cons_zero, List.set_cons_succ])
          refine wpAnyZ.oneK (i := 3) (E := False) (by kernel_rfl) rfl (by rfl) (fun K hK => ?_)
          have HCa := Lib.hid ((by have h9 := pg_number g ss.2 4 L Vd ⟨HS27.out.get 1 rfl, HL.out⟩ hs2 (by decide); rw [← HNN.out] at h9; exact h9 : Calls Try.prog 47 #[.pointer (some ⟨g, 0, none⟩), .int .i64 4] Vd fun e w' => e = .returned (.int .i64 (nn.1 : Int)) ∧ BkAt w' g L nn.2 ∧ Only [g] Vd w'))
          go_simp
          refine HCa.out.mono ?_
          rintro e V28 ⟨rfl, hB, hO⟩
          have HS29 := Lib.hid (show Rw w V28 ((q, ndRow 2 nilV nilV (.slice Av21 (k + 1) cv21) vD 0 ⟨#[]⟩) :: (g, bkRow L nn.2) :: (r, ndRow 0 nilV nilV nilV nilV 0 ⟨#[]⟩) :: (Q22 ++ (QD ++ []))) from HS27.out.upd 1 rfl hO hB.row)
          clear hB hO hT HCa
          have hT : V28.cell? ⟨q, 4, none⟩ = some vD := cell_of_row _ q 4 _ _ _ (HS29.out.get 0 rfl)
          go_wp2_with fail
          refine hK.out _ _ ⟨⟨trivial, fun _ => hT⟩, ?_⟩
          clear hK
          (try simp only [Act.put, List.getElem_toArray, List.getElem_cons_zero, List.getElem_cons_succ, List.setIfInBounds_toArray, List.set_cons_zero, List.set_cons_succ])
          refine wpAnyZ.oneK (i := 4) (E := False) (by kernel_rfl) rfl (by rfl) (fun K hK => ?_)
          go_simp
          obtain ⟨b30, hb30⟩ : ∃ b, b = V28.heap.size := ⟨_, rfl⟩
          obtain ⟨V31, hV31⟩ : ∃ V, V = V28.alloc (.cells #[.int .i64 (nn.1 : Int)] 3) := ⟨_, rfl⟩
          have HS32 := Lib.hid (show Rw w V31 ((b30, .cells #[.int .i64 (nn.1 : Int)] 3 (0, 0)) :: (q, ndRow 2 nilV nilV (.slice Av21 (k + 1) cv21) vD 0 ⟨#[]⟩) :: (g, bkRow L nn.2) :: (r, ndRow 0 nilV nilV nilV nilV 0 ⟨#[]⟩) :: (Q22 ++ (QD ++ []))) by rw [hV31, hb30]; exact HS29.out.made _)
          rw [← hV31, ← hb30]
          clear hV31 hb30 hT
          have hT : V31.cell? ⟨q, 4, none⟩ = some vD := cell_of_row _ q 4 _ _ _ (HS32.out.get 1 rfl)
          refine hK.out _ _ ⟨⟨trivial, fun _ => hT⟩, ?_⟩
          clear hK
          (try simp only [Act.put, List.getElem_toArray, List.getElem_cons_zero, List.getElem_cons_succ, List.setIfInBounds_toArray, List.set_cons_zero, List.set_cons_succ])
          refine wpAnyZ.oneK (i := 5) (E := False) (by kernel_rfl) rfl (by rfl) (fun K hK => ?_)
          have h9 : Rw w V31 (([(b30, .cells #[.int .i64 (nn.1 : Int)] 3 (0, 0)), (q, ndRow 2 nilV nilV (.slice Av21 (k + 1) cv21) vD 0 ⟨#[]⟩), (g, bkRow L nn.2), (r, ndRow 0 nilV nilV nilV nilV 0 ⟨#[]⟩)] ++ Q22) ++ (QD ++ [])) := by rw [List.append_assoc]; exact HS32.out
          obtain ⟨v33, V35, Q34, hrun, hq1, hS1⟩ := Rw.run_appQ Try.underlying23 HII.out.1 HII.out.2.1 HII.out.2.2.1 HII.out.2.2.2 rfl (by decide) 23 h9 HQD.out [.int .i64 (nn.1 : Int)] rfl (by intro u hu; simp at hu; rcases hu with rfl; rfl) (by omega) (by simp only [maxLen]; omega) b30 (HS32.out.get 0 rfl)
          clear h9
          rw [List.append_assoc] at hS1
          obtain ⟨Av33, cv33, rfl⟩ := hq1.slice
          have HQv33 := Lib.hid hq1
          have hS2 : Rw w V35 ((b30, .cells #[.int .i64 (nn.1 : Int)] 3 (0, 0)) :: (q, ndRow 2 nilV nilV (.slice Av21 (k + 1) cv21) vD 0 ⟨#[]⟩) :: (g, bkRow L nn.2) :: (r, ndRow 0 nilV nilV nilV nilV 0 ⟨#[]⟩) :: (Q22 ++ (Q34 ++ []))) := hS1
          have HS36 := Lib.hid (show Rw w V35 ((q, ndRow 2 nilV nilV (.slice Av21 (k + 1) cv21) vD 0 ⟨#[]⟩) :: (g, bkRow L nn.2) :: (r, ndRow 0 nilV nilV nilV nilV 0 ⟨#[]⟩) :: (Q22 ++ (Q34 ++ []))) from hS2.sub (List.sublist_cons_self _ _))
          clear hS1 hS2 hq1 hT
          have hT : V35.cell? ⟨q, 4, none⟩ = some vD := cell_of_row _ q 4 _ _ _ (HS36.out.get 0 rfl)
          refine step_app1 _ _ rfl rfl rfl rfl hrun ?_
          clear hrun
          refine hK.out _ _ ⟨⟨trivial, fun _ => hT⟩, ?_⟩
          clear hK
          (try simp only [Act.put, List.getElem_toArray, List.getElem_cons_zero, List.getElem_cons_succ, List.setIfInBounds_toArray, List.set_cons_zero, List.set_cons_succ])
          refine wpAnyZ.takeN (i := 6) (v := .pointer (some ⟨q, 4, none⟩)) rfl (by kernel_rfl) (by kernel_rfl) (by kernel_rfl) (by decide) (fun _ _ _ h => h) (by rfl) (fun w => ?zy) trivial (fun _ => hT) ?_
          case zy => (go_simp)
          (try simp only [Act.put, List.getElem_toArray, List.getElem_cons_zero, List.getElem_cons_succ, List.setIfInBounds_toArray, List.set_cons_zero, List.set_cons_succ])
          refine wpAnyZ.oneK (i := 7) (E := False) (by kernel_rfl) rfl (by rfl) (fun K hK => ?_)
          have hrw := HS36.out.get 0 rfl
          have c1 : V35.cell? ⟨q, 4, none⟩ = some vD := cell_of_row _ q 4 _ _ _ hrw
          have f1 : V35.frozen? ⟨q, 4, none⟩ = false := frozen_of_row _ q 4 _ _ hrw
          have HS38 := Lib.hid (show Rw w (V35.setCell ⟨q, 4, none⟩ (.slice Av33 (k + 1 + 1) cv33)) ((q, ndRow 2 nilV nilV (.slice Av21 (k + 1) cv21) (.slice Av33 (k + 1 + 1) cv33) 0 ⟨#[]⟩) :: (g, bkRow L nn.2) :: (r, ndRow 0 nilV nilV nilV nilV 0 ⟨#[]⟩) :: (Q22 ++ (Q34 ++ []))) from HS36.out.store 0 rfl 4 (.slice Av33 (k + 1 + 1) cv33))
          go_simp
          obtain ⟨V37, hV37⟩ : ∃ V, V = V35.setCell ⟨q, 4, none⟩ (.slice Av33 (k + 1 + 1) cv33) := ⟨_, rfl⟩
          rw [← hV37] at HS38 ⊢
          clear hV37 hrw c1 f1 hT
          refine hK.out _ _ ⟨⟨trivial, (fun h => (have h9 : (true : Bool) = false := h; by cases h9))⟩, ?_⟩
          clear hK
          refine wpAnyZ.done (by kernel_rfl) ?_ _
          have HFIN := Lib.hid (show IInv w r q g L cn (k + 1) V37 from by
            refine ⟨ks ++ [key], ds ++ [(nn.1 : Int)], nn.2, (.slice Av21 (k + 1) cv21), (.slice Av33 (k + 1 + 1) cv33), Q22, Q34, HS38.out, ?_, ?_, by rw [List.length_append, HKS.out]; rfl, ⟨ds2 ++ [(nn.1 : Int)], by rw [HDS.out]; rfl, HPN.out⟩, hn2⟩
            · rw [tv_append]; exact HQv21.out
            · rw [iv_append]; exact HQv33.out)
          go_wp2
          go_roundw
          case rel => exact ⟨k + 1, by omega, by go_num, HFIN.out⟩
          case measure => simp [intOf]; omega
      · obtain rfl : k = cn := by omega
        have HPE := Lib.hid (show pKeys L k (num L 8 4).2 = (ks, ds2, a) by rw [HP.out, pKeys_stop L _ a (.inl (Nat.sub_self _))]; simp)
        clear HBK
        obtain ⟨AK, cK, rfl⟩ := HQK.out.slice
        obtain ⟨AD, cD, rfl⟩ := HQD.out.slice
        have HLB := Lib.hid (show k ≤ 65535 ∧ ks.length = k ∧ ds.length = k + 1 from ⟨by omega, HKS.out, by have h9 := HQD.out.len; rw [iv_length, Nat.mul_one] at h9; exact h9⟩)
        have HPN := Lib.hid (show pNd L = ((⟨2, [], [], ks, ds, 0, noS⟩ : Nd), a) by
          unfold pNd
          rw [if_neg (by rw [← HKD.out]; decide), if_pos HKD.out.symm, ← HCN.out, HPE.out, HDS.out])
        have HNO := Lib.hid (show ∀ (V : World) (o1 o2 o3 : Obj), Rw w V ((q, o1) :: (g, o2) :: (r, o3) :: (QK ++ (QD ++ []))) → NdO V w.heap.size (⟨2, [], [], ks, ds, 0, noS⟩ : Nd) nilV nilV (.slice AK k cK) (.slice AD (k + 1) cD) from fun V o1 o2 o3 h =>
          ⟨OwnE.nil _ _, OwnI.nil _ _, by have h1 := HQK.out.ownsB (w := V) (base := w.heap.size) (fun p hp => h.all p (by simp [hp])) (fun p hp => h.ge p (by simp [hp])); rw [HKS.out]; exact h1,
           by have h1 := HQD.out.ownsB (w := V) (base := w.heap.size) (fun p hp => h.all p (by simp [hp])) (fun p hp => h.ge p (by simp [hp])); rw [HLB.out.2.2]; exact h1⟩)
        have HS20 := Lib.hid (show Rw w wr ((q, ndRow 2 nilV nilV (.slice AK k cK) (.slice AD (k + 1) cD) 0 noS) :: (g, bkRow L a) :: (r, ndRow 0 nilV nilV nilV nilV 0 ⟨#[]⟩) :: (QK ++ (QD ++ []))) from HS.out)
        have HSH := Lib.hid (pg_short g a L wr ⟨HS20.out.get 1 rfl, HL.out⟩)
        by_cases hfs : 512 < a
        · rw [decide_eq_true hfs] at HSH
          have HD := Lib.hid (decN_bad (L := L) (fun h => by have h1 := h.2.2.1; rw [HPN.out] at h1; dsimp only at h1; omega))
          clear hfs
          go_wp2_with fail
          refine HSH.out.mono ?_
          rintro e w21 ⟨rfl, rfl⟩
          have b7 := bad_end HS20.out (i := 2) rfl
          have c7 := b7.1
          have f7 := b7.2.1
          have HB7 := Lib.hid b7.2.2
          clear b7
          unfold nilV at c7
          go_wp2
          exact bodyPost_ret (results_cr2 rfl _ _ r 26 (ndC zNd nilV nilV nilV nilV) (0, 0) _ rfl HB7.out.1 Try.underlying26 rfl sz_nd) rfl ⟨nilV, nilV, nilV, nilV, by rw [HD.out]; rfl, by rw [HD.out]; exact NdO.zero _ _, HB7.out.2⟩
        rw [decide_eq_false hfs] at HSH
        have HBL := Lib.hid (pg_blank g a L wr ⟨HS20.out.get 1 rfl, HL.out⟩ (by omega))
        have HAL := Lib.hid (show a ≤ 512 by omega)
        clear hfs
        go_wp2_with fail
        refine HSH.out.mono ?_
        rintro e w21 ⟨rfl, rfl⟩
        go_wp2_with fail
        refine HBL.out.mono ?_
        rintro e W22 ⟨rfl, -, hO⟩
        have HS22 := Lib.hid (HS20.out.below (hO.below (Nat.le_refl _) (by simp)))
        clear hO
        obtain ⟨bl, hbl⟩ : ∃ bl, bl = blankL L a := ⟨_, rfl⟩
        rw [← hbl]
        have HBB := Lib.hid hbl
        clear hbl
        cases bl
        · have HD := Lib.hid (decN_bad (L := L) (fun h => by have h1 := h.2.2.2.1; rw [HPN.out] at h1; rw [← HBB.out] at h1; cases h1))
          have b7 := bad_end HS22.out (i := 2) rfl
          have c7 := b7.1
          have f7 := b7.2.1
          have HB7 := Lib.hid b7.2.2
          clear b7
          unfold nilV at c7
          go_wp2
          exact bodyPost_ret (results_cr2 rfl _ _ r 26 (ndC zNd nilV nilV nilV nilV) (0, 0) _ rfl HB7.out.1 Try.underlying26 rfl sz_nd) rfl ⟨nilV, nilV, nilV, nilV, by rw [HD.out]; rfl, by rw [HD.out]; exact NdO.zero _ _, HB7.out.2⟩
        have HN22 := Lib.hid ((HNO.out W22 _ _ _ HS22.out).rd (by have := HLB.out; dsimp only; (try simp only [List.length_nil]); (try omega)) (by have := HLB.out; dsimp only; (try simp only [List.length_nil]); (try omega)) (by have := HLB.out; dsimp only; (try simp only [List.length_nil]); (try omega)) (by have := HLB.out; dsimp only; (try simp only [List.length_nil]); (try omega)))
        have HFT := Lib.hid (pg_Fits (⟨2, [], [], ks, ds, 0, noS⟩ : Nd) nilV nilV (.slice AK k cK) (.slice AD (k + 1) cD) W22 HN22.out)
        obtain ⟨ft, hft⟩ : ∃ ft, ft = fitsN (⟨2, [], [], ks, ds, 0, noS⟩ : Nd) := ⟨_, rfl⟩
        rw [← hft] at HFT
        have HFF := Lib.hid hft
        clear hft
        unfold ndC at HFT
        dsimp only at HFT
        have c7 := cell7 (n := (⟨2, [], [], ks, ds, 0, noS⟩ : Nd)) (vE := nilV) (vC := nilV) (vK := (.slice AK k cK)) (vD := (.slice AD (k + 1) cD)) (HS22.out.get 0 rfl)
        dsimp only at c7
        go_wp2_with fail
        clear c7
        refine HFT.out.mono ?_
        rintro e W23 ⟨rfl, hB⟩
        have HS23 := Lib.hid (HS22.out.below hB)
        have HN23 := Lib.hid (HN22.out.ext hB)
        clear hB
        cases ft
        · have HD := Lib.hid (decN_bad (L := L) (fun h => by have h1 := h.2.2.2.2.1; rw [HPN.out] at h1; rw [← HFF.out] at h1; cases h1))
          have b7 := bad_end HS23.out (i := 2) rfl
          have c7 := b7.1
          have f7 := b7.2.1
          have HB7 := Lib.hid b7.2.2
          clear b7
          unfold nilV at c7
          go_wp2
          exact bodyPost_ret (results_cr2 rfl _ _ r 26 (ndC zNd nilV nilV nilV nilV) (0, 0) _ rfl HB7.out.1 Try.underlying26 rfl sz_nd) rfl ⟨nilV, nilV, nilV, nilV, by rw [HD.out]; rfl, by rw [HD.out]; exact NdO.zero _ _, HB7.out.2⟩
        have HSB := Lib.hid (pg_sameBytes (⟨2, [], [], ks, ds, 0, noS⟩ : Nd) nilV nilV (.slice AK k cK) (.slice AD (k + 1) cD) A c L W23 HN23.out (HR.out.ext HS23.out.bl) HFF.out.symm)
        obtain ⟨sb, hsb⟩ : ∃ sb, sb = decide (encN (⟨2, [], [], ks, ds, 0, noS⟩ : Nd) = L) := ⟨_, rfl⟩
        rw [← hsb] at HSB
        have HBD := Lib.hid hsb
        clear hsb
        unfold ndC at HSB
        dsimp only at HSB
        have c7 := cell7 (n := (⟨2, [], [], ks, ds, 0, noS⟩ : Nd)) (vE := nilV) (vC := nilV) (vK := (.slice AK k cK)) (vD := (.slice AD (k + 1) cD)) (HS23.out.get 0 rfl)
        dsimp only at c7
        go_wp2_with fail
        clear c7
        refine HSB.out.mono ?_
        rintro e W24 ⟨rfl, hB⟩
        have HS24 := Lib.hid (HS23.out.below hB)
        clear hB
        cases sb
        · have HD := Lib.hid (decN_bad (L := L) (fun h => by have h1 := h.2.2.2.2.2; rw [HPN.out] at h1; have h2 := HBD.out; rw [decide_eq_true h1] at h2; cases h2))
          have b7 := bad_end HS24.out (i := 2) rfl
          have c7 := b7.1
          have f7 := b7.2.1
          have HB7 := Lib.hid b7.2.2
          clear b7
          unfold nilV at c7
          go_wp2
          exact bodyPost_ret (results_cr2 rfl _ _ r 26 (ndC zNd nilV nilV nilV nilV) (0, 0) _ rfl HB7.out.1 Try.underlying26 rfl sz_nd) rfl ⟨nilV, nilV, nilV, nilV, by rw [HD.out]; rfl, by rw [HD.out]; exact NdO.zero _ _, HB7.out.2⟩
        have HD := Lib.hid (show decN L = ((⟨2, [], [], ks, ds, 0, noS⟩ : Nd), 0) by
          unfold decN
          rw [if_pos ((pageL_iff L).2 (by rw [HPN.out]; exact ⟨H181.out, HVS.out, HAL.out, HBB.out.symm, HFF.out.symm, of_decide_eq_true HBD.out.symm⟩)), HPN.out])
        have c7 := cell7 (n := (⟨2, [], [], ks, ds, 0, noS⟩ : Nd)) (vE := nilV) (vC := nilV) (vK := (.slice AK k cK)) (vD := (.slice AD (k + 1) cD)) (HS24.out.get 0 rfl)
        dsimp only at c7
        have b7 := bad_end HS24.out (i := 2) rfl
        have d7 := b7.1
        have f7 := b7.2.1
        clear b7
        obtain ⟨W26, hW26⟩ : ∃ W26, W26 = ((((((W24.setCell ⟨r, 0, none⟩ (.int .i64 2)).setCell ⟨r, 1, none⟩ (.slice none 0 0)).setCell ⟨r, 2, none⟩ (.slice none 0 0)).setCell ⟨r, 3, none⟩ ((.slice AK k cK))).setCell ⟨r, 4, none⟩ ((.slice AD (k + 1) cD))).setCell ⟨r, 5, none⟩ (.int .i64 0)).setCell ⟨r, 6, none⟩ (.string noS) := ⟨_, rfl⟩
        have hp7 : put7 W24 r (⟨2, [], [], ks, ds, 0, noS⟩ : Nd) nilV nilV (.slice AK k cK) (.slice AD (k + 1) cD) = W26 := by rw [hW26]; rfl
        have HS26 := Lib.hid (show Rw w W26 ((q, ndRow 2 nilV nilV (.slice AK k cK) (.slice AD (k + 1) cD) 0 noS) :: (g, bkRow L a) :: (r, .cells (ndC (⟨2, [], [], ks, ds, 0, noS⟩ : Nd) nilV nilV (.slice AK k cK) (.slice AD (k + 1) cD)) 26 (0, 0)) :: (QK ++ (QD ++ []))) by rw [← hp7]; exact HS24.out.upd 2 rfl only7 (row7 (n := zNd) (m := (⟨2, [], [], ks, ds, 0, noS⟩ : Nd)) (HS24.out.get 2 rfl)))
        clear hp7
        unfold nilV at d7 c7
        go_wp2
        rw [← hW26]
        clear hW26 c7 d7 f7
        have hrow := HS26.out.get 2 rfl
        refine bodyPost_ret (results_cr2 rfl _ _ r 26 (ndC (⟨2, [], [], ks, ds, 0, noS⟩ : Nd) nilV nilV (.slice AK k cK) (.slice AD (k + 1) cD)) (0, 0) _ rfl hrow Try.underlying26 rfl sz_nd) rfl ?_
        refine ⟨nilV, nilV, (.slice AK k cK), (.slice AD (k + 1) cD), ?_, ?_, HS26.out.bl⟩
        · rw [HD.out]; rfl
        · rw [HD.out]; exact HNO.out _ _ _ _ HS26.out
  have q2 : ((kd : Int) == 2) = false := by simp; omega
  by_cases k3 : kd = 3
  · subst k3
    clear q1 q2
    obtain ⟨n0, hn0⟩ : ∃ n0, n0 = num L 8 4 := ⟨_, rfl⟩
    have HC1 := Lib.hid (pg_number g 8 4 L W8 ⟨HS8.out.get 1 rfl, HL.out⟩ (by decide) (by decide))
    rw [← hn0] at HC1
    have hn2 : n0.2 ≤ 513 := by rw [hn0]; exact num_at L 8 4 (by decide)
    obtain ⟨s0, hs0⟩ : ∃ s0, s0 = nxt L n0.2 cn := ⟨_, rfl⟩
    have hs2 : s0.2 ≤ 513 := by rw [hs0]; exact nxt_at L n0.2 cn hn2
    have HPN := Lib.hid (show pNd L = ((⟨3, [], [], [], [], (n0.1 : Int), strS s0.1⟩ : Nd), s0.2) by
      unfold pNd
      rw [if_neg (by rw [← HKD.out]; decide), if_neg (by rw [← HKD.out]; decide), if_pos HKD.out.symm, ← HCN.out, ← hn0, ← hs0])
    have HS0b := Lib.hid hs0
    clear hn0 hs0
    go_wp2_with fail
    refine HC1.out.mono ?_
    rintro e W9 ⟨rfl, hB, hO⟩
    have HS9 := Lib.hid (show Rw w W9 ((q, ndRow 3 nilV nilV nilV nilV 0 ⟨#[]⟩) :: (g, bkRow L n0.2) :: (r, ndRow 0 nilV nilV nilV nilV 0 ⟨#[]⟩) :: []) from HS8.out.upd 1 rfl hO hB.row)
    clear hB hO HC1
    have hrw := HS9.out.get 0 rfl
    have c5 : W9.cell? ⟨q, 5, none⟩ = some (.int .i64 0) := cell_of_row _ q 5 _ _ _ hrw
    have f5 : W9.frozen? ⟨q, 5, none⟩ = false := frozen_of_row _ q 5 _ _ hrw
    obtain ⟨W10, hW10⟩ : ∃ W10, W10 = W9.setCell ⟨q, 5, none⟩ (.int .i64 (n0.1 : Int)) := ⟨_, rfl⟩
    have HS10 := Lib.hid (show Rw w W10 ((q, ndRow 3 nilV nilV nilV nilV (n0.1 : Int) ⟨#[]⟩) :: (g, bkRow L n0.2) :: (r, ndRow 0 nilV nilV nilV nilV 0 ⟨#[]⟩) :: []) by rw [hW10]; exact HS9.out.store 0 rfl 5 _)
    have HC2 := Lib.hid (pg_next g n0.2 cn L W10 ⟨HS10.out.get 1 rfl, HL.out⟩ hn2 (by omega))
    rw [← HS0b.out] at HC2
    clear hrw
    go_wp2_with fail
    rw [← hW10]
    clear hW10 c5 f5
    refine HC2.out.mono ?_
    rintro e W11 ⟨rfl, hB, hO⟩
    have HS11 := Lib.hid (show Rw w W11 ((q, ndRow 3 nilV nilV nilV nilV (n0.1 : Int) ⟨#[]⟩) :: (g, bkRow L s0.2) :: (r, ndRow 0 nilV nilV nilV nilV 0 ⟨#[]⟩) :: []) from HS10.out.upd 1 rfl hO hB.row)
    clear hB hO HC2
    obtain ⟨dd, hdd⟩ : ∃ dd, dd = strS s0.1 := ⟨_, rfl⟩
    rw [← hdd] at HPN ⊢
    clear hdd
    have hrw := HS11.out.get 0 rfl
    have c6 : W11.cell? ⟨q, 6, none⟩ = some (.string noS) := cell_of_row _ q 6 _ _ _ hrw
    have f6 : W11.frozen? ⟨q, 6, none⟩ = false := frozen_of_row _ q 6 _ _ hrw
    obtain ⟨W12, hW12⟩ : ∃ W12, W12 = W11.setCell ⟨q, 6, none⟩ (.string dd) := ⟨_, rfl⟩
    have HS12 := Lib.hid (show Rw w W12 ((q, ndRow 3 nilV nilV nilV nilV (n0.1 : Int) dd) :: (g, bkRow L s0.2) :: (r, ndRow 0 nilV nilV nilV nilV 0 ⟨#[]⟩) :: []) by rw [hW12]; exact HS11.out.store 0 rfl 6 _)
    go_upto_region 26 with fail
    rw [← hW12]
    clear hW12 hrw c6 f6
    have HLB := Lib.hid (show (0 : Nat) ≤ 65535 by decide)
    have HNO := Lib.hid (show ∀ (V : World) (o1 o2 o3 : Obj), Rw w V ((q, o1) :: (g, o2) :: (r, o3) :: []) → NdO V w.heap.size (⟨3, [], [], [], [], (n0.1 : Int), dd⟩ : Nd) nilV nilV nilV nilV from fun V o1 o2 o3 h => ⟨OwnE.nil _ _, OwnI.nil _ _, OwnT.nil _ _, OwnI.nil _ _⟩)
    have HS20 := Lib.hid (show Rw w W12 ((q, ndRow 3 nilV nilV nilV nilV (n0.1 : Int) dd) :: (g, bkRow L s0.2) :: (r, ndRow 0 nilV nilV nilV nilV 0 ⟨#[]⟩) :: ([])) from HS12.out)
    have HSH := Lib.hid (pg_short g s0.2 L W12 ⟨HS20.out.get 1 rfl, HL.out⟩)
    by_cases hfs : 512 < s0.2
    · rw [decide_eq_true hfs] at HSH
      have HD := Lib.hid (decN_bad (L := L) (fun h => by have h1 := h.2.2.1; rw [HPN.out] at h1; dsimp only at h1; omega))
      clear hfs
      go_wp2_with fail
      refine HSH.out.mono ?_
      rintro e w21 ⟨rfl, rfl⟩
      have b7 := bad_end HS20.out (i := 2) rfl
      have c7 := b7.1
      have f7 := b7.2.1
      have HB7 := Lib.hid b7.2.2
      clear b7
      unfold nilV at c7
      go_wp2
      exact bodyPost_ret (results_cr2 rfl _ _ r 26 (ndC zNd nilV nilV nilV nilV) (0, 0) _ rfl HB7.out.1 Try.underlying26 rfl sz_nd) rfl ⟨nilV, nilV, nilV, nilV, by rw [HD.out]; rfl, by rw [HD.out]; exact NdO.zero _ _, HB7.out.2⟩
    rw [decide_eq_false hfs] at HSH
    have HBL := Lib.hid (pg_blank g s0.2 L W12 ⟨HS20.out.get 1 rfl, HL.out⟩ (by omega))
    have HAL := Lib.hid (show s0.2 ≤ 512 by omega)
    clear hfs
    go_wp2_with fail
    refine HSH.out.mono ?_
    rintro e w21 ⟨rfl, rfl⟩
    go_wp2_with fail
    refine HBL.out.mono ?_
    rintro e W22 ⟨rfl, -, hO⟩
    have HS22 := Lib.hid (HS20.out.below (hO.below (Nat.le_refl _) (by simp)))
    clear hO
    obtain ⟨bl, hbl⟩ : ∃ bl, bl = blankL L s0.2 := ⟨_, rfl⟩
    rw [← hbl]
    have HBB := Lib.hid hbl
    clear hbl
    cases bl
    · have HD := Lib.hid (decN_bad (L := L) (fun h => by have h1 := h.2.2.2.1; rw [HPN.out] at h1; rw [← HBB.out] at h1; cases h1))
      have b7 := bad_end HS22.out (i := 2) rfl
      have c7 := b7.1
      have f7 := b7.2.1
      have HB7 := Lib.hid b7.2.2
      clear b7
      unfold nilV at c7
      go_wp2
      exact bodyPost_ret (results_cr2 rfl _ _ r 26 (ndC zNd nilV nilV nilV nilV) (0, 0) _ rfl HB7.out.1 Try.underlying26 rfl sz_nd) rfl ⟨nilV, nilV, nilV, nilV, by rw [HD.out]; rfl, by rw [HD.out]; exact NdO.zero _ _, HB7.out.2⟩
    have HN22 := Lib.hid ((HNO.out W22 _ _ _ HS22.out).rd (by have := HLB.out; dsimp only; (try simp only [List.length_nil]); (try omega)) (by have := HLB.out; dsimp only; (try simp only [List.length_nil]); (try omega)) (by have := HLB.out; dsimp only; (try simp only [List.length_nil]); (try omega)) (by have := HLB.out; dsimp only; (try simp only [List.length_nil]); (try omega)))
    have HFT := Lib.hid (pg_Fits (⟨3, [], [], [], [], (n0.1 : Int), dd⟩ : Nd) nilV nilV nilV nilV W22 HN22.out)
    obtain ⟨ft, hft⟩ : ∃ ft, ft = fitsN (⟨3, [], [], [], [], (n0.1 : Int), dd⟩ : Nd) := ⟨_, rfl⟩
    rw [← hft] at HFT
    have HFF := Lib.hid hft
    clear hft
    unfold ndC at HFT
    dsimp only at HFT
    have c7 := cell7 (n := (⟨3, [], [], [], [], (n0.1 : Int), dd⟩ : Nd)) (vE := nilV) (vC := nilV) (vK := nilV) (vD := nilV) (HS22.out.get 0 rfl)
    dsimp only at c7
    go_wp2_with fail
    clear c7
    refine HFT.out.mono ?_
    rintro e W23 ⟨rfl, hB⟩
    have HS23 := Lib.hid (HS22.out.below hB)
    have HN23 := Lib.hid (HN22.out.ext hB)
    clear hB
    cases ft
    · have HD := Lib.hid (decN_bad (L := L) (fun h => by have h1 := h.2.2.2.2.1; rw [HPN.out] at h1; rw [← HFF.out] at h1; cases h1))
      have b7 := bad_end HS23.out (i := 2) rfl
      have c7 := b7.1
      have f7 := b7.2.1
      have HB7 := Lib.hid b7.2.2
      clear b7
      unfold nilV at c7
      go_wp2
      exact bodyPost_ret (results_cr2 rfl _ _ r 26 (ndC zNd nilV nilV nilV nilV) (0, 0) _ rfl HB7.out.1 Try.underlying26 rfl sz_nd) rfl ⟨nilV, nilV, nilV, nilV, by rw [HD.out]; rfl, by rw [HD.out]; exact NdO.zero _ _, HB7.out.2⟩
    have HSB := Lib.hid (pg_sameBytes (⟨3, [], [], [], [], (n0.1 : Int), dd⟩ : Nd) nilV nilV nilV nilV A c L W23 HN23.out (HR.out.ext HS23.out.bl) HFF.out.symm)
    obtain ⟨sb, hsb⟩ : ∃ sb, sb = decide (encN (⟨3, [], [], [], [], (n0.1 : Int), dd⟩ : Nd) = L) := ⟨_, rfl⟩
    rw [← hsb] at HSB
    have HBD := Lib.hid hsb
    clear hsb
    unfold ndC at HSB
    dsimp only at HSB
    have c7 := cell7 (n := (⟨3, [], [], [], [], (n0.1 : Int), dd⟩ : Nd)) (vE := nilV) (vC := nilV) (vK := nilV) (vD := nilV) (HS23.out.get 0 rfl)
    dsimp only at c7
    go_wp2_with fail
    clear c7
    refine HSB.out.mono ?_
    rintro e W24 ⟨rfl, hB⟩
    have HS24 := Lib.hid (HS23.out.below hB)
    clear hB
    cases sb
    · have HD := Lib.hid (decN_bad (L := L) (fun h => by have h1 := h.2.2.2.2.2; rw [HPN.out] at h1; have h2 := HBD.out; rw [decide_eq_true h1] at h2; cases h2))
      have b7 := bad_end HS24.out (i := 2) rfl
      have c7 := b7.1
      have f7 := b7.2.1
      have HB7 := Lib.hid b7.2.2
      clear b7
      unfold nilV at c7
      go_wp2
      exact bodyPost_ret (results_cr2 rfl _ _ r 26 (ndC zNd nilV nilV nilV nilV) (0, 0) _ rfl HB7.out.1 Try.underlying26 rfl sz_nd) rfl ⟨nilV, nilV, nilV, nilV, by rw [HD.out]; rfl, by rw [HD.out]; exact NdO.zero _ _, HB7.out.2⟩
    have HD := Lib.hid (show decN L = ((⟨3, [], [], [], [], (n0.1 : Int), dd⟩ : Nd), 0) by
      unfold decN
      rw [if_pos ((pageL_iff L).2 (by rw [HPN.out]; exact ⟨H181.out, HVS.out, HAL.out, HBB.out.symm, HFF.out.symm, of_decide_eq_true HBD.out.symm⟩)), HPN.out])
    have c7 := cell7 (n := (⟨3, [], [], [], [], (n0.1 : Int), dd⟩ : Nd)) (vE := nilV) (vC := nilV) (vK := nilV) (vD := nilV) (HS24.out.get 0 rfl)
    dsimp only at c7
    have b7 := bad_end HS24.out (i := 2) rfl
    have d7 := b7.1
    have f7 := b7.2.1
    clear b7
    obtain ⟨W26, hW26⟩ : ∃ W26, W26 = ((((((W24.setCell ⟨r, 0, none⟩ (.int .i64 3)).setCell ⟨r, 1, none⟩ (.slice none 0 0)).setCell ⟨r, 2, none⟩ (.slice none 0 0)).setCell ⟨r, 3, none⟩ (.slice none 0 0)).setCell ⟨r, 4, none⟩ (.slice none 0 0)).setCell ⟨r, 5, none⟩ (.int .i64 (n0.1 : Int))).setCell ⟨r, 6, none⟩ (.string dd) := ⟨_, rfl⟩
    have hp7 : put7 W24 r (⟨3, [], [], [], [], (n0.1 : Int), dd⟩ : Nd) nilV nilV nilV nilV = W26 := by rw [hW26]; rfl
    have HS26 := Lib.hid (show Rw w W26 ((q, ndRow 3 nilV nilV nilV nilV (n0.1 : Int) dd) :: (g, bkRow L s0.2) :: (r, .cells (ndC (⟨3, [], [], [], [], (n0.1 : Int), dd⟩ : Nd) nilV nilV nilV nilV) 26 (0, 0)) :: ([])) by rw [← hp7]; exact HS24.out.upd 2 rfl only7 (row7 (n := zNd) (m := (⟨3, [], [], [], [], (n0.1 : Int), dd⟩ : Nd)) (HS24.out.get 2 rfl)))
    clear hp7
    unfold nilV at d7 c7
    go_wp2
    rw [← hW26]
    clear hW26 c7 d7 f7
    have hrow := HS26.out.get 2 rfl
    refine bodyPost_ret (results_cr2 rfl _ _ r 26 (ndC (⟨3, [], [], [], [], (n0.1 : Int), dd⟩ : Nd) nilV nilV nilV nilV) (0, 0) _ rfl hrow Try.underlying26 rfl sz_nd) rfl ?_
    refine ⟨nilV, nilV, nilV, nilV, ?_, ?_, HS26.out.bl⟩
    · rw [HD.out]; rfl
    · rw [HD.out]; exact HNO.out _ _ _ _ HS26.out
  have q3 : ((kd : Int) == 3) = false := by simp; omega
  have HPN := Lib.hid (show pNd L = ((⟨(kd : Int), [], [], [], [], 0, noS⟩ : Nd), 8) by
    unfold pNd
    rw [if_neg (by rw [← HKD.out]; exact k1), if_neg (by rw [← HKD.out]; exact k2), if_neg (by rw [← HKD.out]; exact k3), ← HKD.out])
  have HLB := Lib.hid (show (0 : Nat) ≤ 65535 by decide)
  have HNO := Lib.hid (show ∀ (V : World) (o1 o2 o3 : Obj), Rw w V ((q, o1) :: (g, o2) :: (r, o3) :: []) → NdO V w.heap.size (⟨(kd : Int), [], [], [], [], 0, noS⟩ : Nd) nilV nilV nilV nilV from fun V o1 o2 o3 h => ⟨OwnE.nil _ _, OwnI.nil _ _, OwnT.nil _ _, OwnI.nil _ _⟩)
  go_upto_region 26 with fail
  have HS20 := Lib.hid (show Rw w W8 ((q, ndRow (kd : Int) nilV nilV nilV nilV 0 noS) :: (g, bkRow L 8) :: (r, ndRow 0 nilV nilV nilV nilV 0 ⟨#[]⟩) :: ([])) from HS8.out)
  have HSH := Lib.hid (pg_short g 8 L W8 ⟨HS20.out.get 1 rfl, HL.out⟩)
  by_cases hfs : 512 < 8
  · rw [decide_eq_true hfs] at HSH
    have HD := Lib.hid (decN_bad (L := L) (fun h => by have h1 := h.2.2.1; rw [HPN.out] at h1; dsimp only at h1; omega))
    clear hfs
    go_wp2_with fail
    refine HSH.out.mono ?_
    rintro e w21 ⟨rfl, rfl⟩
    have b7 := bad_end HS20.out (i := 2) rfl
    have c7 := b7.1
    have f7 := b7.2.1
    have HB7 := Lib.hid b7.2.2
    clear b7
    unfold nilV at c7
    go_wp2
    exact bodyPost_ret (results_cr2 rfl _ _ r 26 (ndC zNd nilV nilV nilV nilV) (0, 0) _ rfl HB7.out.1 Try.underlying26 rfl sz_nd) rfl ⟨nilV, nilV, nilV, nilV, by rw [HD.out]; rfl, by rw [HD.out]; exact NdO.zero _ _, HB7.out.2⟩
  rw [decide_eq_false hfs] at HSH
  have HBL := Lib.hid (pg_blank g 8 L W8 ⟨HS20.out.get 1 rfl, HL.out⟩ (by omega))
  have HAL := Lib.hid (show 8 ≤ 512 by omega)
  clear hfs
  go_wp2_with fail
  refine HSH.out.mono ?_
  rintro e w21 ⟨rfl, rfl⟩
  go_wp2_with fail
  refine HBL.out.mono ?_
  rintro e W22 ⟨rfl, -, hO⟩
  have HS22 := Lib.hid (HS20.out.below (hO.below (Nat.le_refl _) (by simp)))
  clear hO
  obtain ⟨bl, hbl⟩ : ∃ bl, bl = blankL L 8 := ⟨_, rfl⟩
  rw [← hbl]
  have HBB := Lib.hid hbl
  clear hbl
  cases bl
  · have HD := Lib.hid (decN_bad (L := L) (fun h => by have h1 := h.2.2.2.1; rw [HPN.out] at h1; rw [← HBB.out] at h1; cases h1))
    have b7 := bad_end HS22.out (i := 2) rfl
    have c7 := b7.1
    have f7 := b7.2.1
    have HB7 := Lib.hid b7.2.2
    clear b7
    unfold nilV at c7
    go_wp2
    exact bodyPost_ret (results_cr2 rfl _ _ r 26 (ndC zNd nilV nilV nilV nilV) (0, 0) _ rfl HB7.out.1 Try.underlying26 rfl sz_nd) rfl ⟨nilV, nilV, nilV, nilV, by rw [HD.out]; rfl, by rw [HD.out]; exact NdO.zero _ _, HB7.out.2⟩
  have HN22 := Lib.hid ((HNO.out W22 _ _ _ HS22.out).rd (by have := HLB.out; dsimp only; (try simp only [List.length_nil]); (try omega)) (by have := HLB.out; dsimp only; (try simp only [List.length_nil]); (try omega)) (by have := HLB.out; dsimp only; (try simp only [List.length_nil]); (try omega)) (by have := HLB.out; dsimp only; (try simp only [List.length_nil]); (try omega)))
  have HFT := Lib.hid (pg_Fits (⟨(kd : Int), [], [], [], [], 0, noS⟩ : Nd) nilV nilV nilV nilV W22 HN22.out)
  obtain ⟨ft, hft⟩ : ∃ ft, ft = fitsN (⟨(kd : Int), [], [], [], [], 0, noS⟩ : Nd) := ⟨_, rfl⟩
  rw [← hft] at HFT
  have HFF := Lib.hid hft
  clear hft
  unfold ndC at HFT
  dsimp only at HFT
  have c7 := cell7 (n := (⟨(kd : Int), [], [], [], [], 0, noS⟩ : Nd)) (vE := nilV) (vC := nilV) (vK := nilV) (vD := nilV) (HS22.out.get 0 rfl)
  dsimp only at c7
  go_wp2_with fail
  clear c7
  refine HFT.out.mono ?_
  rintro e W23 ⟨rfl, hB⟩
  have HS23 := Lib.hid (HS22.out.below hB)
  have HN23 := Lib.hid (HN22.out.ext hB)
  clear hB
  cases ft
  · have HD := Lib.hid (decN_bad (L := L) (fun h => by have h1 := h.2.2.2.2.1; rw [HPN.out] at h1; rw [← HFF.out] at h1; cases h1))
    have b7 := bad_end HS23.out (i := 2) rfl
    have c7 := b7.1
    have f7 := b7.2.1
    have HB7 := Lib.hid b7.2.2
    clear b7
    unfold nilV at c7
    go_wp2
    exact bodyPost_ret (results_cr2 rfl _ _ r 26 (ndC zNd nilV nilV nilV nilV) (0, 0) _ rfl HB7.out.1 Try.underlying26 rfl sz_nd) rfl ⟨nilV, nilV, nilV, nilV, by rw [HD.out]; rfl, by rw [HD.out]; exact NdO.zero _ _, HB7.out.2⟩
  have HSB := Lib.hid (pg_sameBytes (⟨(kd : Int), [], [], [], [], 0, noS⟩ : Nd) nilV nilV nilV nilV A c L W23 HN23.out (HR.out.ext HS23.out.bl) HFF.out.symm)
  obtain ⟨sb, hsb⟩ : ∃ sb, sb = decide (encN (⟨(kd : Int), [], [], [], [], 0, noS⟩ : Nd) = L) := ⟨_, rfl⟩
  rw [← hsb] at HSB
  have HBD := Lib.hid hsb
  clear hsb
  unfold ndC at HSB
  dsimp only at HSB
  have c7 := cell7 (n := (⟨(kd : Int), [], [], [], [], 0, noS⟩ : Nd)) (vE := nilV) (vC := nilV) (vK := nilV) (vD := nilV) (HS23.out.get 0 rfl)
  dsimp only at c7
  go_wp2_with fail
  clear c7
  refine HSB.out.mono ?_
  rintro e W24 ⟨rfl, hB⟩
  have HS24 := Lib.hid (HS23.out.below hB)
  clear hB
  cases sb
  · have HD := Lib.hid (decN_bad (L := L) (fun h => by have h1 := h.2.2.2.2.2; rw [HPN.out] at h1; have h2 := HBD.out; rw [decide_eq_true h1] at h2; cases h2))
    have b7 := bad_end HS24.out (i := 2) rfl
    have c7 := b7.1
    have f7 := b7.2.1
    have HB7 := Lib.hid b7.2.2
    clear b7
    unfold nilV at c7
    go_wp2
    exact bodyPost_ret (results_cr2 rfl _ _ r 26 (ndC zNd nilV nilV nilV nilV) (0, 0) _ rfl HB7.out.1 Try.underlying26 rfl sz_nd) rfl ⟨nilV, nilV, nilV, nilV, by rw [HD.out]; rfl, by rw [HD.out]; exact NdO.zero _ _, HB7.out.2⟩
  have HD := Lib.hid (show decN L = ((⟨(kd : Int), [], [], [], [], 0, noS⟩ : Nd), 0) by
    unfold decN
    rw [if_pos ((pageL_iff L).2 (by rw [HPN.out]; exact ⟨H181.out, HVS.out, HAL.out, HBB.out.symm, HFF.out.symm, of_decide_eq_true HBD.out.symm⟩)), HPN.out])
  have c7 := cell7 (n := (⟨(kd : Int), [], [], [], [], 0, noS⟩ : Nd)) (vE := nilV) (vC := nilV) (vK := nilV) (vD := nilV) (HS24.out.get 0 rfl)
  dsimp only at c7
  have b7 := bad_end HS24.out (i := 2) rfl
  have d7 := b7.1
  have f7 := b7.2.1
  clear b7
  obtain ⟨W26, hW26⟩ : ∃ W26, W26 = ((((((W24.setCell ⟨r, 0, none⟩ (.int .i64 (kd : Int))).setCell ⟨r, 1, none⟩ (.slice none 0 0)).setCell ⟨r, 2, none⟩ (.slice none 0 0)).setCell ⟨r, 3, none⟩ (.slice none 0 0)).setCell ⟨r, 4, none⟩ (.slice none 0 0)).setCell ⟨r, 5, none⟩ (.int .i64 0)).setCell ⟨r, 6, none⟩ (.string noS) := ⟨_, rfl⟩
  have hp7 : put7 W24 r (⟨(kd : Int), [], [], [], [], 0, noS⟩ : Nd) nilV nilV nilV nilV = W26 := by rw [hW26]; rfl
  have HS26 := Lib.hid (show Rw w W26 ((q, ndRow (kd : Int) nilV nilV nilV nilV 0 noS) :: (g, bkRow L 8) :: (r, .cells (ndC (⟨(kd : Int), [], [], [], [], 0, noS⟩ : Nd) nilV nilV nilV nilV) 26 (0, 0)) :: ([])) by rw [← hp7]; exact HS24.out.upd 2 rfl only7 (row7 (n := zNd) (m := (⟨(kd : Int), [], [], [], [], 0, noS⟩ : Nd)) (HS24.out.get 2 rfl)))
  clear hp7
  unfold nilV at d7 c7
  go_wp2
  rw [← hW26]
  clear hW26 c7 d7 f7
  have hrow := HS26.out.get 2 rfl
  refine bodyPost_ret (results_cr2 rfl _ _ r 26 (ndC (⟨(kd : Int), [], [], [], [], 0, noS⟩ : Nd) nilV nilV nilV nilV) (0, 0) _ rfl hrow Try.underlying26 rfl sz_nd) rfl ?_
  refine ⟨nilV, nilV, nilV, nilV, ?_, ?_, HS26.out.bl⟩
  · rw [HD.out]; rfl
  · rw [HD.out]; exact HNO.out _ _ _ _ HS26.out
end Go.Proofs.Ytlandlgjhnnaiaa
