/- Pages: which nodes are inner pages, which are chains' pages. -/
import Derived.Test.YtlandlgjhnnaiaaPg3
set_option linter.unusedVariables false
set_option linter.unusedSimpArgs false
set_option maxRecDepth 100000
namespace Go.Proofs.Ytlandlgjhnnaiaa
open Go.RowKit
/-- the key ahead of the k-th -/
def lastT (l : List ByteArray) : Nat → ByteArray
  | 0 => noS
  | k + 1 => l.getD k default
theorem riseGo_step (ks : List ByteArray) (last : ByteArray) (k : Nat) (h : k < ks.length) :
    riseGo last (ks.drop k) = (keyOk (ks.getD k default) && !leS (ks.getD k default) last && riseGo (ks.getD k default) (ks.drop (k + 1))) := by
  have h1 : ks.drop k = ks.getD k default :: ks.drop (k + 1) := by
    rw [List.getD_eq_getElem?_getD, List.getElem?_eq_getElem h]; simp
  conv => lhs; rw [h1, riseGo]
def innHd (n : Nd) : Bool := decide (n.keys.length ≠ 0) && decide (n.kids.length = n.keys.length + 1) && decide (n.ents.length = 0) && decide (n.chs.length = 0) && decide (n.next = 0) && decide (n.data.size = 0)
theorem isInnerN_hd (n : Nd) : isInnerN n = (innHd n && riseGo noS n.keys && unlikeGo [] n.kids) := rfl
set_option maxHeartbeats 2000000 in
theorem pg_isInner (n : Nd) (vE vC vK vD : Value) (w : World) (hN : NdR w n vE vC vK vD) :
    Calls Try.prog 34 #[.agg (ndC n vE vC vK vD)] w fun e w' => e = .returned (.bool (isInnerN n)) ∧ Below w.heap.size w w' := by
  obtain ⟨⟨A1, c1, rfl, h1⟩, ⟨A2, c2, rfl, h2⟩, ⟨A3, c3, rfl, h3⟩, ⟨A4, c4, rfl, h4⟩⟩ := hN
  obtain ⟨kind, ents, chs, keys, kids, next, data⟩ := n
  rw [isInnerN_hd]
  unfold innHd ndC
  dsimp only at h1 h2 h3 h4 ⊢
  have HR3 := Lib.hid h3
  have HR4 := Lib.hid h4
  have m1 := h1.max
  have m2 := h2.max
  have m3 := h3.max
  have m4 := h4.max
  clear h1 h2 h3 h4
  obtain ⟨ne, hne⟩ : ∃ ne, ne = ents.length := ⟨_, rfl⟩
  obtain ⟨nc, hnc⟩ : ∃ nc, nc = chs.length := ⟨_, rfl⟩
  obtain ⟨nk, hnk⟩ : ∃ nk, nk = keys.length := ⟨_, rfl⟩
  obtain ⟨nd, hnd⟩ : ∃ nd, nd = kids.length := ⟨_, rfl⟩
  rw [← hne, ← hnc, ← hnk, ← hnd]
  rw [← hne] at m1
  rw [← hnc] at m2
  rw [← hnk] at HR3 m3
  rw [← hnd] at HR4 m4
  have HLK := Lib.hid hnk
  have HLD := Lib.hid hnd
  clear hne hnc hnk hnd
  obtain ⟨L, hL⟩ : ∃ L, L = riseGo noS keys := ⟨_, rfl⟩
  rw [← hL]
  have HL := Lib.hid hL
  clear hL
  obtain ⟨U, hU⟩ : ∃ U, U = unlikeGo [] kids := ⟨_, rfl⟩
  rw [← hU]
  have HUC := Lib.hid (fun (W : World) (hb : Below w.heap.size w W) => pg_unlike A4 nd c4 kids W (HR4.out.ext hb))
  rw [← hU] at HUC
  clear hU HR4
  by_cases q1 : nk = 0
  · rw [decide_eq_false (show ¬ nk ≠ 0 by omega)]
    subst q1
    go_enter Try.func34, Try.ntmps34
    go_wp2
    go_ret
    exact ⟨rfl, (Below.refl _ _).alloc (Nat.le_refl _) _⟩
  rw [decide_eq_true q1]
  have q10 : ((nk : Int) == 0) = false := by simpa using q1
  by_cases q2 : nd = nk + 1
  rotate_left
  · rw [decide_eq_false q2]
    have q20 : ((nd : Int) != (nk : Int) + 1) = true := by simp; omega
    go_enter Try.func34, Try.ntmps34
    go_wp2
    go_ret
    exact ⟨rfl, (Below.refl _ _).alloc (Nat.le_refl _) _⟩
  rw [decide_eq_true q2]
  have q20 : ((nd : Int) != (nk : Int) + 1) = false := by simp; omega
  have HQ2 := Lib.hid q2
  clear q2
  by_cases q3 : ne = 0
  rotate_left
  · rw [decide_eq_false q3]
    have q30 : (0 : Int) < (ne : Int) := by omega
    go_enter Try.func34, Try.ntmps34
    go_wp2
    go_ret
    exact ⟨rfl, (Below.refl _ _).alloc (Nat.le_refl _) _⟩
  subst q3
  by_cases q4 : nc = 0
  rotate_left
  · rw [decide_eq_false q4]
    have q40 : (0 : Int) < (nc : Int) := by omega
    go_enter Try.func34, Try.ntmps34
    go_wp2
    go_ret
    exact ⟨rfl, (Below.refl _ _).alloc (Nat.le_refl _) _⟩
  subst q4
  by_cases q5 : next = 0
  rotate_left
  · rw [decide_eq_false q5]
    have q50 : (next != 0) = true := by simpa using q5
    go_enter Try.func34, Try.ntmps34
    go_wp2
    go_ret
    exact ⟨rfl, (Below.refl _ _).alloc (Nat.le_refl _) _⟩
  subst q5
  by_cases q6 : data.size = 0
  rotate_left
  · rw [decide_eq_false q6]
    have q60 := toList_ne q6
    go_enter Try.func34, Try.ntmps34
    go_wp2
    go_ret
    exact ⟨rfl, (Below.refl _ _).alloc (Nat.le_refl _) _⟩
  rw [decide_eq_true q6]
  obtain rfl := size_eq q6
  have q60 := noS_list
  simp only [Bool.and_true, Bool.true_and, decide_true]
  obtain ⟨W, hW⟩ : ∃ W, W = w.alloc (.cells #[.int .i64 kind, .slice A1 0 c1, .slice A2 0 c2, .slice A3 nk c3, .slice A4 nd c4, .int .i64 0, .string noS] 26) := ⟨_, rfl⟩
  obtain ⟨g, hg⟩ : ∃ g, g = w.heap.size := ⟨_, rfl⟩
  have HB0 := Lib.hid (show Below g w W by rw [hW, hg]; exact (Below.refl _ _).alloc (Nat.le_refl _) _)
  have HRW := Lib.hid (show W.heap[g]? = some (.cells #[.int .i64 kind, .slice A1 0 c1, .slice A2 0 c2, .slice A3 nk c3, .slice A4 nd c4, .int .i64 0, .string noS] 26 (0, 0)) by rw [hW, hg]; exact heap_alloc_new w _)
  have HZ := Lib.hid (show w.heap.size ≤ W.heap.size ∧ g < W.heap.size ∧ g = w.heap.size by rw [hW]; simp; omega)
  go_enter Try.func34, Try.ntmps34
  go_wp2_with fail
  rw [← hW, ← hg]
  clear hW hg q10 q20
  go_loopw [3, 5, 45] (fun l3 _ x wr => ∃ k : Nat, k ≤ nk ∧ x = .int .i64 k ∧ l3 = .string (lastT keys k) ∧ L = riseGo (lastT keys k) (keys.drop k) ∧ wr = W) (fun _ _ x _ => nk - (intOf x).toNat)
  case atStart => exact ⟨0, by omega, rfl, rfl, HL.out, rfl⟩
  case round =>
    obtain ⟨k, hk, rfl, rfl, hE, rfl⟩ := hrel
    have HE := Lib.hid hE
    clear hE
    have HBW := Lib.hid (show Below w.heap.size w wr from (HZ.out.2.2 ▸ HB0.out))
    by_cases hkn : k < nk
    · obtain ⟨b1, o1, rfl, hc1⟩ := (HR3.out.ext HBW.out).at_ (by omega)
      have hck := hc1 k hkn
      clear hc1
      have hst := HE.out
      rw [riseGo_step _ _ _ (by rw [← HLK.out]; exact hkn)] at hst
      have HKK := Lib.hid (show lastT keys (k + 1) = keys.getD k default from rfl)
      obtain ⟨R, hR⟩ : ∃ R, R = riseGo (keys.getD k default) (keys.drop (k + 1)) := ⟨_, rfl⟩
      have HRR := Lib.hid (show R = riseGo (lastT keys (k + 1)) (keys.drop (k + 1)) from hR)
      rw [← hR] at hst
      obtain ⟨key, he⟩ : ∃ e, e = keys.getD k default := ⟨_, rfl⟩
      rw [← he] at hck hst HKK
      clear he hR
      obtain ⟨last, hla⟩ : ∃ last, last = lastT keys k := ⟨_, rfl⟩
      rw [← hla] at hst ⊢
      have hbs1 : b1 < wr.heap.size := World.block_lt_of_cell? wr _ hck
      have HK := Lib.hid (pg_isKey key)
      have hk0 : (0 : Int) ≤ (k : Int) ∧ (k : Int) < (nk : Int) := by omega
      clear hla
      obtain ⟨kb, hkb⟩ : ∃ kb, kb = keyOk key := ⟨_, rfl⟩
      rw [← hkb] at HK hst
      clear hkb
      cases kb
      · have HST := Lib.hid (show L = false by simpa using hst)
        clear hst
        go_wp2_with fail
        refine (HK.out _).mono ?_
        rintro e w3 ⟨rfl, rfl⟩
        go_wp2
        go_ret
        exact ⟨by rw [HST.out]; rfl, HBW.out⟩
      obtain ⟨lb, hlb⟩ : ∃ lb, lb = leS key last := ⟨_, rfl⟩
      rw [← hlb] at hst
      unfold leS at hlb
      obtain ⟨la, hla⟩ : ∃ la, Op.bytesLess key.toList last.toList = la := ⟨_, rfl⟩
      obtain ⟨le, hle⟩ : ∃ le, (key.toList == last.toList) = le := ⟨_, rfl⟩
      rw [hla, hle] at hlb
      cases la
      rotate_left
      · have HST := Lib.hid (show L = false by simpa [hlb] using hst)
        clear hst hlb hle
        go_wp2_with fail
        refine (HK.out _).mono ?_
        rintro e w3 ⟨rfl, rfl⟩
        go_wp2
        go_ret
        exact ⟨by rw [HST.out]; rfl, HBW.out⟩
      cases le
      rotate_left
      · have HST := Lib.hid (show L = false by simpa [hlb] using hst)
        clear hst hlb
        go_wp2_with fail
        refine (HK.out _).mono ?_
        rintro e w3 ⟨rfl, rfl⟩
        go_wp2
        go_ret
        exact ⟨by rw [HST.out]; rfl, HBW.out⟩
      rw [show lb = false from hlb] at hst
      have HST := Lib.hid (show L = R by simpa using hst)
      clear hlb hst
      go_wp2_with fail
      refine (HK.out _).mono ?_
      rintro e w3 ⟨rfl, rfl⟩
      go_wp2
      go_roundw
      case rel => exact ⟨k + 1, by omega, by go_num, by rw [HKK.out], by rw [HST.out]; exact HRR.out, trivial⟩
      case measure => simp [intOf]; omega
    · obtain rfl : nk = k := by omega
      have HD := Lib.hid (show keys.drop nk = [] from List.drop_of_length_le (by rw [← HLK.out]; omega))
      have HLL := Lib.hid (show L = true by rw [HE.out, HD.out]; rfl)
      have hg4 : wr.cell? ⟨g, 4, none⟩ = some (.slice A4 nd c4) := cell_of_row wr g 4 _ _ _ HRW.out
      go_wp2_with fail
      refine (HUC.out _ HBW.out).mono ?_
      rintro e w3 ⟨rfl, hB3⟩
      have HB3 := Lib.hid (HBW.out.trans (hB3.mono HBW.out.size))
      clear hB3
      go_wp2
      go_ret
      refine ⟨?_, HB3.out⟩
      rw [HLL.out]; simp
theorem pg_isChain (n : Nd) (vE vC vK vD : Value) (w : World) (hN : NdR w n vE vC vK vD) :
    Calls Try.prog 35 #[.agg (ndC n vE vC vK vD)] w fun e w' => e = .returned (.bool (isChainN n)) ∧ Below w.heap.size w w' := by
  obtain ⟨⟨A1, c1, rfl, h1⟩, ⟨A2, c2, rfl, h2⟩, ⟨A3, c3, rfl, h3⟩, ⟨A4, c4, rfl, h4⟩⟩ := hN
  obtain ⟨kind, ents, chs, keys, kids, next, data⟩ := n
  unfold isChainN ndC
  dsimp only at h1 h2 h3 h4 ⊢
  have m1 := h1.max
  have m2 := h2.max
  have m3 := h3.max
  have m4 := h4.max
  clear h1 h2 h3 h4
  obtain ⟨ne, hne⟩ : ∃ ne, ne = ents.length := ⟨_, rfl⟩
  obtain ⟨nc, hnc⟩ : ∃ nc, nc = chs.length := ⟨_, rfl⟩
  obtain ⟨nk, hnk⟩ : ∃ nk, nk = keys.length := ⟨_, rfl⟩
  obtain ⟨nd, hnd⟩ : ∃ nd, nd = kids.length := ⟨_, rfl⟩
  rw [← hne, ← hnc, ← hnk, ← hnd]
  rw [← hne] at m1
  rw [← hnc] at m2
  rw [← hnk] at m3
  rw [← hnd] at m4
  clear hne hnc hnk hnd
  by_cases q1 : ne + nc + nk + nd = 0
  rotate_left
  · rw [decide_eq_false q1]
    have q0 : ((ne : Int) + (nc : Int) + (nk : Int) + (nd : Int) == 0) = false := by simp; omega
    clear q1
    go_enter Try.func35, Try.ntmps35
    go_wp2
    go_ret
    exact ⟨rfl, (Below.refl _ _).alloc (Nat.le_refl _) _⟩
  rw [decide_eq_true q1]
  obtain ⟨rfl, rfl, rfl, rfl⟩ : ne = 0 ∧ nc = 0 ∧ nk = 0 ∧ nd = 0 := by omega
  clear q1
  by_cases q2 : 1 ≤ data.size
  rotate_left
  · rw [decide_eq_false q2]
    have q20 : ¬ (1 : Int) ≤ (data.size : Int) := by omega
    clear q2
    go_enter Try.func35, Try.ntmps35
    go_wp2
    go_ret
    exact ⟨rfl, (Below.refl _ _).alloc (Nat.le_refl _) _⟩
  rw [decide_eq_true q2]
  have q20 : (1 : Int) ≤ (data.size : Int) := by omega
  clear q2
  by_cases q3 : data.size ≤ 500
  rotate_left
  · rw [decide_eq_false q3]
    have q30 : ¬ (data.size : Int) ≤ 500 := by omega
    clear q3
    go_enter Try.func35, Try.ntmps35
    go_wp2
    go_ret
    exact ⟨rfl, (Below.refl _ _).alloc (Nat.le_refl _) _⟩
  rw [decide_eq_true q3]
  have q30 : (data.size : Int) ≤ 500 := by omega
  clear q3
  by_cases q4 : next = 0
  · rw [decide_eq_true q4]
    subst q4
    go_enter Try.func35, Try.ntmps35
    go_wp2
    go_ret
    exact ⟨rfl, (Below.refl _ _).alloc (Nat.le_refl _) _⟩
  rw [decide_eq_false q4]
  have q40 : (next == 0) = false := by simpa using q4
  have HIB := Lib.hid (pg_isBlock next)
  clear q4
  go_enter Try.func35, Try.ntmps35
  go_wp2_with fail
  refine (HIB.out _).mono ?_
  rintro e w3 ⟨rfl, rfl⟩
  go_wp2
  go_ret
  exact ⟨by simp, (Below.refl _ _).alloc (Nat.le_refl _) _⟩
end Go.Proofs.Ytlandlgjhnnaiaa
