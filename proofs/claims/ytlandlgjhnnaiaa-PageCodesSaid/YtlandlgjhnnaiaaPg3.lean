/- Pages: which nodes are leaves. -/
import Derived.Test.YtlandlgjhnnaiaaPg2
set_option linter.unusedVariables false
set_option linter.unusedSimpArgs false
set_option maxRecDepth 100000
namespace Go.Proofs.Ytlandlgjhnnaiaa
open Go.RowKit
/-- the key ahead of the k-th entry -/
def lastE (l : List En) : Nat → ByteArray
  | 0 => noS
  | k + 1 => (l.getD k default).key
theorem leafGo_step (es : List En) (cs : List Int) (last : ByteArray) (k : Nat) (h : k < es.length) (hc : cs.length = es.length) :
    leafGo last (es.drop k) (cs.drop k) = (entOk last (es.getD k default) (cs.getD k 0) && leafGo (es.getD k default).key (es.drop (k + 1)) (cs.drop (k + 1))) := by
  have h1 : es.drop k = es.getD k default :: es.drop (k + 1) := by
    rw [List.getD_eq_getElem?_getD, List.getElem?_eq_getElem h]; simp
  have h2 : cs.drop k = cs.getD k 0 :: cs.drop (k + 1) := by
    rw [List.getD_eq_getElem?_getD, List.getElem?_eq_getElem (by omega)]; simp
  conv => lhs; rw [h1, h2, leafGo]
theorem size_ne {s : ByteArray} (h : s.size ≠ 0) : s ≠ noS := fun e => h (by rw [e]; rfl)
theorem size_eq {s : ByteArray} (h : s.size = 0) : s = noS := by
  cases s with | mk a => 
  have : a = #[] := Array.eq_empty_of_size_eq_zero h
  subst this; rfl
theorem toList_ne {s : ByteArray} (h : s.size ≠ 0) : s.toList.isEmpty = false := by
  rw [ByteArray.toList_eq, List.isEmpty_eq_false_iff]
  intro e
  apply h
  have : s.data.toList.length = 0 := by rw [e]; rfl
  rwa [Array.length_toList] at this
theorem noS_list : noS.toList.isEmpty = true := by rw [ByteArray.toList_eq]; rfl
/-- what an entry must be, told by its tests in their order -/
theorem entOk_of (last : ByteArray) (e : En) (c : Int) : entOk last e c = (keyOk e.key && !leS e.key last && !(decide (c ≠ 0) && (!blkOk c || decide (e.val.size ≠ 0))) && decide (e.val.size ≤ 64)) := rfl
/-- what the first test of a leaf asks -/
def leafHd (n : Nd) : Bool := decide (n.ents.length ≠ 0) && decide (n.chs.length = n.ents.length) && decide (n.keys.length = 0) && decide (n.kids.length = 0) && decide (n.next = 0) && decide (n.data.size = 0)
theorem isLeafN_hd (n : Nd) : isLeafN n = (leafHd n && leafGo noS n.ents n.chs) := rfl
set_option maxHeartbeats 2000000 in
theorem pg_isLeaf (n : Nd) (vE vC vK vD : Value) (w : World) (hN : NdR w n vE vC vK vD) :
    Calls Try.prog 33 #[.agg (ndC n vE vC vK vD)] w fun e w' => e = .returned (.bool (isLeafN n)) ∧ Below w.heap.size w w' := by
  obtain ⟨⟨A1, c1, rfl, h1⟩, ⟨A2, c2, rfl, h2⟩, ⟨A3, c3, rfl, h3⟩, ⟨A4, c4, rfl, h4⟩⟩ := hN
  obtain ⟨kind, ents, chs, keys, kids, next, data⟩ := n
  rw [isLeafN_hd]
  unfold leafHd ndC
  dsimp only at h1 h2 h3 h4 ⊢
  have HR1 := Lib.hid h1
  have HR2 := Lib.hid h2
  have m1 := h1.max
  have m2 := h2.max
  have m3 := h3.max
  have m4 := h4.max
  clear h1 h2 h3 h4
  obtain ⟨ne, hne⟩ : ∃ ne, ne = ents.length := ⟨_, rfl⟩
  obtain ⟨nc, hnc⟩ : ∃ nc, nc = chs.length := ⟨_, rfl⟩
  obtain ⟨nk, hnk⟩ : ∃ nk, nk = keys.length := ⟨_, rfl⟩
  obtain ⟨nd, hnd⟩ : ∃ nd, nd = kids.length := ⟨_, rfl⟩
  rw [← hne, ← hnc, ← hnk, ← hnd]
  rw [← hne] at HR1 m1
  rw [← hnc] at HR2 m2
  rw [← hnk] at m3
  rw [← hnd] at m4
  have HLE := Lib.hid hne
  have HLC := Lib.hid hnc
  clear hne hnc hnk hnd
  obtain ⟨L, hL⟩ : ∃ L, L = leafGo noS ents chs := ⟨_, rfl⟩
  rw [← hL]
  have HL := Lib.hid hL
  clear hL
  by_cases q1 : ne = 0
  · rw [decide_eq_false (show ¬ ne ≠ 0 by omega)]
    subst q1
    go_enter Try.func33, Try.ntmps33
    go_wp2
    go_ret
    exact ⟨rfl, (Below.refl _ _).alloc (Nat.le_refl _) _⟩
  rw [decide_eq_true q1]
  have q10 : ((ne : Int) == 0) = false := by simpa using q1
  by_cases q2 : nc = ne
  rotate_left
  · rw [decide_eq_false q2]
    go_enter Try.func33, Try.ntmps33
    go_wp2
    go_ret
    exact ⟨rfl, (Below.refl _ _).alloc (Nat.le_refl _) _⟩
  subst q2
  rw [decide_eq_true rfl]
  by_cases q3 : nk = 0
  rotate_left
  · rw [decide_eq_false q3]
    have q30 : (0 : Int) < (nk : Int) := by omega
    go_enter Try.func33, Try.ntmps33
    go_wp2
    go_ret
    exact ⟨rfl, (Below.refl _ _).alloc (Nat.le_refl _) _⟩
  subst q3
  by_cases q4 : nd = 0
  rotate_left
  · rw [decide_eq_false q4]
    have q40 : (0 : Int) < (nd : Int) := by omega
    go_enter Try.func33, Try.ntmps33
    go_wp2
    go_ret
    exact ⟨rfl, (Below.refl _ _).alloc (Nat.le_refl _) _⟩
  subst q4
  by_cases q5 : next = 0
  rotate_left
  · rw [decide_eq_false q5]
    have q50 : (next != 0) = true := by simpa using q5
    go_enter Try.func33, Try.ntmps33
    go_wp2
    go_ret
    exact ⟨rfl, (Below.refl _ _).alloc (Nat.le_refl _) _⟩
  subst q5
  by_cases q6 : data.size = 0
  rotate_left
  · rw [decide_eq_false q6]
    have q60 := toList_ne q6
    go_enter Try.func33, Try.ntmps33
    go_wp2
    go_ret
    exact ⟨rfl, (Below.refl _ _).alloc (Nat.le_refl _) _⟩
  rw [decide_eq_true q6]
  obtain rfl := size_eq q6
  have q60 := noS_list
  simp only [Bool.and_true, Bool.true_and]
  obtain ⟨W, hW⟩ : ∃ W, W = w.alloc (.cells #[.int .i64 kind, .slice A1 nc c1, .slice A2 nc c2, .slice A3 0 c3, .slice A4 0 c4, .int .i64 0, .string noS] 26) := ⟨_, rfl⟩
  obtain ⟨g, hg⟩ : ∃ g, g = w.heap.size := ⟨_, rfl⟩
  have HB0 := Lib.hid (show Below g w W by rw [hW, hg]; exact (Below.refl _ _).alloc (Nat.le_refl _) _)
  have HRW := Lib.hid (show W.heap[g]? = some (.cells #[.int .i64 kind, .slice A1 nc c1, .slice A2 nc c2, .slice A3 0 c3, .slice A4 0 c4, .int .i64 0, .string noS] 26 (0, 0)) by rw [hW, hg]; exact heap_alloc_new w _)
  have HZ := Lib.hid (show w.heap.size ≤ W.heap.size ∧ g < W.heap.size ∧ g = w.heap.size by rw [hW]; simp; omega)
  go_enter Try.func33, Try.ntmps33
  go_wp2_with fail
  rw [← hW, ← hg]
  clear hW hg q10
  go_loopw [3, 4, 5, 44] (fun l3 _ _ x wr => ∃ k : Nat, k ≤ nc ∧ x = .int .i64 k ∧ l3 = .string (lastE ents k) ∧ L = leafGo (lastE ents k) (ents.drop k) (chs.drop k) ∧ Only [] W wr) (fun _ _ _ x _ => nc - (intOf x).toNat)
  case atStart => exact ⟨0, by omega, rfl, rfl, HL.out, Only.refl _ _⟩
  case round =>
    obtain ⟨k, hk, rfl, rfl, hE, hO⟩ := hrel
    have HE := Lib.hid hE
    have HO := Lib.hid hO
    clear hE hO
    by_cases hkn : k < nc
    · obtain ⟨b1, o1, rfl, hc1⟩ := ((HR1.out.ext ((HZ.out.2.2 ▸ HB0.out))).keep HO.out (by simp)).at_ (by omega)
      obtain ⟨b2, o2, rfl, -, hc2⟩ := ((HR2.out.ext ((HZ.out.2.2 ▸ HB0.out))).only HO.out (by simp)).at_ (by omega)
      obtain ⟨hck, hcv⟩ := hc1 k hkn
      have hcc := hc2 k hkn
      clear hc1 hc2
      have hst := HE.out
      rw [leafGo_step _ _ _ _ (by rw [← HLE.out]; exact hkn) (by rw [← HLE.out, ← HLC.out])] at hst
      have HLK := Lib.hid (show lastE ents (k + 1) = (ents.getD k default).key from rfl)
      obtain ⟨R, hR⟩ : ∃ R, R = leafGo (ents.getD k default).key (ents.drop (k + 1)) (chs.drop (k + 1)) := ⟨_, rfl⟩
      have HRR := Lib.hid (show R = leafGo (lastE ents (k + 1)) (ents.drop (k + 1)) (chs.drop (k + 1)) from hR)
      rw [← hR] at hst
      obtain ⟨e, he⟩ : ∃ e, e = ents.getD k default := ⟨_, rfl⟩
      rw [← he] at hck hcv hst HLK
      obtain ⟨c, hc⟩ : ∃ c, c = chs.getD k 0 := ⟨_, rfl⟩
      rw [← hc] at hcc hst
      clear he hc hR
      obtain ⟨key, val⟩ := e
      obtain ⟨last, hla⟩ : ∃ last, last = lastE ents k := ⟨_, rfl⟩
      rw [← hla] at hst ⊢
      dsimp only at hck hcv hst HLK
      rw [entOk_of] at hst
      dsimp only at hst
      have hrw : wr.heap[g]? = some (.cells #[.int .i64 kind, .slice (some ⟨b1, o1, none⟩) nc c1, .slice (some ⟨b2, o2, none⟩) nc c2, .slice A3 0 c3, .slice A4 0 c4, .int .i64 0, .string noS] 26 (0, 0)) := (HO.out.blk g HZ.out.2.1 (by simp)).trans HRW.out
      have hg2 : wr.cell? ⟨g, 2, none⟩ = some (.slice (some ⟨b2, o2, none⟩) nc c2) := cell_of_row wr g 2 _ _ _ hrw
      have hgs := lt_of_block hrw
      have hbs1 : b1 < wr.heap.size := World.block_lt_of_cell? wr _ hck
      have hbs2 : b2 < wr.heap.size := World.block_lt_of_cell? wr _ hcc
      have HBW := Lib.hid (show Below w.heap.size w wr from (HZ.out.2.2 ▸ HB0.out).trans (HO.out.below (by have := HZ.out; omega) (by simp)))
      have HK := Lib.hid (pg_isKey key)
      have HIB := Lib.hid (pg_isBlock c)
      have hk0 : (0 : Int) ≤ (k : Int) ∧ (k : Int) < (nc : Int) := by omega
      clear hla hrw
      obtain ⟨kb, hkb⟩ : ∃ kb, kb = keyOk key := ⟨_, rfl⟩
      rw [← hkb] at HK hst
      clear hkb
      cases kb
      · have HST := Lib.hid (show L = false by simpa using hst)
        clear hst
        go_wp2_with fail
        refine (HK.out _).mono ?_
        rintro e w3 ⟨rfl, rfl⟩
        go_wp2
        go_ret
        exact ⟨by rw [HST.out]; rfl, HBW.out.alloc (by have := HBW.out.size; omega) _⟩
      obtain ⟨lb, hlb⟩ : ∃ lb, lb = leS key last := ⟨_, rfl⟩
      rw [← hlb] at hst
      unfold leS at hlb
      obtain ⟨la, hla⟩ : ∃ la, Op.bytesLess key.toList last.toList = la := ⟨_, rfl⟩
      obtain ⟨le, hle⟩ : ∃ le, (key.toList == last.toList) = le := ⟨_, rfl⟩
      rw [hla, hle] at hlb
      cases la
      rotate_left
      · have HST := Lib.hid (show L = false by simpa [hlb] using hst)
        clear hst hlb hle
        go_wp2_with fail
        refine (HK.out _).mono ?_
        rintro e w3 ⟨rfl, rfl⟩
        go_wp2
        go_ret
        exact ⟨by rw [HST.out]; rfl, HBW.out.alloc (by have := HBW.out.size; omega) _⟩
      cases le
      rotate_left
      · have HST := Lib.hid (show L = false by simpa [hlb] using hst)
        clear hst hlb
        go_wp2_with fail
        refine (HK.out _).mono ?_
        rintro e w3 ⟨rfl, rfl⟩
        go_wp2
        go_ret
        exact ⟨by rw [HST.out]; rfl, HBW.out.alloc (by have := HBW.out.size; omega) _⟩
      rw [show lb = false from hlb] at hst
      clear hlb
      by_cases hc0 : c = 0
      · subst hc0
        rw [decide_eq_false (show ¬ (0 : Int) ≠ 0 by simp)] at hst
        by_cases hv : val.size ≤ 64
        · rw [decide_eq_true hv] at hst
          have HST := Lib.hid (show L = R by simpa using hst)
          have hvi : (val.size : Int) ≤ 64 := by omega
          clear hst
          go_wp2_with fail
          refine (HK.out _).mono ?_
          rintro e w3 ⟨rfl, rfl⟩
          go_wp2
          go_roundw
          case rel => exact ⟨k + 1, by omega, by go_num, by rw [HLK.out], by rw [HST.out]; exact HRR.out, HO.out.alloc _⟩
          case measure => simp [intOf]; omega
        · rw [decide_eq_false hv] at hst
          have HST := Lib.hid (show L = false by simpa using hst)
          have hvi : (64 : Int) < (val.size : Int) := by omega
          clear hst
          go_wp2_with fail
          refine (HK.out _).mono ?_
          rintro e w3 ⟨rfl, rfl⟩
          go_wp2
          go_ret
          exact ⟨by rw [HST.out]; rfl, HBW.out.alloc (by have := HBW.out.size; omega) _⟩
      rw [decide_eq_true hc0] at hst
      have hc1 : (c != 0) = true := by simpa using hc0
      obtain ⟨bk, hbk⟩ : ∃ bk, bk = blkOk c := ⟨_, rfl⟩
      rw [← hbk] at hst HIB
      clear hbk
      cases bk
      · have HST := Lib.hid (show L = false by simpa using hst)
        clear hst
        go_wp2_with fail
        refine (HK.out _).mono ?_
        rintro e w3 ⟨rfl, rfl⟩
        go_wp2_with fail
        refine (HIB.out _).mono ?_
        rintro e w3 ⟨rfl, rfl⟩
        go_wp2
        go_ret
        exact ⟨by rw [HST.out]; rfl, HBW.out.alloc (by have := HBW.out.size; omega) _⟩
      by_cases hv : val.size = 0
      · obtain rfl := size_eq hv
        have HST := Lib.hid (show L = R by simpa [hv] using hst)
        have hvi : (noS.size : Int) ≤ 64 := by omega
        have hnl := noS_list
        clear hst
        go_wp2_with fail
        refine (HK.out _).mono ?_
        rintro e w3 ⟨rfl, rfl⟩
        go_wp2_with fail
        refine (HIB.out _).mono ?_
        rintro e w3 ⟨rfl, rfl⟩
        go_wp2
        go_roundw
        case rel => exact ⟨k + 1, by omega, by go_num, by rw [HLK.out], by rw [HST.out]; exact HRR.out, HO.out.alloc _⟩
        case measure => simp [intOf]; omega
      · have HST := Lib.hid (show L = false by simpa [hv] using hst)
        have hnl := toList_ne hv
        clear hst
        go_wp2_with fail
        refine (HK.out _).mono ?_
        rintro e w3 ⟨rfl, rfl⟩
        go_wp2_with fail
        refine (HIB.out _).mono ?_
        rintro e w3 ⟨rfl, rfl⟩
        go_wp2
        go_ret
        exact ⟨by rw [HST.out]; rfl, HBW.out.alloc (by have := HBW.out.size; omega) _⟩
    · obtain rfl : nc = k := by omega
      have HBW := Lib.hid (show Below w.heap.size w wr from (HZ.out.2.2 ▸ HB0.out).trans (HO.out.below (by have := HZ.out; omega) (by simp)))
      have HD := Lib.hid (show ents.drop nc = [] from List.drop_of_length_le (by rw [← HLE.out]; omega))
      go_wp2
      go_ret
      refine ⟨?_, HBW.out⟩
      rw [HE.out, HD.out]
      cases chs.drop nc <;> rfl
end Go.Proofs.Ytlandlgjhnnaiaa
