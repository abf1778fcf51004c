/- The device's settle under Flush. -/
import Derived.Test.YtjbffahmjhbpjaaDv9
import Derived.Deep.RegionHeld3
set_option linter.unusedVariables false
set_option linter.unusedSimpArgs false
set_option maxRecDepth 100000
namespace Go.Proofs.Ytjbffahmjhbpjaa
open Go.RowKit
/-- the first n bytes of a write are laid on the medium -/
def layP (M : List UInt8) (x : Pd) (n : Nat) : List UInt8 := splice M (x.num * 512) (x.data.take n)
theorem layP_len {M : List UInt8} {x : Pd} {n N : Nat} (h : M.length = N * 512) (h1 : x.num < N) (h2 : x.data.length = 512) : (layP M x n).length = N * 512 := by
  have h3 : (x.data.take n).length ≤ 512 := by rw [List.length_take]; omega
  have h4 : x.num * 512 + 512 ≤ N * 512 := by have : (x.num + 1) * 512 ≤ N * 512 := Nat.mul_le_mul_right _ h1; omega
  unfold layP splice
  rw [List.length_append, List.length_append, List.length_take, List.length_drop, h]
  omega
/-- all writes of a list, each as far as f says -/
def layA (f : Nat → Nat) : Nat → List Pd → List UInt8 → List UInt8
  | _, [], M => M
  | i, x :: r, M => layA f (i + 1) r (layP M x (f i))
theorem layA_snoc (f : Nat → Nat) (x : Pd) : ∀ (i : Nat) (l : List Pd) (M : List UInt8), layA f i (l ++ [x]) M = layP (layA f i l M) x (f (i + l.length))
  | i, [], M => rfl
  | i, y :: r, M => by
    rw [List.cons_append, layA, layA_snoc f x (i + 1) r, layA, List.length_cons, show i + 1 + r.length = i + (r.length + 1) by omega]
theorem dv_flush1 (w : World) (i : Int) : Calls Try.prog 38 #[.int .i64 i] w fun e w' => e = .returned (.tuple #[.int .i64 512, .bool true]) ∧ w' = w := by
  go_enter Try.func38, Try.ntmps38
  go_wp2
  go_ret2
  exact ⟨rfl, rfl⟩
theorem IsV.noCache {w : World} {b g : Nat} {vc : Value} {D : DS} (h : IsV w b g vc D) : IsV (w.setCell ⟨b, 1, none⟩ (.slice none 0 0)) b g (.slice none 0 0) { D with C := [] } ∧ Fr (dvS b g vc) (dvS b g (.slice none 0 0)) w (w.setCell ⟨b, 1, none⟩ (.slice none 0 0)) := by
  have hS : Only [b] w (w.setCell ⟨b, 1, none⟩ (.slice none 0 0)) := (Only.refl [b] w).setCell (by simp) _
  refine ⟨⟨⟨?_, ?_, h.dev.len, h.dev.ne, h.dev.small⟩, ⟨PdOk.nil _, World.ownsRow_nil _ _ _ _⟩, fun k hk => by cases hk⟩, hS.mono (by simp [dvS]), ?_⟩
  · rw [heap_setCell_same w b 1 _ _ _ h.dev.st]; rfl
  · exact (hS.blk g (lt_of_block h.dev.med) (by simp; exact fun e => h.dev.ne e.symm)).trans h.dev.med
  · intro k hk
    simp only [dvS, Value.ownBlock, Option.toList_none, List.mem_cons, List.not_mem_nil, or_false] at hk ⊢
    rcases hk with rfl | rfl
    · exact .inl (.inl rfl)
    · exact .inl (.inr (.inl rfl))
theorem Fr.of_med {b g : Nat} {vc : Value} {w w' : World} (h : b ≠ g) (ho : Only [g] w w') : Fr (dvS b g vc) (dvS b g vc) w w' := ⟨ho.mono (by simp [dvS]), fun k hk => .inl hk⟩
theorem dv_settleF (w : World) (b g : Nat) (vc : Value) (D : DS) (h : IsV w b g vc D) (hq : D.C.length ≤ 100000000000) :
    Calls Try.prog 37 #[.pointer (some ⟨b, 0, none⟩), .func (.func 38) #[] #[]] w fun e w' => e = .returned (.int .i64 (D.C.length : Nat)) ∧
      IsV w' b g (.slice none 0 0) { D with C := [], M := layA (fun _ => 512) 0 D.C D.M } ∧ Fr (dvS b g vc) (dvS b g (.slice none 0 0)) w w' := by
  have c1 : w.cell? ⟨b, 1, none⟩ = some vc := h.dev.cell 1
  have HV := Lib.hid h
  obtain ⟨Ac, cc, rfl⟩ := h.ca.slice
  have hbg := h.dev.ne
  clear h
  go_enter Try.func37, Try.ntmps37
  go_wp2_with fail
  clear c1
  go_loopw [5, 6, 7, 8, 9, 15] (fun vt _ _ _ _ x wx => ∃ j : Nat, j ≤ D.C.length ∧ x = .int .i64 j ∧ vt = .int .i64 j ∧ IsV wx b g (.slice Ac D.C.length cc) { D with M := layA (fun _ => 512) 0 (D.C.take j) D.M } ∧ Only [g] w wx) (fun _ _ _ _ _ x _ => D.C.length - (intOf x).toNat)
  case atStart => exact ⟨0, Nat.zero_le _, rfl, rfl, HV.out, Only.refl _ _⟩
  case round =>
    obtain ⟨j, hj, rfl, rfl, hI, hO⟩ := hrel
    have HI := Lib.hid hI
    have HO := Lib.hid hO
    have c1 : wr.cell? ⟨b, 1, none⟩ = some (.slice Ac D.C.length cc) := hI.dev.cell 1
    have c0 := hI.dev.c0
    have hsm := hI.dev.small
    have hml := hI.dev.len
    by_cases hjn : j < D.C.length
    · obtain ⟨gc, cc2, hvc⟩ := hI.ca.form (by show 0 < D.C.length; omega)
      injection hvc with hv1 hv2 hv3
      subst hv1 hv3
      have hat := hI.ca.at_ j hjn
      have hpd := hI.ca.1.get j hjn
      obtain ⟨x, hxx⟩ : ∃ x, x = D.C.getD j default := ⟨_, rfl⟩
      have hn2 : wr.cell? ⟨gc, j * 513, none⟩ = some (.int .i64 ((x.num : Nat) : Int)) := by rw [hxx]; exact hat.1
      have hrg : wr.rangeAt gc (j * 513 + 1) (bv x.data) := by rw [hxx]; exact hat.2
      have hpd1 : x.num < D.n := by rw [hxx]; exact hpd.1
      have hpd2 : x.data.length = 512 := by rw [hxx]; exact hpd.2
      obtain ⟨M, hM⟩ : ∃ M, M = layA (fun _ => 512) 0 (D.C.take j) D.M := ⟨_, rfl⟩
      have HST := Lib.hid (show layA (fun _ => 512) 0 (D.C.take (j + 1)) D.M = splice M (x.num * 512) x.data by
        rw [takeP_snoc D.C j hjn, layA_snoc, ← hxx, ← hM]
        unfold layP
        rw [List.take_of_length_le (by omega)])
      have hml2 : M.length = D.n * 512 := by rw [hM]; exact hml
      rw [← hM] at HI
      have HMD := Lib.hid HI.out.dev.med
      have hjj : (0 : Int) ≤ (j : Int) ∧ (j : Int) < ((D.C.length : Nat) : Int) ∧ ((D.C.length : Nat) : Int) ≤ 100000000000 := by omega
      have hxn : (0 : Int) ≤ (x.num : Int) ∧ (x.num : Int) < (D.n : Int) := by omega
      have hgne : gc ≠ g := (HI.out.nb gc rfl).2
      have hbne : b ≠ g := HI.out.dev.ne
      have HXX := Lib.hid hxx
      clear hI hO hat hpd hxx hM hml
      go_wp2_with fail
      refine (dv_flush1 _ _).mono ?_
      rintro e w2 ⟨rfl, rfl⟩
      go_wp2_with fail
      have HSRC := Lib.hid (show ∀ k v, (bv x.data)[k]? = some v → w2.drew.cell? ((⟨gc, j * 513 + 1, none⟩ : Addr).add k) = some v from fun k v hv => by rw [Addr.add_mid]; exact hrg k v hv)
      have HMD2 := Lib.hid (show w2.drew.heap[g]? = some (.cells (bv M).toArray 78 (0, 0)) from HMD.out)
      clear hrg
      go_region_held3 (fun w' => w'.cell? ⟨b, 0, none⟩ = some (.slice (some ⟨g, 0, none⟩) D.n D.n) ∧ w'.cell? ⟨gc, j * 513, none⟩ = some (.int .i64 ((x.num : Nat) : Int)) ∧ Only [g] w2 w')
        (first | exact ⟨f0, f1, fO⟩ | exact ⟨c0, hn2, (Only.refl _ _).drew⟩)
        (first | (refine step_copy_only rfl (.tmp 39) (.tmp 44) 29 29 rfl 5 Try.underlying29 sz_u8 g (x.num * 512) 512 512 ⟨gc, j * 513 + 1, none⟩ 512 512 rfl rfl (bv M) 78 HMD2.out (bv x.data) ?q3 HSRC.out ?q5 (bv_one _) ?_
                  (case q3 => (rw [bv_length, hpd2]; first | done | rfl))
                  (case q5 => (rw [bv_length, bv_length, hml2, hpd2]; omega))
                  intro w3 hg3 ho3
                  rw [splice_bv] at hg3
                  have fO : Only [g] w2 w3 := ((Only.refl [g] w2).drew).trans ho3
                  have HP := Lib.hid (HI.out.setMed fO hg3 (by simp [splice]; omega))
                  have f0 := HP.out.1.dev.c0
                  have f1 := (HP.out.1.ca.at_ j hjn).1
                  rw [← HXX.out] at f1
                  clear ho3 hg3))
      rename_i hHeld
      clear hHeld
      go_wp2
      go_roundw
      case rel => exact ⟨j + 1, by omega, by go_num, by go_num, by rw [HST.out]; exact HP.out.1, HO.out.trans fO⟩
      case measure => simp [intOf]; omega
    · obtain rfl : D.C.length = j := by omega
      have HT := Lib.hid (show layA (fun _ => 512) 0 (D.C.take D.C.length) D.M = layA (fun _ => 512) 0 D.C D.M by rw [List.take_length])
      have f1 := frozen_of_row wr b 1 _ _ hI.dev.st
      rw [HT.out] at hI
      have HD := Lib.hid hI.noCache
      clear hI HI
      go_wp2
      go_ret
      exact ⟨by simp, HD.out.1, (Fr.of_med hbg HO.out).trans HD.out.2⟩
end Go.Proofs.Ytjbffahmjhbpjaa
