/- The device's Pending: the numbers of the writes of the cache. -/
import Derived.Test.YtjbffahmjhbpjaaDvl4
import Derived.Test.YtjbffahmjhbpjaaOwnJ
import Derived.Test.YtjbffahmjhbpjaaStp
set_option linter.unusedVariables false
set_option linter.unusedSimpArgs false
set_option maxRecDepth 100000
namespace Go.Proofs.Ytjbffahmjhbpjaa
open Go.RowKit
def zPd : Array Value := #[.int .i64 0] ++ Array.replicate 512 (.int .u8 0)
theorem zPd_size : zPd.size = 513 := by simp [zPd]
theorem al_pd (W : World) : (Instr.alloc 80 true (.tuple #[])).run Try.prog W = .ok (.pointer (some ⟨W.heap.size, 0, none⟩)) (W.alloc (.cells zPd 80)) := by
  have hz := zero_pd W
  rw [show (#[Value.int .i64 0] ++ Array.replicate 512 (Value.int .u8 0)) = zPd from rfl] at hz
  have hn : (newVar 80 (.agg zPd)).run Try.prog W = .ok ⟨W.heap.size, 0, none⟩ (W.alloc (.cells zPd 80)) := rfl
  simp only [Instr.alloc, Sem.run_bind, hz, hn, Result.andThen_ok, Sem.run_pure]
/-- the variable of a range over the cache: made, and the element laid there -/
theorem put_pd (W : World) (x : Pd) (hx : x.data.length = 512) : ∃ W2, (Instr.storeAt 80 (.pointer (some ⟨W.heap.size, 0, none⟩)) (.agg (pc x).toArray)).run Try.prog (W.alloc (.cells zPd 80)) = .ok () W2 ∧
    Below W.heap.size W W2 ∧ W2.cell? ⟨W.heap.size, 0, none⟩ = some (.int .i64 ((x.num : Nat) : Int)) ∧ W2.heap.size = W.heap.size + 1 := by
  have hl := pc_length hx
  have hth : (W.alloc (.cells zPd 80)).there W.heap.size 0 (pc x).toArray.size := by
    have h := there_of_row (b := W.heap.size) (w := W.alloc (.cells zPd 80)) (cs := zPd) (t := 80) (heap_alloc_new W _)
    rw [zPd_size] at h
    rw [show (pc x).toArray.size = 513 by rw [List.size_toArray, hl]]; exact h
  have hsz : (Try.prog.info? 80).map (·.size) = some (pc x).toArray.size := by
    rw [List.size_toArray, hl]
    obtain ⟨i0, hi, hzz⟩ := Option.map_eq_some_iff.1 info_pd
    simp only [Prod.mk.injEq] at hzz
    rw [hi]; simp [hzz.2.1]
  refine ⟨_, run_storeAt_mid _ W.heap.size 0 80 _ hth hsz (all_oneCell_toArray (fun u hu => pcs_one [x] u (by simpa [pcs] using hu))), ?_, ?_, ?_⟩
  · exact below_setCells (Nat.le_refl _) _ _ ((Below.refl _ W).alloc (Nat.le_refl _) _)
  · have := World.rangeAt_setCells_same (W.alloc (.cells zPd 80)) W.heap.size 0 (pc x) (by rw [← List.size_toArray]; exact hth) 0 (.int .i64 ((x.num : Nat) : Int)) rfl
    simpa using this
  · rw [size_setCells]; simp
def nums (C : List Pd) : List Int := C.map fun x => ((x.num : Nat) : Int)
theorem nums_len (C : List Pd) : (nums C).length = C.length := by simp [nums]
theorem OwnP.range {w : World} {base n q g c : Nat} {C : List Pd} (h : OwnP w base n (.slice (some ⟨g, 0, none⟩) q c) q C) (j : Nat) (hj : j < q) : w.rangeAt g (j * 513) (pc (C.getD j default)) := by
  have hl := h.len
  have hd := (h.1.get j (by omega)).2
  intro i u hu
  have hi : i < 513 := by
    rcases Nat.lt_or_ge i 513 with h | h
    · exact h
    · rw [List.getElem?_eq_none (by rw [pc_length hd]; exact h)] at hu; cases hu
  have := World.ownsRow.cells h.2 (g := g) rfl (j * 513 + i) u (by rw [pcs_get C j i h.1 (by omega) hi, hu])
  rwa [Addr.add_mid, Nat.zero_add] at this
theorem dv_Pending (w : World) (b g : Nat) (vc : Value) (D : DS) (h : IsV w b g vc D) (hq : D.C.length ≤ 100000000000) :
    Calls Try.prog 20 #[.pointer (some ⟨b, 0, none⟩)] w fun e w' => ∃ u, e = .returned u ∧ OwnI w' w.heap.size u D.C.length (nums D.C) ∧ Below w.heap.size w w' := by
  have HV := Lib.hid h
  have c1 : w.cell? ⟨b, 1, none⟩ = some vc := h.dev.cell 1
  obtain ⟨Ac, cc, rfl⟩ := h.ca.slice
  have hal := al_pd
  have hpp := put_pd
  obtain ⟨Z, hZ⟩ : ∃ Z, Z = zPd := ⟨_, rfl⟩
  rw [← hZ] at hal
  simp only [← hZ] at hpp
  have HPP := Lib.hid hpp
  clear h hZ hpp
  go_enter Try.func20, Try.ntmps20
  go_wp2_with fail
  clear c1
  go_loopw [3, 5, 11] (fun v _ x wx => ∃ k : Nat, k ≤ D.C.length ∧ x = .int .i64 k ∧ OwnI wx w.heap.size v k (nums (D.C.take k)) ∧ Below w.heap.size w wx) (fun _ _ x _ => D.C.length - (intOf x).toNat)
  case atStart => exact ⟨0, by omega, rfl, by simpa [nums] using OwnI.nil w w.heap.size, Below.refl _ _⟩
  case round =>
    obtain ⟨k, hk, rfl, hO, hB⟩ := hrel
    have HO := Lib.hid hO
    have HB := Lib.hid hB
    have hz := hB.size
    by_cases hkn : k < D.C.length
    · have hV := HV.out.ext hB
      obtain ⟨gc, cc2, hvc⟩ := hV.ca.form (by show 0 < D.C.length; omega)
      injection hvc with hv1 hv2 hv3
      subst hv1 hv3
      have hrg := hV.ca.range k hkn
      have hpd := hV.ca.1.get k hkn
      obtain ⟨x, hxx⟩ : ∃ x, x = D.C.getD k default := ⟨_, rfl⟩
      rw [← hxx] at hrg hpd
      have hld := run_loadAt_mid (P := Try.prog) wr gc (k * 513) 80 (pc x) _ hrg Try.underlying80 rfl (by
        rw [pc_length hpd.2]
        obtain ⟨i0, hi, hzz⟩ := Option.map_eq_some_iff.1 info_pd
        simp only [Prod.mk.injEq] at hzz
        rw [hi]; simp [hzz.2.1])
      obtain ⟨W2, hst, hB2, hc2, hs2⟩ := HPP.out wr x hpd.2
      obtain ⟨X, hX⟩ : ∃ X, X = Value.agg (pc x).toArray := ⟨_, rfl⟩
      rw [← hX] at hld hst
      have HST := Lib.hid (show nums (D.C.take (k + 1)) = nums (D.C.take k) ++ [((x.num : Nat) : Int)] by rw [takeP_snoc D.C k hkn, ← hxx]; simp [nums])
      have HO2 := Lib.hid (HO.out.ext hB2)
      have HB2 := Lib.hid (HB.out.trans (hB2.mono hz))
      have hkk : (0 : Int) ≤ (k : Int) ∧ (k : Int) < (D.C.length : Int) ∧ (D.C.length : Int) ≤ 100000000000 := by omega
      clear hO hB hV hrg hpd hxx hB2 hX
      go_upto_region 4 with fail
      refine wp_region_lit ?_
      refine wpl_val rfl (.pointer (some ⟨gc, k * 513, none⟩)) wr ?_ ?_
      · go_simp
      refine wpl_load rfl _ _ _ X rfl rfl hld ?_
      refine wpl_alloc rfl _ _ _ rfl (hal wr) ?_
      refine wpl_store rfl _ _ _ _ X W2 rfl rfl rfl hst ?_
      have hz2 : w.heap.size ≤ W2.heap.size := by omega
      clear hal hld hst hs2
      simp only [Act.put, List.getElem_toArray, List.getElem_cons_zero, List.getElem_cons_succ, List.setIfInBounds_toArray, List.set_cons_zero, List.set_cons_succ]
      go_wp2_with (at_builtin; refine wp_appI1 (w0 := w) w.heap.size _ HO2.out HB2.out hz2 (by omega) _ _ rfl rfl rfl rfl ?_; intro v1 w1 hO1 hB1; have HO1 := Lib.hid hO1; have HB1 := Lib.hid hB1; clear hO1 hB1)
      go_roundw
      case rel => exact ⟨k + 1, by omega, by go_num, by rw [HST.out]; exact HO1.out, HB1.out⟩
      case measure => simp [intOf]; omega
    · obtain rfl : D.C.length = k := by omega
      rw [List.take_length] at HO
      clear hO hB
      go_wp2
      go_ret
      exact ⟨_, rfl, HO.out, HB.out⟩
end Go.Proofs.Ytjbffahmjhbpjaa
