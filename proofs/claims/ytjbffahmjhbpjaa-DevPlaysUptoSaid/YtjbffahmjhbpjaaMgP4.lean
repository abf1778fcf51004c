/- The reference's device: Crash. -/
import Derived.Test.YtjbffahmjhbpjaaMgP3
import Derived.Deep.RegionHeld3
import Derived.SizedLaws
import Derived.ChangeSlices
import Derived.ProofKit
import Derived.OpenShut
import Derived.Deep.Slices
/- The reference's device: Crash. -/
set_option linter.unusedVariables false
set_option linter.unusedSimpArgs false
set_option maxRecDepth 100000
namespace Go.Proofs.Ytjbffahmjhbpjaa
open Go.RowKit
theorem RowB.cut {o : Obj} {n c : Nat} {l : List UInt8} (h : RowB o n c l) (m : Nat) (hm : m ≤ n) : RowB o m c (l.take m) := by
  have hl := h.len
  obtain ⟨cur, h0, h1, h2, h3, h4, h5⟩ := h
  refine ⟨cur, h0, by rw [bv_length, List.length_take]; omega, by omega, h3, h4, ?_⟩
  have h6 := congrArg (List.take m) h5
  rw [List.take_take, Nat.min_eq_left hm] at h6
  rw [h6, bv, bv, List.map_take]
theorem heap_alloc2 (w : World) (o o2 : Obj) : ((w.alloc o).drew.alloc o2).heap[w.heap.size + 1]? = some o2 := by
  have h9 := heap_alloc_new (w.alloc o).drew o2
  rwa [show (w.alloc o).drew.heap.size = w.heap.size + 1 from World.size_alloc ..] at h9
theorem ly_cut {K : List (Nat × Obj)} {N blk kx : Nat} {ox : Obj} {cb : Nat} {BB : List UInt8} (hb : blk < N) (hK : (kx, ox) ∈ K) (hr : RowB ox 512 cb BB) (m : Nat) (hm : m ≤ 512) : LyOk K N ((⟨blk, 0, BB.take m⟩ : Ly), Value.slice (some ⟨kx, 0, none⟩) m cb) := by
  have hl := hr.len
  have hlm : (BB.take m).length = m := by rw [List.length_take]; omega
  refine ⟨hb, by show 0 + (BB.take m).length ≤ 512; omega, .inr ⟨kx, ox, cb, ?_, hK, ?_⟩⟩
  · show Value.slice (some ⟨kx, 0, none⟩) m cb = .slice (some ⟨kx, 0, none⟩) (BB.take m).length cb
    rw [hlm]
  · show RowB ox (BB.take m).length cb (BB.take m)
    rw [hlm]; exact hr.cut m hm
section
variable {w0 w : World} {b g : Nat} {vp : Value} {Dp D : DS} {r : Nat} {T : List (Nat × Obj)}
/-- a box beside the device, among the rows behind it -/
theorem st_box (h : RfOk r D) (hS : St w0 w b g vp Dp (h.rows ++ T)) (o : Obj) : St w0 (w.alloc o) b g vp Dp ([(r, rfO D.n h.base h.vl h.vc D.armed h.left D.down D.rd D.wr D.fl)] ++ (h.Ql ++ (h.Qc ++ (h.K ++ ((w.heap.size, o) :: T))))) := by
  have h1 := hS.new ((Below.refl _ w).alloc (Nat.le_refl _) o) (Nat.le_refl _) (heap_alloc_new w o)
  refine h1.perm ?_
  have e1 : (h.rows ++ T) = ((r, rfO D.n h.base h.vl h.vc D.armed h.left D.down D.rd D.wr D.fl) :: (h.Ql ++ (h.Qc ++ h.K))) ++ T := rfl
  have e2 : ([(r, rfO D.n h.base h.vl h.vc D.armed h.left D.down D.rd D.wr D.fl)] ++ (h.Ql ++ (h.Qc ++ (h.K ++ ((w.heap.size, o) :: T))))) = ((r, rfO D.n h.base h.vl h.vc D.armed h.left D.down D.rd D.wr D.fl) :: (h.Ql ++ (h.Qc ++ h.K))) ++ ((w.heap.size, o) :: T) := by simp [List.append_assoc]
  rw [e1, e2]
  exact List.perm_middle.symm
theorem st_boxR {k : Nat} {o : Obj} (h : RfOk r D) (hS : St w0 w b g vp Dp ([(r, rfO D.n h.base h.vl h.vc D.armed h.left D.down D.rd D.wr D.fl)] ++ (h.Ql ++ (h.Qc ++ (h.K ++ ((k, o) :: T)))))) : w.heap[k]? = some o ∧ w.cell? ⟨r, 2, none⟩ = some h.vl :=
  ⟨hS.mem (by simp), cell_of_row w r 2 _ _ _ (hS.mem (show (r, rfO D.n h.base h.vl h.vc D.armed h.left D.down D.rd D.wr D.fl) ∈ _ by simp))⟩
theorem box3 {k : Nat} {u0 u1 u2 : Value} {t : TypeId} (h : w.heap[k]? = some (.cells #[u0, u1, u2] t (0, 0))) : w.cell? ⟨k, 0, none⟩ = some u0 ∧ w.cell? ⟨k, 1, none⟩ = some u1 ∧ w.cell? ⟨k, 2, none⟩ = some u2 :=
  ⟨cell_of_row w k 0 _ _ _ h, cell_of_row w k 1 _ _ _ h, cell_of_row w k 2 _ _ _ h⟩
theorem st_unbox {x : Nat × Obj} (h : RfOk r D) (hS : St w0 w b g vp Dp (h.rows ++ (x :: T))) : St w0 w b g vp Dp (h.rows ++ T) :=
  hS.sub (List.Sublist.append (List.Sublist.refl _) (List.sublist_cons_self _ _))
set_option maxHeartbeats 4000000 in
theorem rf_Crash (A : Option Addr) (n c : Nat) (F : List Ft) (h : RfOk r D) (hS : St w0 w b g vp Dp (h.rows ++ T)) (hr : ∀ W : World, Below w0.heap.size w0 W → (∀ p ∈ T, W.heap[p.1]? = some p.2) → RdF W A n c F) (hCn : h.C.length ≤ 100000000) (hLn : h.L.length ≤ 100000000) :
    Calls Try.prog 45 #[.pointer (some ⟨r, 0, none⟩), .slice A n c] w fun e w' => e = .returned (.int .i64 (crT F D.C.length : Nat)) ∧ ∃ h' : RfOk r (crD D F), h'.L.length ≤ h.L.length + h.C.length ∧ h'.C = [] ∧ St w0 w' b g vp Dp (h'.rows ++ T) := by
  obtain ⟨ily, hily, hzz⟩ := Option.map_eq_some_iff.1 info_ly
  simp only [Prod.mk.injEq] at hzz
  obtain ⟨sz0, sz1, sz2⟩ := hzz
  have HILY := Lib.hid (And.intro hily (And.intro sz0 (And.intro sz1 sz2)))
  clear hily sz0 sz1 sz2
  have HS := Lib.hid hS
  have HR := Lib.hid hr
  have hR0 := hr w hS.bl (fun p hp => hS.kp.all p (List.mem_append_right _ hp))
  have HFL := Lib.hid hR0.len
  have hmx := hR0.max
  have HDC := Lib.hid (show D.C.length = h.C.length by rw [h.hC, List.length_map])
  obtain ⟨q, hq⟩ : ∃ q, q = h.C.length := ⟨_, rfl⟩
  have HQ := Lib.hid hq
  have hqb : q ≤ 100000000 := by omega
  clear hS hr hR0 hq
  go_enter Try.func45, Try.ntmps45
  go_wp2_with fail
  go_loopw [5, 6, 7, 8] (fun vn x _ _ wx => ∃ i : Nat, ∃ Di, ∃ hi : RfOk r Di, Di = { D with M := layA (crN F) 0 (D.C.take i) D.M } ∧ i ≤ q ∧ i ≤ n ∧ x = .int .i64 i ∧ vn = .int .i64 (crT F i : Nat) ∧ hi.C = h.C ∧ hi.L.length ≤ h.L.length + i ∧ St w0 wx b g vp Dp (hi.rows ++ T)) (fun _ x _ _ _ => q - (intOf x).toNat)
  case atStart => exact ⟨0, D, h, rfl, by omega, by omega, rfl, rfl, rfl, by omega, HS.out⟩
  case round =>
    obtain ⟨i, Di, hi, hDi, hiq, hin, rfl, rfl, hiC, hiL, hSi⟩ := hrel
    have HSi := Lib.hid hSi
    have HIL := Lib.hid hiL
    have HDi := Lib.hid hDi
    have HIC := Lib.hid hiC
    have hcc := hi.cells hSi
    have c2 := hcc.2.2.1
    have c3 := hcc.2.2.2.1
    have hnl : hi.C.length = q := by rw [hiC]; exact HQ.out.symm
    have hct := crT_le F i
    by_cases hin2 : i < q ∧ i < n
    · obtain ⟨hi1, hi2⟩ := hin2
      have hii : (0 : Int) ≤ (i : Int) ∧ (i : Int) < (q : Int) ∧ (i : Int) < (n : Int) ∧ (q : Int) ≤ 100000000 := by omega
      obtain ⟨kc, cc, hvc, g0, g1, g2⟩ := ly_cells hSi hi.qc (by intro p hp; simp [RfOk.rows, hp]) i (by rw [hnl]; exact hi1)
      rw [hnl] at hvc
      rw [hvc] at c3
      obtain ⟨p, hp⟩ : ∃ p, p = hi.C.getD i default := ⟨_, rfl⟩
      rw [← hp] at g0 g1 g2
      have hpm : p ∈ hi.C := by rw [hp]; exact getD_mem hi.C i default (by rw [hnl]; exact hi1)
      have hco := hi.co p hpm
      have hlp : D.C.getD i default = lyPd p.1 := by
        have hd : D.C = h.C.map fun p => lyPd p.1 := h.hC
        rw [hd, hp, hiC, List.getD_eq_getElem?_getD, List.getD_eq_getElem?_getD, List.getElem?_map, List.getElem?_eq_getElem (by rw [← HQ.out]; exact hi1)]; rfl
      have HLP := Lib.hid hlp
      obtain ⟨⟨blk, at_, BB⟩, sv⟩ := p
      obtain ⟨hco1, rfl, hBB⟩ : LyOk hi.K Di.n (⟨blk, at_, BB⟩, sv) ∧ at_ = 0 ∧ BB.length = 512 := hco
      rcases hco1.row with ⟨h1, h2⟩ | ⟨kx, ox, cb, h1, hmK, hrx⟩
      · have h2' : BB = [] := h2
        rw [h2'] at hBB; cases hBB
      have h1' : sv = .slice (some ⟨kx, 0, none⟩) BB.length cb := h1
      subst h1'
      rw [hBB] at g2
      have hrx2 : RowB ox 512 cb BB := by have h9 : RowB ox BB.length cb BB := hrx; rwa [hBB] at h9
      have hcbb := hrx2.cap
      obtain ⟨bf, of, rfl, hcf⟩ := (HR.out wr hSi.bl (fun p hp => hSi.kp.all p (List.mem_append_right _ hp))).at_ (by omega)
      obtain ⟨f1, f2⟩ := hcf i hi2
      obtain ⟨kd, hkd⟩ : ∃ kd, kd = (F.getD i default).kind := ⟨_, rfl⟩
      obtain ⟨fa, hfa⟩ : ∃ fa, fa = (F.getD i default).at_ := ⟨_, rfl⟩
      rw [← hkd] at f1
      rw [← hfa] at f2
      have hFD : F.getD i default = ⟨kd, fa⟩ := by rw [hkd, hfa]
      have HKN := Lib.hid (show crN F i = ftN ⟨kd, fa⟩ by unfold crN; rw [if_pos (by rw [HFL.out]; exact hi2), hFD])
      have HKS := Lib.hid (show crS F i = ftS ⟨kd, fa⟩ by unfold crS; rw [if_pos (by rw [HFL.out]; exact hi2), hFD])
      have HBL := Lib.hid (show blk < Di.n from hco1.blk)
      have HLY := Lib.hid (show ∀ m, crN F i = m → ({ Di with M := splice Di.M (blk * 512 + 0) (BB.take m) } : DS) = { D with M := layA (crN F) 0 (D.C.take (i + 1)) D.M } from fun m hm => by
        rw [take_snoc D.C i default (by rw [HDC.out, ← HQ.out]; exact hi1), layA_snoc, hlp, List.length_take, HDC.out, ← HQ.out, Nat.min_eq_left (by omega), Nat.zero_add, hm, hDi]; rfl)
      have HLY0 := Lib.hid (show crN F i = 0 → Di = { D with M := layA (crN F) 0 (D.C.take (i + 1)) D.M } from fun hm => by
        have hml := hi.mlen
        have hbl := blk_end HBL.out
        rw [← HLY.out 0 hm]
        have e9 : splice Di.M (blk * 512 + 0) (BB.take 0) = Di.M := layP_none Di.M ⟨blk, BB⟩ (by show blk * 512 ≤ _; omega)
        rw [e9])
      have HB1 := Lib.hid ((Below.refl _ wr).alloc (Nat.le_refl _) (.cells #[.int .i64 (blk : Int), .int .i64 0, .slice (some ⟨kx, 0, none⟩) 512 cb] 96))
      have f1' := cell_ext HB1.out f1
      have f2' := cell_ext HB1.out f2
      dsimp only at g0 g1
      clear hSi hcc hDi hiC hp hlp hkd hfa hcf hco1 hrx h1 hvc
      by_cases k1 : kd = 1
      · subst k1
        have HC1 := Lib.hid (show crN F i = 512 by rw [HKN.out]; rfl)
        have HC2 := Lib.hid (show crS F i = true by rw [HKS.out]; rfl)
        have HSB := Lib.hid (st_box hi HSi.out (.cells #[.int .i64 (blk : Int), .int .i64 0, .slice (some ⟨kx, 0, none⟩) 512 cb] 96))
        obtain ⟨hBX, hT⟩ := st_boxR hi (HSB.out.drewN 1)
        have hRR := box3 hBX
        go_upto_region 17 with fail
        clear c2 c3 g0 g1 g2 f1 f2 f1' f2' hBX
        refine wp_region_z (fun w' : World => w'.cell? ⟨wr.heap.size, 0, none⟩ = some (.int .i64 (blk : Int)) ∧ w'.cell? ⟨wr.heap.size, 1, none⟩ = some (.int .i64 0) ∧ w'.cell? ⟨wr.heap.size, 2, none⟩ = some (.slice (some ⟨kx, 0, none⟩) 512 cb)) (fun w' => w'.cell? ⟨r, 2, none⟩ = some hi.vl) 7 (by kernel_rfl) ?_
        refine wpAnyZ.takeN (i := 0) (v := .pointer (some ⟨r, 0, none⟩)) rfl (by kernel_rfl) (by kernel_rfl) (by kernel_rfl) (by decide) (fun _ _ _ h => h) (by rfl) (fun w => ?zy) hRR (fun _ => hT) ?_
        case zy => go_simp
        (try simp only [Act.put, List.getElem_toArray, List.getElem_cons_zero, List.getElem_cons_succ, List.setIfInBounds_toArray, List.set_cons_zero, List.set_cons_succ])
        refine wpAnyZ.takeN (i := 1) (v := .pointer (some ⟨r, 0, none⟩)) rfl (by kernel_rfl) (by kernel_rfl) (by kernel_rfl) (by decide) (fun _ _ _ h => h) (by rfl) (fun w => ?zy) hRR (fun _ => hT) ?_
        case zy => go_simp
        (try simp only [Act.put, List.getElem_toArray, List.getElem_cons_zero, List.getElem_cons_succ, List.setIfInBounds_toArray, List.set_cons_zero, List.set_cons_succ])
        refine wpAnyZ.takeN (i := 2) (v := .pointer (some ⟨r, 0, none⟩)) rfl (by kernel_rfl) (by kernel_rfl) (by kernel_rfl) (by decide) (fun _ _ _ h => h) (by rfl) (fun w => ?zy) hRR (fun _ => hT) ?_
        case zy => go_simp
        (try simp only [Act.put, List.getElem_toArray, List.getElem_cons_zero, List.getElem_cons_succ, List.setIfInBounds_toArray, List.set_cons_zero, List.set_cons_succ])
        refine wpAnyZ.takeN (i := 3) (v := .pointer (some ⟨r, 2, none⟩)) rfl (by kernel_rfl) (by kernel_rfl) (by kernel_rfl) (by decide) (fun _ _ _ h => h) (by rfl) (fun w => ?zy) hRR (fun _ => hT) ?_
        case zy => go_simp
        (try simp only [Act.put, List.getElem_toArray, List.getElem_cons_zero, List.getElem_cons_succ, List.setIfInBounds_toArray, List.set_cons_zero, List.set_cons_succ])
        refine wpAnyZ.take (i := 4) (v := hi.vl) (U := fun w' => w'.cell? ⟨r, 2, none⟩ = some hi.vl) rfl (by kernel_rfl) (by kernel_rfl) (by kernel_rfl) (by decide) (fun _ _ _ h => h) (.inr ⟨fun _ h => h, by kernel_rfl⟩) (.inl (by kernel_rfl)) (.inl ⟨by rfl, fun w hw => ?zy⟩) hT hRR (fun _ => hT) ?_
        case zy => (dsimp only at hw; go_simp)
        (try simp only [Act.put, List.getElem_toArray, List.getElem_cons_zero, List.getElem_cons_succ, List.setIfInBounds_toArray, List.set_cons_zero, List.set_cons_succ])
        refine wpAnyZ.take (i := 5) (v := .agg #[.int .i64 (blk : Int), .int .i64 0, .slice (some ⟨kx, 0, none⟩) 512 cb]) (U := (fun w' : World => w'.cell? ⟨wr.heap.size, 0, none⟩ = some (.int .i64 (blk : Int)) ∧ w'.cell? ⟨wr.heap.size, 1, none⟩ = some (.int .i64 0) ∧ w'.cell? ⟨wr.heap.size, 2, none⟩ = some (.slice (some ⟨kx, 0, none⟩) 512 cb))) rfl (by kernel_rfl) (by kernel_rfl) (by kernel_rfl) (by decide) (fun _ _ _ h => h) (.inl fun _ h => h) (.inr fun _ h => h) (.inl ⟨by rfl, fun w hw => ?zy⟩) hRR hRR (fun _ => hT) ?_
        case zy => (dsimp only at hw; obtain ⟨u0, u1, u2⟩ := hw; go_simp)
        (try simp only [Act.put, List.getElem_toArray, List.getElem_cons_zero, List.getElem_cons_succ, List.setIfInBounds_toArray, List.set_cons_zero, List.set_cons_succ])
        refine wpAnyZ.oneK (i := 6) (E := False) (by kernel_rfl) rfl (by rfl) (fun K hK => ?_)
        go_simp
        have HS5 := Lib.hid ((HSB.out.drewN 1).alloc (.cells #[.int .i64 (blk : Int), .int .i64 0, .slice (some ⟨kx, 0, none⟩) 512 cb] 96))
        obtain ⟨hBX5, hT5⟩ := st_boxR hi HS5.out
        have hR5 := box3 hBX5
        refine hK.out _ _ ⟨⟨hR5, fun _ => hT5⟩, ?_⟩
        clear hK hBX5
        (try simp only [Act.put, List.getElem_toArray, List.getElem_cons_zero, List.getElem_cons_succ, List.setIfInBounds_toArray, List.set_cons_zero, List.set_cons_succ])
        refine wpAnyZ.oneK (i := 7) (E := False) (by kernel_rfl) rfl (by rfl) (fun K hK => ?_)
        refine step_appQ Try.underlying91 HILY.out.1 HILY.out.2.1 HILY.out.2.2.1 HILY.out.2.2.2 rfl (by omega) (P := [(r, rfO Di.n hi.base hi.vl hi.vc Di.armed hi.left Di.down Di.rd Di.wr Di.fl)]) (Q := hi.Ql) (T := hi.Qc ++ (hi.K ++ ((wr.heap.size, (.cells #[.int .i64 (blk : Int), .int .i64 0, .slice (some ⟨kx, 0, none⟩) 512 cb] 96)) :: T))) HS5.out hi.ql [.int .i64 (blk : Int), .int .i64 0, .slice (some ⟨kx, 0, none⟩) 512 cb] rfl (by intro u hu; simp at hu; rcases hu with rfl | rfl | rfl <;> rfl) (by have := HIL.out; omega) (by have := HIL.out; simp only [maxLen]; omega) (wr.heap.size + 1) (heap_alloc2 wr (.cells #[.int .i64 (blk : Int), .int .i64 0, .slice (some ⟨kx, 0, none⟩) 512 cb] 96) (.cells #[.int .i64 (blk : Int), .int .i64 0, .slice (some ⟨kx, 0, none⟩) 512 cb] 96)) _ _ rfl rfl rfl rfl ?_
        intro v1 w6 Q1 hq1 hS6
        obtain ⟨A1, c1, rfl⟩ := hq1.slice
        have hh6 : w6.heap[r]? = some (rfO Di.n hi.base hi.vl hi.vc Di.armed hi.left Di.down Di.rd Di.wr Di.fl) := hS6.mem (by simp)
        have hcell6 : w6.cell? ⟨r, 2, none⟩ = some hi.vl := cell_of_row w6 r 2 _ _ _ hh6
        have hfree6 := frozen_of_row w6 r 2 _ _ hh6
        have hR6 := box3 (show w6.heap[wr.heap.size]? = some (.cells #[.int .i64 (blk : Int), .int .i64 0, .slice (some ⟨kx, 0, none⟩) 512 cb] 96) from hS6.mem (by simp))
        have HPU := Lib.hid (hi.pushL ((⟨blk, 0, BB.take 512⟩ : Ly), .slice (some ⟨kx, 0, none⟩) 512 cb) (ly_cut HBL.out hmK hrx2 512 (by omega)) hq1 hS6)
        have hR7 : (w6.setCell ⟨r, 2, none⟩ (.slice A1 (hi.L.length + 1) c1)).cell? ⟨wr.heap.size, 0, none⟩ = some (.int .i64 (blk : Int)) ∧ (w6.setCell ⟨r, 2, none⟩ (.slice A1 (hi.L.length + 1) c1)).cell? ⟨wr.heap.size, 1, none⟩ = some (.int .i64 0) ∧ (w6.setCell ⟨r, 2, none⟩ (.slice A1 (hi.L.length + 1) c1)).cell? ⟨wr.heap.size, 2, none⟩ = some (.slice (some ⟨kx, 0, none⟩) 512 cb) := by
          obtain ⟨h9, -, -, hS9⟩ := HPU.out
          exact box3 (show (w6.setCell ⟨r, 2, none⟩ (.slice A1 (hi.L.length + 1) c1)).heap[wr.heap.size]? = some (.cells #[.int .i64 (blk : Int), .int .i64 0, .slice (some ⟨kx, 0, none⟩) 512 cb] 96) from hS9.mem (by simp))
        refine hK.out _ _ ⟨⟨hR6, (fun h => (have h9 : (true : Bool) = false := h; by cases h9))⟩, ?_⟩
        clear hK hT hT5 hR5 hRR hq1 hS6 hh6
        (try simp only [Act.put, List.getElem_toArray, List.getElem_cons_zero, List.getElem_cons_succ, List.setIfInBounds_toArray, List.set_cons_zero, List.set_cons_succ])
        refine wpAnyZ.takeN (i := 8) (v := .pointer (some ⟨r, 0, none⟩)) rfl (by kernel_rfl) (by kernel_rfl) (by kernel_rfl) (by decide) (fun _ _ _ h => h) (by rfl) (fun w => ?zy) hR6 (fun h => (have h9 : (true : Bool) = false := h; by cases h9)) ?_
        case zy => go_simp
        (try simp only [Act.put, List.getElem_toArray, List.getElem_cons_zero, List.getElem_cons_succ, List.setIfInBounds_toArray, List.set_cons_zero, List.set_cons_succ])
        refine wpAnyZ.takeN (i := 9) (v := .pointer (some ⟨r, 2, none⟩)) rfl (by kernel_rfl) (by kernel_rfl) (by kernel_rfl) (by decide) (fun _ _ _ h => h) (by rfl) (fun w => ?zy) hR6 (fun h => (have h9 : (true : Bool) = false := h; by cases h9)) ?_
        case zy => go_simp
        (try simp only [Act.put, List.getElem_toArray, List.getElem_cons_zero, List.getElem_cons_succ, List.setIfInBounds_toArray, List.set_cons_zero, List.set_cons_succ])
        refine wpAnyZ.oneK (i := 10) (E := False) (by kernel_rfl) rfl (by rfl) (fun K hK => ?_)
        go_simp
        refine hK.out _ _ ⟨⟨hR7, (fun h => (have h9 : (true : Bool) = false := h; by cases h9))⟩, ?_⟩
        clear hK hcell6 hfree6 hR6 hR7
        refine wpAnyZ.done (by kernel_rfl) ?_ _
        go_wp2
        go_roundw
        case rel =>
          obtain ⟨hn9, hnL, hnC, hnS⟩ := HPU.out
          exact ⟨i + 1, _, hn9, HLY.out 512 HC1.out, by omega, by omega, by go_num, by rw [crT, HC2.out]; go_num, by rw [hnC, HIC.out], by rw [hnL, List.length_append]; simp; have := HIL.out; omega, st_unbox hn9 hnS⟩
        case measure => simp [intOf]; omega
      · have k1f : ¬ (1 : Int) = kd := fun h => k1 h.symm
        by_cases k2 : kd = 2
        · subst k2
          have HC2 := Lib.hid (show crS F i = true by rw [HKS.out]; rfl)
          by_cases a0 : fa < 0
          · have HC1 := Lib.hid (show crN F i = 0 by rw [HKN.out]; show (min (max fa 0) 512).toNat = 0; omega)
            have HSB := Lib.hid (st_box hi HSi.out (.cells #[.int .i64 (blk : Int), .int .i64 0, .slice (some ⟨kx, 0, none⟩) 0 cb] 96))
            obtain ⟨hBX, hT⟩ := st_boxR hi (HSB.out.drewN 1)
            have hRR := box3 hBX
            go_upto_region 17 with fail
            clear c2 c3 g0 g1 g2 f1 f2 f1' f2' hBX
            refine wp_region_z (fun w' : World => w'.cell? ⟨wr.heap.size, 0, none⟩ = some (.int .i64 (blk : Int)) ∧ w'.cell? ⟨wr.heap.size, 1, none⟩ = some (.int .i64 0) ∧ w'.cell? ⟨wr.heap.size, 2, none⟩ = some (.slice (some ⟨kx, 0, none⟩) 0 cb)) (fun w' => w'.cell? ⟨r, 2, none⟩ = some hi.vl) 7 (by kernel_rfl) ?_
            refine wpAnyZ.takeN (i := 0) (v := .pointer (some ⟨r, 0, none⟩)) rfl (by kernel_rfl) (by kernel_rfl) (by kernel_rfl) (by decide) (fun _ _ _ h => h) (by rfl) (fun w => ?zy) hRR (fun _ => hT) ?_
            case zy => go_simp
            (try simp only [Act.put, List.getElem_toArray, List.getElem_cons_zero, List.getElem_cons_succ, List.setIfInBounds_toArray, List.set_cons_zero, List.set_cons_succ])
            refine wpAnyZ.takeN (i := 1) (v := .pointer (some ⟨r, 0, none⟩)) rfl (by kernel_rfl) (by kernel_rfl) (by kernel_rfl) (by decide) (fun _ _ _ h => h) (by rfl) (fun w => ?zy) hRR (fun _ => hT) ?_
            case zy => go_simp
            (try simp only [Act.put, List.getElem_toArray, List.getElem_cons_zero, List.getElem_cons_succ, List.setIfInBounds_toArray, List.set_cons_zero, List.set_cons_succ])
            refine wpAnyZ.takeN (i := 2) (v := .pointer (some ⟨r, 0, none⟩)) rfl (by kernel_rfl) (by kernel_rfl) (by kernel_rfl) (by decide) (fun _ _ _ h => h) (by rfl) (fun w => ?zy) hRR (fun _ => hT) ?_
            case zy => go_simp
            (try simp only [Act.put, List.getElem_toArray, List.getElem_cons_zero, List.getElem_cons_succ, List.setIfInBounds_toArray, List.set_cons_zero, List.set_cons_succ])
            refine wpAnyZ.takeN (i := 3) (v := .pointer (some ⟨r, 2, none⟩)) rfl (by kernel_rfl) (by kernel_rfl) (by kernel_rfl) (by decide) (fun _ _ _ h => h) (by rfl) (fun w => ?zy) hRR (fun _ => hT) ?_
            case zy => go_simp
            (try simp only [Act.put, List.getElem_toArray, List.getElem_cons_zero, List.getElem_cons_succ, List.setIfInBounds_toArray, List.set_cons_zero, List.set_cons_succ])
            refine wpAnyZ.take (i := 4) (v := hi.vl) (U := fun w' => w'.cell? ⟨r, 2, none⟩ = some hi.vl) rfl (by kernel_rfl) (by kernel_rfl) (by kernel_rfl) (by decide) (fun _ _ _ h => h) (.inr ⟨fun _ h => h, by kernel_rfl⟩) (.inl (by kernel_rfl)) (.inl ⟨by rfl, fun w hw => ?zy⟩) hT hRR (fun _ => hT) ?_
            case zy => (dsimp only at hw; go_simp)
            (try simp only [Act.put, List.getElem_toArray, List.getElem_cons_zero, List.getElem_cons_succ, List.setIfInBounds_toArray, List.set_cons_zero, List.set_cons_succ])
            refine wpAnyZ.take (i := 5) (v := .agg #[.int .i64 (blk : Int), .int .i64 0, .slice (some ⟨kx, 0, none⟩) 0 cb]) (U := (fun w' : World => w'.cell? ⟨wr.heap.size, 0, none⟩ = some (.int .i64 (blk : Int)) ∧ w'.cell? ⟨wr.heap.size, 1, none⟩ = some (.int .i64 0) ∧ w'.cell? ⟨wr.heap.size, 2, none⟩ = some (.slice (some ⟨kx, 0, none⟩) 0 cb))) rfl (by kernel_rfl) (by kernel_rfl) (by kernel_rfl) (by decide) (fun _ _ _ h => h) (.inl fun _ h => h) (.inr fun _ h => h) (.inl ⟨by rfl, fun w hw => ?zy⟩) hRR hRR (fun _ => hT) ?_
            case zy => (dsimp only at hw; obtain ⟨u0, u1, u2⟩ := hw; go_simp)
            (try simp only [Act.put, List.getElem_toArray, List.getElem_cons_zero, List.getElem_cons_succ, List.setIfInBounds_toArray, List.set_cons_zero, List.set_cons_succ])
            refine wpAnyZ.oneK (i := 6) (E := False) (by kernel_rfl) rfl (by rfl) (fun K hK => ?_)
            go_simp
            have HS5 := Lib.hid ((HSB.out.drewN 1).alloc (.cells #[.int .i64 (blk : Int), .int .i64 0, .slice (some ⟨kx, 0, none⟩) 0 cb] 96))
            obtain ⟨hBX5, hT5⟩ := st_boxR hi HS5.out
            have hR5 := box3 hBX5
            refine hK.out _ _ ⟨⟨hR5, fun _ => hT5⟩, ?_⟩
            clear hK hBX5
            (try simp only [Act.put, List.getElem_toArray, List.getElem_cons_zero, List.getElem_cons_succ, List.setIfInBounds_toArray, List.set_cons_zero, List.set_cons_succ])
            refine wpAnyZ.oneK (i := 7) (E := False) (by kernel_rfl) rfl (by rfl) (fun K hK => ?_)
            refine step_appQ Try.underlying91 HILY.out.1 HILY.out.2.1 HILY.out.2.2.1 HILY.out.2.2.2 rfl (by omega) (P := [(r, rfO Di.n hi.base hi.vl hi.vc Di.armed hi.left Di.down Di.rd Di.wr Di.fl)]) (Q := hi.Ql) (T := hi.Qc ++ (hi.K ++ ((wr.heap.size, (.cells #[.int .i64 (blk : Int), .int .i64 0, .slice (some ⟨kx, 0, none⟩) 0 cb] 96)) :: T))) HS5.out hi.ql [.int .i64 (blk : Int), .int .i64 0, .slice (some ⟨kx, 0, none⟩) 0 cb] rfl (by intro u hu; simp at hu; rcases hu with rfl | rfl | rfl <;> rfl) (by have := HIL.out; omega) (by have := HIL.out; simp only [maxLen]; omega) (wr.heap.size + 1) (heap_alloc2 wr (.cells #[.int .i64 (blk : Int), .int .i64 0, .slice (some ⟨kx, 0, none⟩) 0 cb] 96) (.cells #[.int .i64 (blk : Int), .int .i64 0, .slice (some ⟨kx, 0, none⟩) 0 cb] 96)) _ _ rfl rfl rfl rfl ?_
            intro v1 w6 Q1 hq1 hS6
            obtain ⟨A1, c1, rfl⟩ := hq1.slice
            have hh6 : w6.heap[r]? = some (rfO Di.n hi.base hi.vl hi.vc Di.armed hi.left Di.down Di.rd Di.wr Di.fl) := hS6.mem (by simp)
            have hcell6 : w6.cell? ⟨r, 2, none⟩ = some hi.vl := cell_of_row w6 r 2 _ _ _ hh6
            have hfree6 := frozen_of_row w6 r 2 _ _ hh6
            have hR6 := box3 (show w6.heap[wr.heap.size]? = some (.cells #[.int .i64 (blk : Int), .int .i64 0, .slice (some ⟨kx, 0, none⟩) 0 cb] 96) from hS6.mem (by simp))
            have HPU := Lib.hid (hi.pushL ((⟨blk, 0, BB.take 0⟩ : Ly), .slice (some ⟨kx, 0, none⟩) 0 cb) (ly_cut HBL.out hmK hrx2 0 (by omega)) hq1 hS6)
            have hR7 : (w6.setCell ⟨r, 2, none⟩ (.slice A1 (hi.L.length + 1) c1)).cell? ⟨wr.heap.size, 0, none⟩ = some (.int .i64 (blk : Int)) ∧ (w6.setCell ⟨r, 2, none⟩ (.slice A1 (hi.L.length + 1) c1)).cell? ⟨wr.heap.size, 1, none⟩ = some (.int .i64 0) ∧ (w6.setCell ⟨r, 2, none⟩ (.slice A1 (hi.L.length + 1) c1)).cell? ⟨wr.heap.size, 2, none⟩ = some (.slice (some ⟨kx, 0, none⟩) 0 cb) := by
              obtain ⟨h9, -, -, hS9⟩ := HPU.out
              exact box3 (show (w6.setCell ⟨r, 2, none⟩ (.slice A1 (hi.L.length + 1) c1)).heap[wr.heap.size]? = some (.cells #[.int .i64 (blk : Int), .int .i64 0, .slice (some ⟨kx, 0, none⟩) 0 cb] 96) from hS9.mem (by simp))
            refine hK.out _ _ ⟨⟨hR6, (fun h => (have h9 : (true : Bool) = false := h; by cases h9))⟩, ?_⟩
            clear hK hT hT5 hR5 hRR hq1 hS6 hh6
            (try simp only [Act.put, List.getElem_toArray, List.getElem_cons_zero, List.getElem_cons_succ, List.setIfInBounds_toArray, List.set_cons_zero, List.set_cons_succ])
            refine wpAnyZ.takeN (i := 8) (v := .pointer (some ⟨r, 0, none⟩)) rfl (by kernel_rfl) (by kernel_rfl) (by kernel_rfl) (by decide) (fun _ _ _ h => h) (by rfl) (fun w => ?zy) hR6 (fun h => (have h9 : (true : Bool) = false := h; by cases h9)) ?_
            case zy => go_simp
            (try simp only [Act.put, List.getElem_toArray, List.getElem_cons_zero, List.getElem_cons_succ, List.setIfInBounds_toArray, List.set_cons_zero, List.set_cons_succ])
            refine wpAnyZ.takeN (i := 9) (v := .pointer (some ⟨r, 2, none⟩)) rfl (by kernel_rfl) (by kernel_rfl) (by kernel_rfl) (by decide) (fun _ _ _ h => h) (by rfl) (fun w => ?zy) hR6 (fun h => (have h9 : (true : Bool) = false := h; by cases h9)) ?_
            case zy => go_simp
            (try simp only [Act.put, List.getElem_toArray, List.getElem_cons_zero, List.getElem_cons_succ, List.setIfInBounds_toArray, List.set_cons_zero, List.set_cons_succ])
            refine wpAnyZ.oneK (i := 10) (E := False) (by kernel_rfl) rfl (by rfl) (fun K hK => ?_)
            go_simp
            refine hK.out _ _ ⟨⟨hR7, (fun h => (have h9 : (true : Bool) = false := h; by cases h9))⟩, ?_⟩
            clear hK hcell6 hfree6 hR6 hR7
            refine wpAnyZ.done (by kernel_rfl) ?_ _
            go_wp2
            go_roundw
            case rel =>
              obtain ⟨hn9, hnL, hnC, hnS⟩ := HPU.out
              exact ⟨i + 1, _, hn9, HLY.out 0 HC1.out, by omega, by omega, by go_num, by rw [crT, HC2.out]; go_num, by rw [hnC, HIC.out], by rw [hnL, List.length_append]; simp; have := HIL.out; omega, st_unbox hn9 hnS⟩
            case measure => simp [intOf]; omega
          · by_cases a5 : 512 < fa
            · have HC1 := Lib.hid (show crN F i = 512 by rw [HKN.out]; show (min (max fa 0) 512).toNat = 512; omega)
              have HSB := Lib.hid (st_box hi HSi.out (.cells #[.int .i64 (blk : Int), .int .i64 0, .slice (some ⟨kx, 0, none⟩) 512 cb] 96))
              obtain ⟨hBX, hT⟩ := st_boxR hi (HSB.out.drewN 1)
              have hRR := box3 hBX
              go_upto_region 17 with fail
              clear c2 c3 g0 g1 g2 f1 f2 f1' f2' hBX
              refine wp_region_z (fun w' : World => w'.cell? ⟨wr.heap.size, 0, none⟩ = some (.int .i64 (blk : Int)) ∧ w'.cell? ⟨wr.heap.size, 1, none⟩ = some (.int .i64 0) ∧ w'.cell? ⟨wr.heap.size, 2, none⟩ = some (.slice (some ⟨kx, 0, none⟩) 512 cb)) (fun w' => w'.cell? ⟨r, 2, none⟩ = some hi.vl) 7 (by kernel_rfl) ?_
              refine wpAnyZ.takeN (i := 0) (v := .pointer (some ⟨r, 0, none⟩)) rfl (by kernel_rfl) (by kernel_rfl) (by kernel_rfl) (by decide) (fun _ _ _ h => h) (by rfl) (fun w => ?zy) hRR (fun _ => hT) ?_
              case zy => go_simp
              (try simp only [Act.put, List.getElem_toArray, List.getElem_cons_zero, List.getElem_cons_succ, List.setIfInBounds_toArray, List.set_cons_zero, List.set_cons_succ])
              refine wpAnyZ.takeN (i := 1) (v := .pointer (some ⟨r, 0, none⟩)) rfl (by kernel_rfl) (by kernel_rfl) (by kernel_rfl) (by decide) (fun _ _ _ h => h) (by rfl) (fun w => ?zy) hRR (fun _ => hT) ?_
              case zy => go_simp
              (try simp only [Act.put, List.getElem_toArray, List.getElem_cons_zero, List.getElem_cons_succ, List.setIfInBounds_toArray, List.set_cons_zero, List.set_cons_succ])
              refine wpAnyZ.takeN (i := 2) (v := .pointer (some ⟨r, 0, none⟩)) rfl (by kernel_rfl) (by kernel_rfl) (by kernel_rfl) (by decide) (fun _ _ _ h => h) (by rfl) (fun w => ?zy) hRR (fun _ => hT) ?_
              case zy => go_simp
              (try simp only [Act.put, List.getElem_toArray, List.getElem_cons_zero, List.getElem_cons_succ, List.setIfInBounds_toArray, List.set_cons_zero, List.set_cons_succ])
              refine wpAnyZ.takeN (i := 3) (v := .pointer (some ⟨r, 2, none⟩)) rfl (by kernel_rfl) (by kernel_rfl) (by kernel_rfl) (by decide) (fun _ _ _ h => h) (by rfl) (fun w => ?zy) hRR (fun _ => hT) ?_
              case zy => go_simp
              (try simp only [Act.put, List.getElem_toArray, List.getElem_cons_zero, List.getElem_cons_succ, List.setIfInBounds_toArray, List.set_cons_zero, List.set_cons_succ])
              refine wpAnyZ.take (i := 4) (v := hi.vl) (U := fun w' => w'.cell? ⟨r, 2, none⟩ = some hi.vl) rfl (by kernel_rfl) (by kernel_rfl) (by kernel_rfl) (by decide) (fun _ _ _ h => h) (.inr ⟨fun _ h => h, by kernel_rfl⟩) (.inl (by kernel_rfl)) (.inl ⟨by rfl, fun w hw => ?zy⟩) hT hRR (fun _ => hT) ?_
              case zy => (dsimp only at hw; go_simp)
              (try simp only [Act.put, List.getElem_toArray, List.getElem_cons_zero, List.getElem_cons_succ, List.setIfInBounds_toArray, List.set_cons_zero, List.set_cons_succ])
              refine wpAnyZ.take (i := 5) (v := .agg #[.int .i64 (blk : Int), .int .i64 0, .slice (some ⟨kx, 0, none⟩) 512 cb]) (U := (fun w' : World => w'.cell? ⟨wr.heap.size, 0, none⟩ = some (.int .i64 (blk : Int)) ∧ w'.cell? ⟨wr.heap.size, 1, none⟩ = some (.int .i64 0) ∧ w'.cell? ⟨wr.heap.size, 2, none⟩ = some (.slice (some ⟨kx, 0, none⟩) 512 cb))) rfl (by kernel_rfl) (by kernel_rfl) (by kernel_rfl) (by decide) (fun _ _ _ h => h) (.inl fun _ h => h) (.inr fun _ h => h) (.inl ⟨by rfl, fun w hw => ?zy⟩) hRR hRR (fun _ => hT) ?_
              case zy => (dsimp only at hw; obtain ⟨u0, u1, u2⟩ := hw; go_simp)
              (try simp only [Act.put, List.getElem_toArray, List.getElem_cons_zero, List.getElem_cons_succ, List.setIfInBounds_toArray, List.set_cons_zero, List.set_cons_succ])
              refine wpAnyZ.oneK (i := 6) (E := False) (by kernel_rfl) rfl (by rfl) (fun K hK => ?_)
              go_simp
              have HS5 := Lib.hid ((HSB.out.drewN 1).alloc (.cells #[.int .i64 (blk : Int), .int .i64 0, .slice (some ⟨kx, 0, none⟩) 512 cb] 96))
              obtain ⟨hBX5, hT5⟩ := st_boxR hi HS5.out
              have hR5 := box3 hBX5
              refine hK.out _ _ ⟨⟨hR5, fun _ => hT5⟩, ?_⟩
              clear hK hBX5
              (try simp only [Act.put, List.getElem_toArray, List.getElem_cons_zero, List.getElem_cons_succ, List.setIfInBounds_toArray, List.set_cons_zero, List.set_cons_succ])
              refine wpAnyZ.oneK (i := 7) (E := False) (by kernel_rfl) rfl (by rfl) (fun K hK => ?_)
              refine step_appQ Try.underlying91 HILY.out.1 HILY.out.2.1 HILY.out.2.2.1 HILY.out.2.2.2 rfl (by omega) (P := [(r, rfO Di.n hi.base hi.vl hi.vc Di.armed hi.left Di.down Di.rd Di.wr Di.fl)]) (Q := hi.Ql) (T := hi.Qc ++ (hi.K ++ ((wr.heap.size, (.cells #[.int .i64 (blk : Int), .int .i64 0, .slice (some ⟨kx, 0, none⟩) 512 cb] 96)) :: T))) HS5.out hi.ql [.int .i64 (blk : Int), .int .i64 0, .slice (some ⟨kx, 0, none⟩) 512 cb] rfl (by intro u hu; simp at hu; rcases hu with rfl | rfl | rfl <;> rfl) (by have := HIL.out; omega) (by have := HIL.out; simp only [maxLen]; omega) (wr.heap.size + 1) (heap_alloc2 wr (.cells #[.int .i64 (blk : Int), .int .i64 0, .slice (some ⟨kx, 0, none⟩) 512 cb] 96) (.cells #[.int .i64 (blk : Int), .int .i64 0, .slice (some ⟨kx, 0, none⟩) 512 cb] 96)) _ _ rfl rfl rfl rfl ?_
              intro v1 w6 Q1 hq1 hS6
              obtain ⟨A1, c1, rfl⟩ := hq1.slice
              have hh6 : w6.heap[r]? = some (rfO Di.n hi.base hi.vl hi.vc Di.armed hi.left Di.down Di.rd Di.wr Di.fl) := hS6.mem (by simp)
              have hcell6 : w6.cell? ⟨r, 2, none⟩ = some hi.vl := cell_of_row w6 r 2 _ _ _ hh6
              have hfree6 := frozen_of_row w6 r 2 _ _ hh6
              have hR6 := box3 (show w6.heap[wr.heap.size]? = some (.cells #[.int .i64 (blk : Int), .int .i64 0, .slice (some ⟨kx, 0, none⟩) 512 cb] 96) from hS6.mem (by simp))
              have HPU := Lib.hid (hi.pushL ((⟨blk, 0, BB.take 512⟩ : Ly), .slice (some ⟨kx, 0, none⟩) 512 cb) (ly_cut HBL.out hmK hrx2 512 (by omega)) hq1 hS6)
              have hR7 : (w6.setCell ⟨r, 2, none⟩ (.slice A1 (hi.L.length + 1) c1)).cell? ⟨wr.heap.size, 0, none⟩ = some (.int .i64 (blk : Int)) ∧ (w6.setCell ⟨r, 2, none⟩ (.slice A1 (hi.L.length + 1) c1)).cell? ⟨wr.heap.size, 1, none⟩ = some (.int .i64 0) ∧ (w6.setCell ⟨r, 2, none⟩ (.slice A1 (hi.L.length + 1) c1)).cell? ⟨wr.heap.size, 2, none⟩ = some (.slice (some ⟨kx, 0, none⟩) 512 cb) := by
                obtain ⟨h9, -, -, hS9⟩ := HPU.out
                exact box3 (show (w6.setCell ⟨r, 2, none⟩ (.slice A1 (hi.L.length + 1) c1)).heap[wr.heap.size]? = some (.cells #[.int .i64 (blk : Int), .int .i64 0, .slice (some ⟨kx, 0, none⟩) 512 cb] 96) from hS9.mem (by simp))
              refine hK.out _ _ ⟨⟨hR6, (fun h => (have h9 : (true : Bool) = false := h; by cases h9))⟩, ?_⟩
              clear hK hT hT5 hR5 hRR hq1 hS6 hh6
              (try simp only [Act.put, List.getElem_toArray, List.getElem_cons_zero, List.getElem_cons_succ, List.setIfInBounds_toArray, List.set_cons_zero, List.set_cons_succ])
              refine wpAnyZ.takeN (i := 8) (v := .pointer (some ⟨r, 0, none⟩)) rfl (by kernel_rfl) (by kernel_rfl) (by kernel_rfl) (by decide) (fun _ _ _ h => h) (by rfl) (fun w => ?zy) hR6 (fun h => (have h9 : (true : Bool) = false := h; by cases h9)) ?_
              case zy => go_simp
              (try simp only [Act.put, List.getElem_toArray, List.getElem_cons_zero, List.getElem_cons_succ, List.setIfInBounds_toArray, List.set_cons_zero, List.set_cons_succ])
              refine wpAnyZ.takeN (i := 9) (v := .pointer (some ⟨r, 2, none⟩)) rfl (by kernel_rfl) (by kernel_rfl) (by kernel_rfl) (by decide) (fun _ _ _ h => h) (by rfl) (fun w => ?zy) hR6 (fun h => (have h9 : (true : Bool) = false := h; by cases h9)) ?_
              case zy => go_simp
              (try simp only [Act.put, List.getElem_toArray, List.getElem_cons_zero, List.getElem_cons_succ, List.setIfInBounds_toArray, List.set_cons_zero, List.set_cons_succ])
              refine wpAnyZ.oneK (i := 10) (E := False) (by kernel_rfl) rfl (by rfl) (fun K hK => ?_)
              go_simp
              refine hK.out _ _ ⟨⟨hR7, (fun h => (have h9 : (true : Bool) = false := h; by cases h9))⟩, ?_⟩
              clear hK hcell6 hfree6 hR6 hR7
              refine wpAnyZ.done (by kernel_rfl) ?_ _
              go_wp2
              go_roundw
              case rel =>
                obtain ⟨hn9, hnL, hnC, hnS⟩ := HPU.out
                exact ⟨i + 1, _, hn9, HLY.out 512 HC1.out, by omega, by omega, by go_num, by rw [crT, HC2.out]; go_num, by rw [hnC, HIC.out], by rw [hnL, List.length_append]; simp; have := HIL.out; omega, st_unbox hn9 hnS⟩
              case measure => simp [intOf]; omega
            · obtain ⟨m, rfl⟩ : ∃ m : Nat, fa = m := ⟨fa.toNat, by omega⟩
              have HC1 := Lib.hid (show crN F i = m by rw [HKN.out]; show (min (max (m : Int) 0) 512).toNat = m; omega)
              have HSB := Lib.hid (st_box hi HSi.out (.cells #[.int .i64 (blk : Int), .int .i64 0, .slice (some ⟨kx, 0, none⟩) m cb] 96))
              obtain ⟨hBX, hT⟩ := st_boxR hi (HSB.out.drewN 1)
              have hRR := box3 hBX
              go_upto_region 17 with fail
              clear c2 c3 g0 g1 g2 f1 f2 f1' f2' hBX
              refine wp_region_z (fun w' : World => w'.cell? ⟨wr.heap.size, 0, none⟩ = some (.int .i64 (blk : Int)) ∧ w'.cell? ⟨wr.heap.size, 1, none⟩ = some (.int .i64 0) ∧ w'.cell? ⟨wr.heap.size, 2, none⟩ = some (.slice (some ⟨kx, 0, none⟩) m cb)) (fun w' => w'.cell? ⟨r, 2, none⟩ = some hi.vl) 7 (by kernel_rfl) ?_
              refine wpAnyZ.takeN (i := 0) (v := .pointer (some ⟨r, 0, none⟩)) rfl (by kernel_rfl) (by kernel_rfl) (by kernel_rfl) (by decide) (fun _ _ _ h => h) (by rfl) (fun w => ?zy) hRR (fun _ => hT) ?_
              case zy => go_simp
              (try simp only [Act.put, List.getElem_toArray, List.getElem_cons_zero, List.getElem_cons_succ, List.setIfInBounds_toArray, List.set_cons_zero, List.set_cons_succ])
              refine wpAnyZ.takeN (i := 1) (v := .pointer (some ⟨r, 0, none⟩)) rfl (by kernel_rfl) (by kernel_rfl) (by kernel_rfl) (by decide) (fun _ _ _ h => h) (by rfl) (fun w => ?zy) hRR (fun _ => hT) ?_
              case zy => go_simp
              (try simp only [Act.put, List.getElem_toArray, List.getElem_cons_zero, List.getElem_cons_succ, List.setIfInBounds_toArray, List.set_cons_zero, List.set_cons_succ])
              refine wpAnyZ.takeN (i := 2) (v := .pointer (some ⟨r, 0, none⟩)) rfl (by kernel_rfl) (by kernel_rfl) (by kernel_rfl) (by decide) (fun _ _ _ h => h) (by rfl) (fun w => ?zy) hRR (fun _ => hT) ?_
              case zy => go_simp
              (try simp only [Act.put, List.getElem_toArray, List.getElem_cons_zero, List.getElem_cons_succ, List.setIfInBounds_toArray, List.set_cons_zero, List.set_cons_succ])
              refine wpAnyZ.takeN (i := 3) (v := .pointer (some ⟨r, 2, none⟩)) rfl (by kernel_rfl) (by kernel_rfl) (by kernel_rfl) (by decide) (fun _ _ _ h => h) (by rfl) (fun w => ?zy) hRR (fun _ => hT) ?_
              case zy => go_simp
              (try simp only [Act.put, List.getElem_toArray, List.getElem_cons_zero, List.getElem_cons_succ, List.setIfInBounds_toArray, List.set_cons_zero, List.set_cons_succ])
              refine wpAnyZ.take (i := 4) (v := hi.vl) (U := fun w' => w'.cell? ⟨r, 2, none⟩ = some hi.vl) rfl (by kernel_rfl) (by kernel_rfl) (by kernel_rfl) (by decide) (fun _ _ _ h => h) (.inr ⟨fun _ h => h, by kernel_rfl⟩) (.inl (by kernel_rfl)) (.inl ⟨by rfl, fun w hw => ?zy⟩) hT hRR (fun _ => hT) ?_
              case zy => (dsimp only at hw; go_simp)
              (try simp only [Act.put, List.getElem_toArray, List.getElem_cons_zero, List.getElem_cons_succ, List.setIfInBounds_toArray, List.set_cons_zero, List.set_cons_succ])
              refine wpAnyZ.take (i := 5) (v := .agg #[.int .i64 (blk : Int), .int .i64 0, .slice (some ⟨kx, 0, none⟩) m cb]) (U := (fun w' : World => w'.cell? ⟨wr.heap.size, 0, none⟩ = some (.int .i64 (blk : Int)) ∧ w'.cell? ⟨wr.heap.size, 1, none⟩ = some (.int .i64 0) ∧ w'.cell? ⟨wr.heap.size, 2, none⟩ = some (.slice (some ⟨kx, 0, none⟩) m cb))) rfl (by kernel_rfl) (by kernel_rfl) (by kernel_rfl) (by decide) (fun _ _ _ h => h) (.inl fun _ h => h) (.inr fun _ h => h) (.inl ⟨by rfl, fun w hw => ?zy⟩) hRR hRR (fun _ => hT) ?_
              case zy => (dsimp only at hw; obtain ⟨u0, u1, u2⟩ := hw; go_simp)
              (try simp only [Act.put, List.getElem_toArray, List.getElem_cons_zero, List.getElem_cons_succ, List.setIfInBounds_toArray, List.set_cons_zero, List.set_cons_succ])
              refine wpAnyZ.oneK (i := 6) (E := False) (by kernel_rfl) rfl (by rfl) (fun K hK => ?_)
              go_simp
              have HS5 := Lib.hid ((HSB.out.drewN 1).alloc (.cells #[.int .i64 (blk : Int), .int .i64 0, .slice (some ⟨kx, 0, none⟩) m cb] 96))
              obtain ⟨hBX5, hT5⟩ := st_boxR hi HS5.out
              have hR5 := box3 hBX5
              refine hK.out _ _ ⟨⟨hR5, fun _ => hT5⟩, ?_⟩
              clear hK hBX5
              (try simp only [Act.put, List.getElem_toArray, List.getElem_cons_zero, List.getElem_cons_succ, List.setIfInBounds_toArray, List.set_cons_zero, List.set_cons_succ])
              refine wpAnyZ.oneK (i := 7) (E := False) (by kernel_rfl) rfl (by rfl) (fun K hK => ?_)
              refine step_appQ Try.underlying91 HILY.out.1 HILY.out.2.1 HILY.out.2.2.1 HILY.out.2.2.2 rfl (by omega) (P := [(r, rfO Di.n hi.base hi.vl hi.vc Di.armed hi.left Di.down Di.rd Di.wr Di.fl)]) (Q := hi.Ql) (T := hi.Qc ++ (hi.K ++ ((wr.heap.size, (.cells #[.int .i64 (blk : Int), .int .i64 0, .slice (some ⟨kx, 0, none⟩) m cb] 96)) :: T))) HS5.out hi.ql [.int .i64 (blk : Int), .int .i64 0, .slice (some ⟨kx, 0, none⟩) m cb] rfl (by intro u hu; simp at hu; rcases hu with rfl | rfl | rfl <;> rfl) (by have := HIL.out; omega) (by have := HIL.out; simp only [maxLen]; omega) (wr.heap.size + 1) (heap_alloc2 wr (.cells #[.int .i64 (blk : Int), .int .i64 0, .slice (some ⟨kx, 0, none⟩) m cb] 96) (.cells #[.int .i64 (blk : Int), .int .i64 0, .slice (some ⟨kx, 0, none⟩) m cb] 96)) _ _ rfl rfl rfl rfl ?_
              intro v1 w6 Q1 hq1 hS6
              obtain ⟨A1, c1, rfl⟩ := hq1.slice
              have hh6 : w6.heap[r]? = some (rfO Di.n hi.base hi.vl hi.vc Di.armed hi.left Di.down Di.rd Di.wr Di.fl) := hS6.mem (by simp)
              have hcell6 : w6.cell? ⟨r, 2, none⟩ = some hi.vl := cell_of_row w6 r 2 _ _ _ hh6
              have hfree6 := frozen_of_row w6 r 2 _ _ hh6
              have hR6 := box3 (show w6.heap[wr.heap.size]? = some (.cells #[.int .i64 (blk : Int), .int .i64 0, .slice (some ⟨kx, 0, none⟩) m cb] 96) from hS6.mem (by simp))
              have HPU := Lib.hid (hi.pushL ((⟨blk, 0, BB.take m⟩ : Ly), .slice (some ⟨kx, 0, none⟩) m cb) (ly_cut HBL.out hmK hrx2 m (by omega)) hq1 hS6)
              have hR7 : (w6.setCell ⟨r, 2, none⟩ (.slice A1 (hi.L.length + 1) c1)).cell? ⟨wr.heap.size, 0, none⟩ = some (.int .i64 (blk : Int)) ∧ (w6.setCell ⟨r, 2, none⟩ (.slice A1 (hi.L.length + 1) c1)).cell? ⟨wr.heap.size, 1, none⟩ = some (.int .i64 0) ∧ (w6.setCell ⟨r, 2, none⟩ (.slice A1 (hi.L.length + 1) c1)).cell? ⟨wr.heap.size, 2, none⟩ = some (.slice (some ⟨kx, 0, none⟩) m cb) := by
                obtain ⟨h9, -, -, hS9⟩ := HPU.out
                exact box3 (show (w6.setCell ⟨r, 2, none⟩ (.slice A1 (hi.L.length + 1) c1)).heap[wr.heap.size]? = some (.cells #[.int .i64 (blk : Int), .int .i64 0, .slice (some ⟨kx, 0, none⟩) m cb] 96) from hS9.mem (by simp))
              refine hK.out _ _ ⟨⟨hR6, (fun h => (have h9 : (true : Bool) = false := h; by cases h9))⟩, ?_⟩
              clear hK hT hT5 hR5 hRR hq1 hS6 hh6
              (try simp only [Act.put, List.getElem_toArray, List.getElem_cons_zero, List.getElem_cons_succ, List.setIfInBounds_toArray, List.set_cons_zero, List.set_cons_succ])
              refine wpAnyZ.takeN (i := 8) (v := .pointer (some ⟨r, 0, none⟩)) rfl (by kernel_rfl) (by kernel_rfl) (by kernel_rfl) (by decide) (fun _ _ _ h => h) (by rfl) (fun w => ?zy) hR6 (fun h => (have h9 : (true : Bool) = false := h; by cases h9)) ?_
              case zy => go_simp
              (try simp only [Act.put, List.getElem_toArray, List.getElem_cons_zero, List.getElem_cons_succ, List.setIfInBounds_toArray, List.set_cons_zero, List.set_cons_succ])
              refine wpAnyZ.takeN (i := 9) (v := .pointer (some ⟨r, 2, none⟩)) rfl (by kernel_rfl) (by kernel_rfl) (by kernel_rfl) (by decide) (fun _ _ _ h => h) (by rfl) (fun w => ?zy) hR6 (fun h => (have h9 : (true : Bool) = false := h; by cases h9)) ?_
              case zy => go_simp
              (try simp only [Act.put, List.getElem_toArray, List.getElem_cons_zero, List.getElem_cons_succ, List.setIfInBounds_toArray, List.set_cons_zero, List.set_cons_succ])
              refine wpAnyZ.oneK (i := 10) (E := False) (by kernel_rfl) rfl (by rfl) (fun K hK => ?_)
              go_simp
              refine hK.out _ _ ⟨⟨hR7, (fun h => (have h9 : (true : Bool) = false := h; by cases h9))⟩, ?_⟩
              clear hK hcell6 hfree6 hR6 hR7
              refine wpAnyZ.done (by kernel_rfl) ?_ _
              go_wp2
              go_roundw
              case rel =>
                obtain ⟨hn9, hnL, hnC, hnS⟩ := HPU.out
                exact ⟨i + 1, _, hn9, HLY.out m HC1.out, by omega, by omega, by go_num, by rw [crT, HC2.out]; go_num, by rw [hnC, HIC.out], by rw [hnL, List.length_append]; simp; have := HIL.out; omega, st_unbox hn9 hnS⟩
              case measure => simp [intOf]; omega
        · have HC1 := Lib.hid (show crN F i = 0 by rw [HKN.out]; unfold ftN; rw [if_neg k1, if_neg k2])
          have HC2 := Lib.hid (show crS F i = false by rw [HKS.out]; unfold ftS; simp [k1, k2])
          have HS9 := Lib.hid (HSi.out.alloc (.cells #[.int .i64 (blk : Int), .int .i64 0, .slice (some ⟨kx, 0, none⟩) 512 cb] 96))
          have HND := Lib.hid (HLY0.out HC1.out)
          go_wp2
          go_roundw
          case rel => exact ⟨i + 1, Di, hi, HND.out, by omega, by omega, by go_num, by rw [crT, HC2.out]; rfl, HIC.out, by have := HIL.out; omega, HS9.out⟩
          case measure => simp [intOf]; omega
    · have HE := Lib.hid (show i = q ∨ n ≤ i by omega)
      obtain ⟨Ac, cc, hvc⟩ := hi.qc.slice
      rw [hnl] at hvc
      rw [hvc] at c3
      have f3 := hi.free hSi 3
      have f4 := hi.free hSi 4
      have f6 := hi.free hSi 6
      obtain ⟨h1, hL1, hC1, hS1⟩ := hi.dropC hSi
      have hh1 := h1.heap hS1
      have HW := Lib.hid (h1.setW hS1 (w' := ((wr.setCell ⟨r, 3, none⟩ (.slice none 0 0)).setCell ⟨r, 6, none⟩ (.bool false)).setCell ⟨r, 4, none⟩ (.bool false)) { Di with C := [], down := false, armed := false, left := 0 } h1.left rfl rfl rfl (fun h => by cases h) (((Only.refl [r] _).setCell (by simp) _).setCell (by simp) _) (by
        rw [heap_setCell_same _ r 4 _ _ _ (heap_setCell_same _ r 6 _ _ (.bool false) hh1)]; rfl))
      have HEND := Lib.hid (show ({ Di with C := [], down := false, armed := false, left := 0 } : DS) = crD D F by
        have h9 := cr_end (N := D.n) F D.C D.M i (by rw [HDC.out, ← HQ.out, HFL.out]; exact HE.out) (by rw [HDC.out, ← HQ.out]; exact hiq) (by rw [h.hC]; intro x hx; obtain ⟨p, hp, rfl⟩ := List.mem_map.1 hx; exact ⟨(h.co p hp).1.blk, (h.co p hp).2.2⟩) h.mlen
        unfold crD
        rw [← h9, hDi])
      have HCT := Lib.hid (show crT F D.C.length = crT F i from crT_min F _ i (by rw [HDC.out, ← HQ.out, HFL.out]; exact HE.out) (by rw [HDC.out, ← HQ.out]; exact hiq))
      rw [HEND.out] at HW
      have HL1 := Lib.hid (And.intro hL1 hC1)
      have HFIN := Lib.hid (show ∃ h' : RfOk r (crD D F), h'.L.length ≤ h.L.length + h.C.length ∧ h'.C = [] ∧ St w0 (((wr.setCell ⟨r, 3, none⟩ (.slice none 0 0)).setCell ⟨r, 6, none⟩ (.bool false)).setCell ⟨r, 4, none⟩ (.bool false)) b g vp Dp (h'.rows ++ T) from by
        obtain ⟨h9, hLC, hS9⟩ := HW.out
        exact ⟨h9, by rw [hLC.1, hL1]; have := HQ.out; omega, by rw [hLC.2, hC1], hS9⟩)
      have hu : wr.cell? ⟨r, 4, none⟩ = some (.bool Di.armed) ∧ wr.cell? ⟨r, 6, none⟩ = some (.bool Di.down) := ⟨hcc.2.2.2.2.1, hcc.2.2.2.2.2.2.1⟩
      by_cases hin3 : i < q
      · have hi8 : (i : Int) < (q : Int) ∧ ¬ (i : Int) < (n : Int) := by omega
        clear hSi hcc hDi hiC hiL hS1 hh1 hL1 hC1 hvc hin2 hin3
        go_wp2
        go_ret
        exact ⟨by rw [HCT.out]; rfl, HFIN.out⟩
      · have hi8 : ¬ (i : Int) < (q : Int) := by omega
        clear hSi hcc hDi hiC hiL hS1 hh1 hL1 hC1 hvc hin2 hin3
        go_wp2
        go_ret
        exact ⟨by rw [HCT.out]; rfl, HFIN.out⟩
end
end Go.Proofs.Ytjbffahmjhbpjaa
/- A second device beside the first. -/
set_option linter.unusedVariables false
set_option linter.unusedSimpArgs false
set_option maxRecDepth 100000
namespace Go.Proofs.Ytjbffahmjhbpjaa
open Go.RowKit
section
variable {w0 w w' : World} {b g : Nat} {vc : Value} {D : DS} {R : List (Nat × Obj)}
theorem St.new2 (h : St w0 w b g vc D R) (hb : Below w.heap.size w w') {o1 o2 : Obj} (h1 : w'.heap[w.heap.size + 1]? = some o1) (h2 : w'.heap[w.heap.size]? = some o2) : St w0 w' b g vc D ((w.heap.size + 1, o1) :: (w.heap.size, o2) :: R) := by
  refine (h.new hb (Nat.le_refl _) h2).cons (fun p hp e => ?_) (fun hm => by have := h.dv.lt _ hm; omega) (by have := h.bl.size; omega) h1
  rcases List.mem_cons.1 hp with rfl | hp
  · exact absurd e (by show ¬ (w.heap.size = w.heap.size + 1); omega)
  · have := lt_of_block (h.kp.all p hp); omega
theorem St.swap {b2 g2 : Nat} {o1 o2 : Obj} {D2 : DS} {R' : List (Nat × Obj)} (h : St w0 w b g vc D ((b2, o1) :: (g2, o2) :: R')) (hv : IsV w b2 g2 (.slice none 0 0) D2) : St w0 w b2 g2 (.slice none 0 0) D2 R' := by
  have hnd := h.kp.nd
  simp only [List.map_cons, List.nodup_cons, List.mem_cons, not_or] at hnd
  have hsub : R'.Sublist ((b2, o1) :: (g2, o2) :: R') := (List.sublist_cons_self _ _).trans (List.sublist_cons_self _ _)
  have h3 := h.sub hsub
  refine ⟨hv, ⟨h3.kp.all, fun p hp hm => ?_, h3.kp.nd⟩, h.bl, fun s hs => ?_, h3.rl⟩
  · have hp1 : p.1 ∈ List.map Prod.fst R' := List.mem_map.2 ⟨p, hp, rfl⟩
    simp only [dvS, Value.ownBlock, Option.toList_none, List.mem_cons, List.not_mem_nil, or_false] at hm
    rcases hm with e | e
    · exact hnd.1.2 (e ▸ hp1)
    · exact hnd.2.1 (e ▸ hp1)
  · simp only [dvS, Value.ownBlock, Option.toList_none, List.mem_cons, List.not_mem_nil, or_false] at hs
    rcases hs with rfl | rfl
    · exact h.rl _ (List.mem_cons_self)
    · exact h.rl _ (List.mem_cons_of_mem _ (List.mem_cons_self))
end
/-- a device just made over a medium, of which rd reads were done -/
def ofD (L : List UInt8) (rd : Nat) : DS := ⟨64, L, [], 0, false, false, rd, 0, 0⟩
def ofO (g : Nat) : Obj := .cells #[.slice (some ⟨g, 0, none⟩) 64 64, .slice none 0 0, .int .i64 0, .bool false, .bool false, .int .i64 0, .int .i64 0, .int .i64 0] 76 (0, 0)
def ofM2 (L : List UInt8) : Obj := .cells (bv L).toArray 78 (0, 0)
theorem st_Of {w0 w : World} {b g : Nat} {vc : Value} {D : DS} {R : List (Nat × Obj)} (i : Nat) {k c : Nat} {o : Obj} {L : List UInt8} (h : St w0 w b g vc D R) (hi : R[i]? = some (k, o)) (hr : RowB o 32768 c L) :
    Calls Try.prog 13 #[.slice (some ⟨k, 0, none⟩) 32768 c] w fun e w' => ∃ b2 g2, e = .returned (.tuple #[.pointer (some ⟨b2, 0, none⟩), .int .i64 0]) ∧ St w0 w' b g vc D ((b2, ofO g2) :: (g2, ofM2 L) :: R) ∧ b2 ≠ g2 := by
  refine (dv_Of_ok (some ⟨k, 0, none⟩) 32768 c L w (h.rd i hi hr (by omega)) ⟨by omega, by omega, by omega⟩).mono ?_
  rintro e w' ⟨rfl, hD, hb⟩
  exact ⟨_, _, rfl, h.new2 hb hD.st hD.med, hD.ne⟩
theorem ofV {w : World} {b2 g2 : Nat} {L : List UInt8} (h1 : w.heap[b2]? = some (ofO g2)) (h2 : w.heap[g2]? = some (ofM2 L)) (hL : L.length = 32768) (hne : b2 ≠ g2) : IsV w b2 g2 (.slice none 0 0) (ofD L 0) :=
  ⟨⟨h1, h2, hL, hne, by show 64 ≤ 64 ∧ 64 ≤ 4096; omega⟩, ⟨PdOk.nil _, World.ownsRow_nil _ _ _ _⟩, fun k hk => by cases hk⟩
theorem crD_nil_M {D : DS} (hM : D.M.length = D.n * 512) (hC : PdOk D.n D.C) : (crD D []).M = D.M := layA_none 0 D.C D.M (fun x hx => by
  have h1 := (hC x hx).1
  have h2 : (x.num + 1) * 512 ≤ D.n * 512 := Nat.mul_le_mul_right _ h1
  omega)
theorem dv_BlocksV (w : World) (b g : Nat) (vc : Value) (D : DS) (h : IsV w b g vc D) :
    Calls Try.prog 12 #[.pointer (some ⟨b, 0, none⟩)] w fun e w' => e = .returned (.int .i64 D.n) ∧ w' = w := dv_Blocks _ _ _ _ _ _ _ _ _ _ _ _ h.dev
end Go.Proofs.Ytjbffahmjhbpjaa
/- Two devices, the program's and the reference's, beside one another: what each call tells, rows of answers at the end; a second pair turned to the front. -/
set_option linter.unusedVariables false
set_option linter.unusedSimpArgs false
set_option maxRecDepth 100000
namespace Go.Proofs.Ytjbffahmjhbpjaa
open Go.RowKit
/-- what Read answers -/
def rdG (D : DS) (num : Int) : List UInt8 × Int × DS := if ¬ (0 ≤ num ∧ num < (D.n : Int)) then ([], 60, D) else if D.down = true then ([], 6, D) else (rdB D num.toNat, 0, { D with rd := D.rd + 1 })
/-- what Raw answers -/
def rwG (D : DS) (num : Int) : List UInt8 × Int := if ¬ (0 ≤ num ∧ num < (D.n : Int)) then ([], 60) else (blkM D.M num.toNat, 0)
section
variable {w0 w w' : World} {b g : Nat} {vc : Value} {D : DS} {R : List (Nat × Obj)}
theorem St.app0 (h : St w0 w b g vc D R) : St w0 w b g vc D (R ++ []) := by rw [List.append_nil]; exact h
theorem row_rd {k n c : Nat} {o : Obj} {l : List UInt8} (hr : RowB o n c l) (hn : n ≤ 140737490452480) : ∀ W : World, (∀ p ∈ [(k, o)], W.heap[p.1]? = some p.2) → Rd W (some ⟨k, 0, none⟩) n c l := fun W hW => hr.rd (hW (k, o) (by simp)) hn
theorem st_ReadG (num : Int) (h : St w0 w b g vc D R) (hrd : D.rd < 9223372036854775807) (hq : D.C.length ≤ 100000000000) :
    Calls Try.prog 19 #[.pointer (some ⟨b, 0, none⟩), .int .i64 num] w fun e w' => ∃ A n c R1, e = .returned (.tuple #[.slice A n c, .int .i64 (rdG D num).2.1]) ∧ (∀ W : World, (∀ p ∈ R1, W.heap[p.1]? = some p.2) → Rd W A n c (rdG D num).1) ∧ (n = 0 ∨ (rdG D num).2.1 = 0) ∧ St w0 w' b g vc (rdG D num).2.2 (R ++ R1) := by
  by_cases hn : 0 ≤ num ∧ num < (D.n : Int)
  · by_cases hd : D.down = true
    · rw [show rdG D num = ([], 6, D) by unfold rdG; rw [if_neg (by simpa using hn), if_pos hd]]
      refine (dv_Read_down w b g vc D num h.dv hn hd).mono ?_
      rintro e w' ⟨rfl, rfl⟩
      exact ⟨none, 0, 0, [], rfl, fun W _ => Rd.nil W, .inl rfl, h.app0⟩
    · obtain ⟨k, rfl⟩ : ∃ k : Nat, num = k := ⟨num.toNat, by omega⟩
      rw [show rdG D k = (rdB D k, 0, { D with rd := D.rd + 1 }) by unfold rdG; rw [if_neg (by simpa using hn), if_neg hd, Int.toNat_natCast]]
      refine (st_Read k h (by omega) (by simpa using hd) hrd hq).mono ?_
      rintro e w' ⟨j, o, rfl, hr, hS⟩
      exact ⟨_, 512, 512, [(j, o)], rfl, row_rd hr (by omega), .inr rfl, hS.back⟩
  · rw [show rdG D num = ([], 60, D) by unfold rdG; rw [if_pos hn]]
    refine (dv_Read_bad w b g vc D num h.dv hn).mono ?_
    rintro e w' ⟨rfl, rfl⟩
    exact ⟨none, 0, 0, [], rfl, fun W _ => Rd.nil W, .inl rfl, h.app0⟩
theorem st_RawG (num : Int) (h : St w0 w b g vc D R) :
    Calls Try.prog 22 #[.pointer (some ⟨b, 0, none⟩), .int .i64 num] w fun e w' => ∃ A n c R1, e = .returned (.tuple #[.slice A n c, .int .i64 (rwG D num).2]) ∧ (∀ W : World, (∀ p ∈ R1, W.heap[p.1]? = some p.2) → Rd W A n c (rwG D num).1) ∧ (n = 0 ∨ (rwG D num).2 = 0) ∧ St w0 w' b g vc D (R ++ R1) := by
  by_cases hn : 0 ≤ num ∧ num < (D.n : Int)
  · obtain ⟨k, rfl⟩ : ∃ k : Nat, num = k := ⟨num.toNat, by omega⟩
    rw [show rwG D k = (blkM D.M k, 0) by unfold rwG; rw [if_neg (by simpa using hn), Int.toNat_natCast]]
    refine (st_Raw k h (by omega)).mono ?_
    rintro e w' ⟨j, o, rfl, hr, hS⟩
    exact ⟨_, 512, 512, [(j, o)], rfl, row_rd hr (by omega), .inr rfl, hS.back⟩
  · rw [show rwG D num = ([], 60) by unfold rwG; rw [if_pos hn]]
    refine (dv_Raw_bad w b g vc D num h.dv hn).mono ?_
    rintro e w' ⟨rfl, rfl⟩
    exact ⟨none, 0, 0, [], rfl, fun W _ => Rd.nil W, .inl rfl, h.app0⟩
theorem st_MediumG (h : St w0 w b g vc D R) :
    Calls Try.prog 23 #[.pointer (some ⟨b, 0, none⟩)] w fun e w' => ∃ A c R1, e = .returned (.slice A (D.n * 512) c) ∧ (∀ W : World, (∀ p ∈ R1, W.heap[p.1]? = some p.2) → Rd W A (D.n * 512) c D.M) ∧ St w0 w' b g vc D (R ++ R1) := by
  have hs := h.dv.dev.small
  refine (st_Medium h).mono ?_
  rintro e w' ⟨j, c, o, rfl, hr, hS⟩
  exact ⟨_, c, [(j, o)], rfl, row_rd hr (by omega), hS.back⟩
theorem st_DownG (h : St w0 w b g vc D R) :
    Calls Try.prog 26 #[.pointer (some ⟨b, 0, none⟩)] w fun e w' => e = .returned (.bool D.down) ∧ w' = w := dv_Down w b g vc D h.dv
theorem st_CountsG (h : St w0 w b g vc D R) :
    Calls Try.prog 28 #[.pointer (some ⟨b, 0, none⟩)] w fun e w' => e = .returned (cntV D) ∧ St w0 w' b g vc D R :=
  (dv_Counts w b g vc D h.dv).mono fun e w' ⟨h1, h2⟩ => ⟨h1, h.below h2⟩
end
section
variable {w0 w w' : World} {b g : Nat} {vp : Value} {Dp D : DS} {r : Nat} {T : List (Nat × Obj)}
theorem assocT {h : RfOk r D} {R1 : List (Nat × Obj)} (hS : St w0 w b g vp Dp ((h.rows ++ T) ++ R1)) : St w0 w b g vp Dp (h.rows ++ (T ++ R1)) := by rwa [← List.append_assoc]
theorem rf_ReadG (num : Int) (h : RfOk r D) (hS : St w0 w b g vp Dp (h.rows ++ T)) (hrd : D.rd < 9223372036854775807) (hLn : h.L.length ≤ 100000000000) (hCn : h.C.length ≤ 100000000000) :
    Calls Try.prog 53 #[.pointer (some ⟨r, 0, none⟩), .int .i64 num] w fun e w' => ∃ A n c R1, e = .returned (.tuple #[.slice A n c, .int .i64 (rdG D num).2.1]) ∧ (∀ W : World, (∀ p ∈ R1, W.heap[p.1]? = some p.2) → Rd W A n c (rdG D num).1) ∧ (n = 0 ∨ (rdG D num).2.1 = 0) ∧ ∃ h' : RfOk r (rdG D num).2.2, (h'.L.length = h.L.length ∧ h'.C.length = h.C.length) ∧ St w0 w' b g vp Dp (h'.rows ++ (T ++ R1)) := by
  by_cases hn : 0 ≤ num ∧ num < (D.n : Int)
  · by_cases hd : D.down = true
    · rw [show rdG D num = ([], 6, D) by unfold rdG; rw [if_neg (by simpa using hn), if_pos hd]]
      refine (rf_Read_down num h hS hn hd).mono ?_
      rintro e w' ⟨rfl, rfl⟩
      exact ⟨none, 0, 0, [], rfl, fun W _ => Rd.nil W, .inl rfl, h, ⟨rfl, rfl⟩, assocT hS.app0⟩
    · obtain ⟨k, rfl⟩ : ∃ k : Nat, num = k := ⟨num.toNat, by omega⟩
      rw [show rdG D k = (rdB D k, 0, { D with rd := D.rd + 1 }) by unfold rdG; rw [if_neg (by simpa using hn), if_neg hd, Int.toNat_natCast]]
      refine (rf_Read k h hS (by omega) (by simpa using hd) hrd hLn hCn).mono ?_
      rintro e w' ⟨j, o, rfl, hr, h', hL, hS'⟩
      have h1 := congrArg List.length h'.hC
      have h2 := congrArg List.length h.hC
      rw [List.length_map] at h1 h2
      exact ⟨_, 512, 512, [(j, o)], rfl, row_rd hr (by omega), .inr rfl, h', ⟨hL, h1.symm.trans h2⟩, assocT hS'.back⟩
  · rw [show rdG D num = ([], 60, D) by unfold rdG; rw [if_pos hn]]
    refine (rf_Read_bad num h hS hn).mono ?_
    rintro e w' ⟨rfl, rfl⟩
    exact ⟨none, 0, 0, [], rfl, fun W _ => Rd.nil W, .inl rfl, h, ⟨rfl, rfl⟩, assocT hS.app0⟩
theorem rf_RawG (num : Int) (h : RfOk r D) (hS : St w0 w b g vp Dp (h.rows ++ T)) (hLn : h.L.length ≤ 100000000000) :
    Calls Try.prog 54 #[.pointer (some ⟨r, 0, none⟩), .int .i64 num] w fun e w' => ∃ A n c R1, e = .returned (.tuple #[.slice A n c, .int .i64 (rwG D num).2]) ∧ (∀ W : World, (∀ p ∈ R1, W.heap[p.1]? = some p.2) → Rd W A n c (rwG D num).1) ∧ (n = 0 ∨ (rwG D num).2 = 0) ∧ St w0 w' b g vp Dp (h.rows ++ (T ++ R1)) := by
  by_cases hn : 0 ≤ num ∧ num < (D.n : Int)
  · obtain ⟨k, rfl⟩ : ∃ k : Nat, num = k := ⟨num.toNat, by omega⟩
    rw [show rwG D k = (blkM D.M k, 0) by unfold rwG; rw [if_neg (by simpa using hn), Int.toNat_natCast]]
    refine (rf_Raw k h hS (by omega) hLn).mono ?_
    rintro e w' ⟨j, o, rfl, hr, hS'⟩
    exact ⟨_, 512, 512, [(j, o)], rfl, row_rd hr (by omega), .inr rfl, assocT hS'.back⟩
  · rw [show rwG D num = ([], 60) by unfold rwG; rw [if_pos hn]]
    refine (rf_Raw_bad num h hS hn).mono ?_
    rintro e w' ⟨rfl, rfl⟩
    exact ⟨none, 0, 0, [], rfl, fun W _ => Rd.nil W, .inl rfl, assocT hS.app0⟩
theorem rf_MediumG (h : RfOk r D) (hS : St w0 w b g vp Dp (h.rows ++ T)) (hLn : h.L.length ≤ 100000000000) :
    Calls Try.prog 48 #[.pointer (some ⟨r, 0, none⟩)] w fun e w' => ∃ A c R1, e = .returned (.slice A (D.n * 512) c) ∧ (∀ W : World, (∀ p ∈ R1, W.heap[p.1]? = some p.2) → Rd W A (D.n * 512) c D.M) ∧ St w0 w' b g vp Dp (h.rows ++ (T ++ R1)) := by
  have hs := h.sm
  refine (rf_Medium h hS hLn).mono ?_
  rintro e w' ⟨j, c, o, rfl, hr, hS'⟩
  exact ⟨_, c, [(j, o)], rfl, row_rd hr (by omega), assocT hS'.back⟩
theorem rf_PendN (h : RfOk r D) (hS : St w0 w b g vp Dp (h.rows ++ T)) (hCn : h.C.length ≤ 100000000) :
    Calls Try.prog 55 #[.pointer (some ⟨r, 0, none⟩)] w fun e w' => ∃ A c R1, e = .returned (.slice A D.C.length c) ∧ (∀ W : World, (∀ p ∈ R1, W.heap[p.1]? = some p.2) → RdI [] W A D.C.length c (nums D.C)) ∧ St w0 w' b g vp Dp (h.rows ++ (T ++ R1)) := by
  refine (rf_Pending h hS hCn).mono ?_
  rintro e w' ⟨u, rfl, hO, hb⟩
  rcases Nat.eq_zero_or_pos D.C.length with h0 | hp
  · rcases hO.2 with ⟨rfl, _⟩ | ⟨k, cap, cur, rfl, hbk, hh, h1, h2, h3, h4⟩
    · have hn : nums D.C = [] := List.eq_nil_of_length_eq_zero (by rw [nums_len, h0])
      exact ⟨none, 0, [], by rw [h0], fun W _ => by rw [h0, hn]; exact RdI.nil _ W, assocT (hS.below hb).app0⟩
    · exact ⟨_, cap, [], rfl, fun W _ => ⟨hO.len, h1, by omega, fun hp => by omega⟩, assocT (hS.below hb).app0⟩
  · obtain ⟨k, c, o, rfl, hr, hS'⟩ := hS.newN hO hb hp
    refine ⟨_, c, [(k, o)], rfl, fun W hW => ?_, assocT hS'.back⟩
    have h2 : RowN o D.C.length c (nums D.C) := hr
    have hcl : D.C.length ≤ 100000000 := by rw [h.hC, List.length_map]; exact hCn
    exact OwnI.rdA [] (h2.own (hW (k, o) (by simp))) (by omega) (by simp)
theorem rf_CountsG (h : RfOk r D) (hS : St w0 w b g vp Dp (h.rows ++ T)) :
    Calls Try.prog 57 #[.pointer (some ⟨r, 0, none⟩)] w fun e w' => e = .returned (cntV D) ∧ St w0 w' b g vp Dp (h.rows ++ T) :=
  (rf_Counts h hS).mono fun e w' ⟨h1, h2⟩ => ⟨h1, hS.below h2⟩
end
/-! ### a second pair turned to the front -/
def DvR (b g : Nat) (v : Value) (D : DS) (R : List (Nat × Obj)) : Prop := R.map Prod.fst = dvS b g v ∧ ∀ W : World, (∀ p ∈ R, W.heap[p.1]? = some p.2) → IsV W b g v D
theorem IsV.heapEq {w W : World} {b g : Nat} {vc : Value} {D : DS} (h : IsV w b g vc D) (hk : ∀ k ∈ dvS b g vc, W.heap[k]? = w.heap[k]?) : IsV W b g vc D := by
  refine ⟨⟨(hk b (by simp [dvS])).trans h.dev.st, (hk g (by simp [dvS])).trans h.dev.med, h.dev.len, h.dev.ne, h.dev.small⟩, ⟨h.ca.1, h.ca.2.1, ?_⟩, h.nb⟩
  rcases h.ca.2.2 with h1 | ⟨g', cap, cur, rfl, hb, hh, h3⟩
  · exact .inl h1
  · exact .inr ⟨g', cap, cur, rfl, hb, (hk g' (by simp [dvS, Value.ownBlock])).trans hh, h3⟩
theorem IsV.nd {w : World} {b g : Nat} {vc : Value} {D : DS} (h : IsV w b g vc D) : (dvS b g vc).Nodup := by
  unfold dvS
  have hne := h.dev.ne
  cases hv : vc.ownBlock with
  | none => simp [hne]
  | some k =>
    have h1 := h.nb k hv
    simp only [Option.toList_some, List.nodup_cons, List.mem_cons, List.not_mem_nil, or_false, not_or, List.nodup_nil, and_true, not_false_eq_true]
    exact ⟨⟨hne, fun e => h1.1 e.symm⟩, fun e => h1.2 e.symm⟩
theorem St.turn {w0 w : World} {b g b2 g2 : Nat} {v v2 : Value} {D D2 : DS} {R2 T : List (Nat × Obj)} (h : St w0 w b g v D (R2 ++ T)) (h2 : DvR b2 g2 v2 D2 R2) : ∃ R1, DvR b g v D R1 ∧ St w0 w b2 g2 v2 D2 (R1 ++ T) := by
  have hlt := h.dv.lt
  have hmap : ((dvS b g v).map fun k => (k, (w.heap[k]?).getD (.cells #[] 0 (0, 0)))).map Prod.fst = dvS b g v := by rw [List.map_map]; exact List.map_id _
  have hall : ∀ p ∈ (dvS b g v).map (fun k => (k, (w.heap[k]?).getD (.cells #[] 0 (0, 0)))), p.1 ∈ dvS b g v ∧ w.heap[p.1]? = some p.2 := fun p hp => by
    obtain ⟨k, hk, rfl⟩ := List.mem_map.1 hp
    exact ⟨hk, by show w.heap[k]? = some ((w.heap[k]?).getD _); rw [Array.getElem?_eq_getElem (hlt k hk)]; rfl⟩
  refine ⟨(dvS b g v).map fun k => (k, (w.heap[k]?).getD (.cells #[] 0 (0, 0))), ⟨hmap, fun W hW => h.dv.heapEq fun k hk => ?_⟩, ?_⟩
  · have h3 : (k, (w.heap[k]?).getD (.cells #[] 0 (0, 0))) ∈ (dvS b g v).map fun k => (k, (w.heap[k]?).getD (.cells #[] 0 (0, 0))) := List.mem_map.2 ⟨k, hk, rfl⟩
    exact (hW _ h3).trans (hall _ h3).2.symm
  · have hn := h.kp.nd
    rw [List.map_append, List.nodup_append] at hn
    have ha : ∀ p ∈ R2 ++ T, w.heap[p.1]? = some p.2 := h.kp.all
    have h2m : ∀ s ∈ dvS b2 g2 v2, ∃ p ∈ R2, p.1 = s := fun s hs => by
      rw [← h2.1] at hs
      obtain ⟨p, hp, e⟩ := List.mem_map.1 hs
      exact ⟨p, hp, e⟩
    refine ⟨h2.2 w fun p hp => ha p (List.mem_append_left _ hp), ⟨fun p hp => ?_, fun p hp hm => ?_, ?_⟩, h.bl, fun s hs => ?_, fun p hp => ?_⟩
    · rcases List.mem_append.1 hp with hp | hp
      · exact (hall p hp).2
      · exact ha p (List.mem_append_right _ hp)
    · obtain ⟨q, hq, e⟩ := h2m _ hm
      rcases List.mem_append.1 hp with hp | hp
      · exact h.kp.out q (List.mem_append_left _ hq) (e ▸ (hall p hp).1)
      · exact hn.2.2 q.1 (List.mem_map.2 ⟨q, hq, rfl⟩) p.1 (List.mem_map.2 ⟨p, hp, rfl⟩) e
    · rw [List.map_append, hmap, List.nodup_append]
      refine ⟨h.dv.nd, hn.2.1, fun x hx y hy e => ?_⟩
      obtain ⟨p, hp, rfl⟩ := List.mem_map.1 hy
      exact h.kp.out p (List.mem_append_right _ hp) (e ▸ hx)
    · obtain ⟨q, hq, rfl⟩ := h2m _ hs
      exact h.rl q (List.mem_append_left _ hq)
    · rcases List.mem_append.1 hp with hp | hp
      · exact h.sl _ (hall p hp).1
      · exact h.rl p (List.mem_append_right _ hp)
/-- a second one made behind the first -/
theorem St.join {w0 w1 w2 : World} {b g b2 g2 : Nat} {v v2 : Value} {D D2 : DS} {R R2 : List (Nat × Obj)} (h : St w0 w1 b g v D R) (h2 : St w1 w2 b2 g2 v2 D2 R2) : ∃ Rn, DvR b2 g2 v2 D2 Rn ∧ St w0 w2 b g v D (R ++ (Rn ++ R2)) := by
  have h1 := h.below h2.bl
  have hlt := h2.dv.lt
  have hmap : ((dvS b2 g2 v2).map fun k => (k, (w2.heap[k]?).getD (.cells #[] 0 (0, 0)))).map Prod.fst = dvS b2 g2 v2 := by rw [List.map_map]; exact List.map_id _
  have hall : ∀ p ∈ (dvS b2 g2 v2).map (fun k => (k, (w2.heap[k]?).getD (.cells #[] 0 (0, 0)))), p.1 ∈ dvS b2 g2 v2 ∧ w2.heap[p.1]? = some p.2 := fun p hp => by
    obtain ⟨k, hk, rfl⟩ := List.mem_map.1 hp
    exact ⟨hk, by show w2.heap[k]? = some ((w2.heap[k]?).getD _); rw [Array.getElem?_eq_getElem (hlt k hk)]; rfl⟩
  refine ⟨(dvS b2 g2 v2).map fun k => (k, (w2.heap[k]?).getD (.cells #[] 0 (0, 0))), ⟨hmap, fun W hW => h2.dv.heapEq fun k hk => ?_⟩, ?_⟩
  · have h3 : (k, (w2.heap[k]?).getD (.cells #[] 0 (0, 0))) ∈ (dvS b2 g2 v2).map fun k => (k, (w2.heap[k]?).getD (.cells #[] 0 (0, 0))) := List.mem_map.2 ⟨k, hk, rfl⟩
    exact (hW _ h3).trans (hall _ h3).2.symm
  · have hgeN : ∀ p ∈ (dvS b2 g2 v2).map (fun k => (k, (w2.heap[k]?).getD (.cells #[] 0 (0, 0)))) ++ R2, w2.heap[p.1]? = some p.2 ∧ w1.heap.size ≤ p.1 := fun p hp => by
      rcases List.mem_append.1 hp with hp | hp
      · exact ⟨(hall p hp).2, h2.sl _ (hall p hp).1⟩
      · exact ⟨h2.kp.all p hp, h2.rl p hp⟩
    have hltR : ∀ p ∈ R, p.1 < w1.heap.size := fun p hp => lt_of_block (h.kp.all p hp)
    have hs0 := h.bl.size
    refine ⟨h1.dv, ⟨fun p hp => ?_, fun p hp hm => ?_, ?_⟩, h1.bl, h1.sl, fun p hp => ?_⟩
    · rcases List.mem_append.1 hp with hp | hp
      · exact h1.kp.all p hp
      · exact (hgeN p hp).1
    · rcases List.mem_append.1 hp with hp | hp
      · exact h1.kp.out p hp hm
      · have := (hgeN p hp).2
        have := h.dv.lt _ hm
        omega
    · rw [List.map_append, List.nodup_append]
      refine ⟨h.kp.nd, ?_, fun x hx y hy e => ?_⟩
      · rw [List.map_append, hmap, List.nodup_append]
        refine ⟨h2.dv.nd, h2.kp.nd, fun x hx y hy e => ?_⟩
        obtain ⟨p, hp, rfl⟩ := List.mem_map.1 hy
        exact h2.kp.out p hp (e ▸ hx)
      · obtain ⟨p, hp, rfl⟩ := List.mem_map.1 hx
        obtain ⟨q, hq, rfl⟩ := List.mem_map.1 hy
        have := (hgeN q hq).2
        have := hltR p hp
        omega
    · rcases List.mem_append.1 hp with hp | hp
      · exact h1.rl p hp
      · have := (hgeN p hp).2
        omega
/-! ### sides: the struct of two pointers -/
def sdO (b r : Nat) : Obj := .cells #[.pointer (some ⟨b, 0, none⟩), .pointer (some ⟨r, 0, none⟩)] 69
/-- a pair of devices in the same state, its struct in block P; numbers up to N -/
def SdOk (w0 w : World) (P : Nat) (T : List (Nat × Obj)) (N : Nat) (D : DS) : Prop :=
  ∃ b g v r, ∃ h : RfOk r D, D.le N ∧ h.L.length + h.C.length ≤ N ∧ St w0 w b g v D (h.rows ++ ((P, sdO b r) :: T))
/-- .. as rows beside another -/
def OthR (P : Nat) (N : Nat) (D : DS) (R : List (Nat × Obj)) : Prop :=
  ∃ b g v r, ∃ h : RfOk r D, ∃ R0, D.le N ∧ h.L.length + h.C.length ≤ N ∧ DvR b g v D R0 ∧ R = R0 ++ (h.rows ++ [(P, sdO b r)])
theorem SdOk.turn {w0 w : World} {P Q N N2 : Nat} {T R : List (Nat × Obj)} {D D2 : DS} (h : SdOk w0 w P (R ++ T) N D) (h2 : OthR Q N2 D2 R) : ∃ R', OthR P N D R' ∧ SdOk w0 w Q (R' ++ T) N2 D2 := by
  obtain ⟨b, g, v, r, hr, hl, hL, hS⟩ := h
  obtain ⟨b2, g2, v2, r2, hr2, R0, hl2, hL2, hD2, rfl⟩ := h2
  have hp1 : (hr.rows ++ ((P, sdO b r) :: ((R0 ++ (hr2.rows ++ [(Q, sdO b2 r2)])) ++ T))).Perm (R0 ++ (hr2.rows ++ ((Q, sdO b2 r2) :: (hr.rows ++ ((P, sdO b r) :: T))))) := by
    have e1 : hr.rows ++ ((P, sdO b r) :: ((R0 ++ (hr2.rows ++ [(Q, sdO b2 r2)])) ++ T)) = (hr.rows ++ [(P, sdO b r)]) ++ ((R0 ++ (hr2.rows ++ [(Q, sdO b2 r2)])) ++ T) := by simp
    have e2 : R0 ++ (hr2.rows ++ ((Q, sdO b2 r2) :: (hr.rows ++ ((P, sdO b r) :: T)))) = (R0 ++ (hr2.rows ++ [(Q, sdO b2 r2)])) ++ ((hr.rows ++ [(P, sdO b r)]) ++ T) := by simp
    rw [e1, e2]
    exact List.perm_append_comm_assoc _ _ _
  obtain ⟨R1, hD1, hS2⟩ := (hS.perm hp1).turn hD2
  refine ⟨R1 ++ (hr.rows ++ [(P, sdO b r)]), ⟨b, g, v, r, hr, R1, hl, hL, hD1, rfl⟩, b2, g2, v2, r2, hr2, hl2, hL2, hS2.perm ?_⟩
  have e1 : R1 ++ (hr2.rows ++ ((Q, sdO b2 r2) :: (hr.rows ++ ((P, sdO b r) :: T)))) = R1 ++ ((hr2.rows ++ [(Q, sdO b2 r2)]) ++ ((hr.rows ++ [(P, sdO b r)]) ++ T)) := by simp
  have e2 : hr2.rows ++ ((Q, sdO b2 r2) :: ((R1 ++ (hr.rows ++ [(P, sdO b r)])) ++ T)) = (hr2.rows ++ [(Q, sdO b2 r2)]) ++ (R1 ++ ((hr.rows ++ [(P, sdO b r)]) ++ T)) := by simp
  rw [e1, e2]
  exact List.perm_append_comm_assoc _ _ _
theorem SdOk.sub {w0 w : World} {P N : Nat} {T R : List (Nat × Obj)} {D : DS} (h : SdOk w0 w P (T ++ R) N D) : SdOk w0 w P T N D := by
  obtain ⟨b, g, v, r, hr, hl, hL, hS⟩ := h
  exact ⟨b, g, v, r, hr, hl, hL, hS.sub (List.Sublist.append (List.Sublist.refl _) (List.Sublist.cons_cons _ (List.sublist_append_left _ _)))⟩
end Go.Proofs.Ytjbffahmjhbpjaa
/- The laws' helper asks: a step that only tells, on both devices. -/
set_option linter.unusedVariables false
set_option linter.unusedSimpArgs false
set_option maxRecDepth 100000
namespace Go.Proofs.Ytjbffahmjhbpjaa
open Go.RowKit
theorem rdG_le {D : DS} {m : Nat} (num : Int) (h : D.le m) : (rdG D num).2.2.le (m + 1) := by
  unfold rdG
  split
  · exact h.mono (by omega)
  · split
    · exact h.mono (by omega)
    · exact ⟨h.left, Nat.le_succ_of_le h.ca, Nat.le_succ_of_le h.wr, Nat.le_succ_of_le h.fl, Nat.succ_le_succ h.rd⟩
theorem SdOk.mk {w0 w : World} {P N : Nat} {T R : List (Nat × Obj)} {D : DS} {b g r : Nat} {v : Value} (h : RfOk r D) (hl : D.le N) (hL : h.L.length + h.C.length ≤ N) (hS : St w0 w b g v D (h.rows ++ (((P, sdO b r) :: T) ++ R))) : SdOk w0 w P T N D :=
  ⟨b, g, v, r, h, hl, hL, hS.sub (List.Sublist.append (List.Sublist.refl _) (List.sublist_append_left _ _))⟩
theorem sdCells {W : World} {P b r q : Nat} {two : Bool} {kd blk num len : Int} {fill : UInt8} {B : List UInt8} {F : List Ft} {vB vF : Value} (hP : W.heap[P]? = some (sdO b r)) (h : W.heap[q]? = some (opO ⟨two, kd, blk, num, len, fill, B, F⟩ vB vF)) :
    W.cell? ⟨P, 0, none⟩ = some (.pointer (some ⟨b, 0, none⟩)) ∧ W.cell? ⟨P, 1, none⟩ = some (.pointer (some ⟨r, 0, none⟩)) ∧ W.cell? ⟨q, 1, none⟩ = some (.int .i64 kd) ∧ W.cell? ⟨q, 2, none⟩ = some (.int .i64 blk) := by
  have hc := opCells h
  exact ⟨cell_of_row W P 0 _ _ _ hP, cell_of_row W P 1 _ _ _ hP, hc.2.1, hc.2.2.1⟩
set_option maxHeartbeats 4000000 in
theorem l6_asks {w0 w : World} {P N : Nat} {T : List (Nat × Obj)} {D : DS} (x : OpD) (AB AF : Option Addr) (nB cB nF cF : Nat) (h : SdOk w0 w P T N D) (hN : N ≤ 50000000) :
    Calls Try.prog 49 #[.pointer (some ⟨P, 0, none⟩), .agg (opC x (.slice AB nB cB) (.slice AF nF cF))] w fun e w' => e = .returned (.bool true) ∧ ∃ D', SdOk w0 w' P T (N + 1) D' := by
  obtain ⟨two, kd, blk, num, len, fill, B, F⟩ := x
  obtain ⟨b, g, v, r, hr, hl, hL, hS⟩ := h
  obtain ⟨q, hq⟩ : ∃ q, q = w.heap.size := ⟨_, rfl⟩
  obtain ⟨o, ho⟩ : ∃ o, o = opO ⟨two, kd, blk, num, len, fill, B, F⟩ (.slice AB nB cB) (.slice AF nF cF) := ⟨_, rfl⟩
  have hB0 := (Below.refl _ w).alloc (Nat.le_refl _) o
  have hHT : St w0 (w.alloc o) b g v D (hr.rows ++ (((P, sdO b r) :: T) ++ [(q, o)])) := by rw [hq]; exact assocT (hS.new hB0 (Nat.le_refl _) (heap_alloc_new w o)).back
  have HCB := Lib.hid (show ∀ (W : World) (v' : Value) (D' : DS) (X : List (Nat × Obj)), St w0 W b g v' D' X → (P, sdO b r) ∈ X → (q, o) ∈ X → W.cell? ⟨P, 0, none⟩ = some (.pointer (some ⟨b, 0, none⟩)) ∧ W.cell? ⟨P, 1, none⟩ = some (.pointer (some ⟨r, 0, none⟩)) ∧ W.cell? ⟨q, 1, none⟩ = some (.int .i64 kd) ∧ W.cell? ⟨q, 2, none⟩ = some (.int .i64 blk) from fun W v' D' X h h1 h2 => by
    have h9 := h.mem h2
    rw [ho] at h9
    exact sdCells (h.mem h1) h9)
  have hd := HCB.out _ _ _ _ hHT (by simp) (by simp)
  have HT := Lib.hid hHT
  have HDL := Lib.hid hl
  have HLL := Lib.hid hL
  have hC1 : D.C.length ≤ N := hl.ca
  have hRD := hl.rd
  have hoo : o = .cells #[.bool two, .int .i64 kd, .int .i64 blk, .int .i64 num, .int .i64 len, .int .u8 (fill.toNat : Int), .slice AB nB cB, .slice AF nF cF] 48 := ho
  have HO := Lib.hid hoo
  have HQ := Lib.hid hq
  rw [show Value.agg (opC ⟨two, kd, blk, num, len, fill, B, F⟩ (.slice AB nB cB) (.slice AF nF cF)) = .agg #[.bool two, .int .i64 kd, .int .i64 blk, .int .i64 num, .int .i64 len, .int .u8 (fill.toNat : Int), .slice AB nB cB, .slice AF nF cF] from rfl]
  rw [hq] at hd
  clear hl hL hS hB0 hHT ho hoo hq
  by_cases k1 : kd = 1
  · subst k1
    go_enter Try.func49, Try.ntmps49
    go_wp2_with fail
    rw [← HO.out, ← HQ.out]
    rw [← HQ.out] at hd
    have HP1 := Lib.hid (st_ReadG blk (HT.out.drewN 1) (by omega) (by omega))
    go_region_held3 (fun w' => w'.cell? ⟨P, 0, none⟩ = some (.pointer (some ⟨b, 0, none⟩)) ∧ w'.cell? ⟨P, 1, none⟩ = some (.pointer (some ⟨r, 0, none⟩)) ∧ w'.cell? ⟨q, 1, none⟩ = some (.int .i64 1) ∧ w'.cell? ⟨q, 2, none⟩ = some (.int .i64 blk))
      (first | exact hd2 | exact hd)
      (first | (go_at_call 19; refine HP1.out.mono ?_; rintro e w2 ⟨A2, n2, c2, R2, rfl, hr2, hz2, hS2⟩; have HS2 := Lib.hid hS2; have HR2 := Lib.hid hr2; have hd2 := HCB.out _ _ _ _ hS2 (by simp) (by simp); clear hr2 hS2))
    rename_i hHeld
    clear hHeld hd
    go_wp2_with fail
    have HP2 := Lib.hid (rf_ReadG blk hr (T := (((P, sdO b r) :: T) ++ [(q, o)]) ++ R2) (by have h9 := HS2.out.drewN 1; simp only [List.append_assoc] at h9 ⊢; exact h9) (by omega) (by have := HLL.out; omega) (by have := HLL.out; omega))
    go_region_held3 (fun w' => w'.cell? ⟨P, 0, none⟩ = some (.pointer (some ⟨b, 0, none⟩)) ∧ w'.cell? ⟨P, 1, none⟩ = some (.pointer (some ⟨r, 0, none⟩)) ∧ w'.cell? ⟨q, 1, none⟩ = some (.int .i64 1) ∧ w'.cell? ⟨q, 2, none⟩ = some (.int .i64 blk))
      (first | exact hd3 | exact hd2)
      (first | (go_at_call 53; refine HP2.out.mono ?_; rintro e w3 ⟨A3, n3, c3, R3, rfl, hr3, hz3, h3, ⟨hL3, hC3⟩, hS3⟩; have HS3 := Lib.hid hS3; have HR3 := Lib.hid hr3; have hd3 := HCB.out _ _ _ _ hS3 (by simp) (by simp); clear hr3 hS3))
    rename_i hHeld
    clear hHeld hd2 hd3
    have HSM := Lib.hid (l6_same A2 A3 n2 c2 n3 c3 _ _ w3 (HR2.out w3 (fun p hp => HS3.out.kp.all p (by simp [hp]))) (HR3.out w3 (fun p hp => HS3.out.kp.all p (by simp [hp]))))
    rw [decide_eq_true rfl] at HSM
    have HEND := Lib.hid (show ∃ D', SdOk w0 w3 P T (N + 1) D' from ⟨_, SdOk.mk (R := [(q, o)] ++ (R2 ++ R3)) h3 (rdG_le blk HDL.out) (by have := HLL.out; omega) (by have h9 := HS3.out; simp only [List.append_assoc, List.cons_append] at h9 ⊢; exact h9)⟩)
    obtain ⟨c9, hc9⟩ : ∃ c9, c9 = (rdG D blk).2.1 := ⟨_, rfl⟩
    rw [← hc9] at hz2 ⊢
    clear hc9 hz3 HS3 HR3 HR2 HP1 HP2 HS2
    by_cases h0 : c9 = 0
    · subst h0
      go_wp2_with fail
      refine HSM.out.mono ?_
      rintro e w4 ⟨rfl, rfl⟩
      go_wp2
      go_ret
      exact ⟨rfl, HEND.out⟩
    · have hn2 : n2 = 0 := by omega
      subst hn2
      have h0b : (c9 == 0) = false := by simp [h0]
      go_wp2_with fail
      refine HSM.out.mono ?_
      rintro e w4 ⟨rfl, rfl⟩
      go_wp2
      go_ret
      exact ⟨rfl, HEND.out⟩
  by_cases k2 : kd = 2
  · subst k2
    go_enter Try.func49, Try.ntmps49
    go_wp2_with fail
    rw [← HO.out, ← HQ.out]
    rw [← HQ.out] at hd
    have HP1 := Lib.hid (st_RawG blk (HT.out.drewN 1))
    go_region_held3 (fun w' => w'.cell? ⟨P, 0, none⟩ = some (.pointer (some ⟨b, 0, none⟩)) ∧ w'.cell? ⟨P, 1, none⟩ = some (.pointer (some ⟨r, 0, none⟩)) ∧ w'.cell? ⟨q, 1, none⟩ = some (.int .i64 2) ∧ w'.cell? ⟨q, 2, none⟩ = some (.int .i64 blk))
      (first | exact hd2 | exact hd)
      (first | (go_at_call 22; refine HP1.out.mono ?_; rintro e w2 ⟨A2, n2, c2, R2, rfl, hr2, hz2, hS2⟩; have HS2 := Lib.hid hS2; have HR2 := Lib.hid hr2; have hd2 := HCB.out _ _ _ _ hS2 (by simp) (by simp); clear hr2 hS2))
    rename_i hHeld
    clear hHeld hd
    go_wp2_with fail
    have HP2 := Lib.hid (rf_RawG blk hr (T := (((P, sdO b r) :: T) ++ [(q, o)]) ++ R2) (by have h9 := HS2.out.drewN 1; simp only [List.append_assoc] at h9 ⊢; exact h9) (by have := HLL.out; omega))
    go_region_held3 (fun w' => w'.cell? ⟨P, 0, none⟩ = some (.pointer (some ⟨b, 0, none⟩)) ∧ w'.cell? ⟨P, 1, none⟩ = some (.pointer (some ⟨r, 0, none⟩)) ∧ w'.cell? ⟨q, 1, none⟩ = some (.int .i64 2) ∧ w'.cell? ⟨q, 2, none⟩ = some (.int .i64 blk))
      (first | exact hd3 | exact hd2)
      (first | (go_at_call 54; refine HP2.out.mono ?_; rintro e w3 ⟨A3, n3, c3, R3, rfl, hr3, hz3, hS3⟩; have HS3 := Lib.hid hS3; have HR3 := Lib.hid hr3; have hd3 := HCB.out _ _ _ _ hS3 (by simp) (by simp); clear hr3 hS3))
    rename_i hHeld
    clear hHeld hd2 hd3
    have HSM := Lib.hid (l6_same A2 A3 n2 c2 n3 c3 _ _ w3 (HR2.out w3 (fun p hp => HS3.out.kp.all p (by simp [hp]))) (HR3.out w3 (fun p hp => HS3.out.kp.all p (by simp [hp]))))
    rw [decide_eq_true rfl] at HSM
    have HEND := Lib.hid (show ∃ D', SdOk w0 w3 P T (N + 1) D' from ⟨_, SdOk.mk (R := [(q, o)] ++ (R2 ++ R3)) hr (HDL.out.mono (by omega)) (by have := HLL.out; omega) (by have h9 := HS3.out; simp only [List.append_assoc, List.cons_append] at h9 ⊢; exact h9)⟩)
    obtain ⟨c9, hc9⟩ : ∃ c9, c9 = (rwG D blk).2 := ⟨_, rfl⟩
    rw [← hc9] at hz2 ⊢
    clear hc9 hz3 HS3 HR3 HR2 HP1 HP2 HS2
    by_cases h0 : c9 = 0
    · subst h0
      go_wp2_with fail
      refine HSM.out.mono ?_
      rintro e w4 ⟨rfl, rfl⟩
      go_wp2
      go_ret
      exact ⟨rfl, HEND.out⟩
    · have hn2 : n2 = 0 := by omega
      subst hn2
      have h0b : (c9 == 0) = false := by simp [h0]
      go_wp2_with fail
      refine HSM.out.mono ?_
      rintro e w4 ⟨rfl, rfl⟩
      go_wp2
      go_ret
      exact ⟨rfl, HEND.out⟩
  by_cases k5 : kd = 5
  · subst k5
    go_enter Try.func49, Try.ntmps49
    go_wp2_with fail
    rw [← HO.out, ← HQ.out]
    rw [← HQ.out] at hd
    go_region_held3 (fun w' => w'.cell? ⟨P, 0, none⟩ = some (.pointer (some ⟨b, 0, none⟩)) ∧ w'.cell? ⟨P, 1, none⟩ = some (.pointer (some ⟨r, 0, none⟩)) ∧ w'.cell? ⟨q, 1, none⟩ = some (.int .i64 5) ∧ w'.cell? ⟨q, 2, none⟩ = some (.int .i64 blk))
      (first | exact hd4 | exact hd3 | exact hd2 | exact hd)
      (first | (go_at_call 29; refine (l6_sameInts (D := []) (D' := []) (l := nums D.C) (l' := nums D.C) _ ?hq1 ?hq2).mono ?_; (case hq1 => exact HR2.out _ (fun p hp => HS3.out.kp.all p (by simp [hp]))); (case hq2 => exact HR3.out _ (fun p hp => HS3.out.kp.all p (by simp [hp]))); rintro e w4 ⟨rfl, hO4⟩; rw [decide_eq_true rfl]; have HS4 := Lib.hid (HS3.out.below hO4.toB); have hd4 := HCB.out _ _ _ _ HS4.out (by simp) (by simp); clear hO4)
             | (go_at_call 55; refine (rf_PendN hr (T := (((P, sdO b r) :: T) ++ [(q, o)]) ++ R2) (by have h9 := HS2.out; simp only [List.append_assoc] at h9 ⊢; exact h9) (by have := HLL.out; omega)).mono ?_; rintro e w3 ⟨A3, c3, R3, rfl, hr3, hS3⟩; have HS3 := Lib.hid hS3; have HR3 := Lib.hid hr3; have hd3 := HCB.out _ _ _ _ hS3 (by simp) (by simp); clear hr3 hS3)
             | (go_at_call 20; refine (st_PendN (HT.out.drewN 1) (by omega)).mono ?_; rintro e w2 ⟨A2, c2, R2, rfl, hr2, hS2⟩; have HS2 := Lib.hid hS2; have HR2 := Lib.hid hr2; have hd2 := HCB.out _ _ _ _ hS2 (by simp) (by simp); clear hr2 hS2))
    rename_i hHeld
    clear hHeld hd hd2 hd3 hd4
    go_wp2
    go_ret
    exact ⟨rfl, _, SdOk.mk (R := [(q, o)] ++ (R2 ++ R3)) hr (HDL.out.mono (by omega)) (by have := HLL.out; omega) (by have h9 := HS4.out; simp only [List.append_assoc, List.cons_append] at h9 ⊢; exact h9)⟩
  by_cases k7 : kd = 7
  · subst k7
    go_enter Try.func49, Try.ntmps49
    go_wp2_with fail
    rw [← HO.out, ← HQ.out]
    rw [← HQ.out] at hd
    have HP1 := Lib.hid (st_DownG (HT.out.drewN 1))
    have HP2 := Lib.hid (rf_Down hr (HT.out.drewN 1))
    go_region_held3 (fun w' => w'.cell? ⟨P, 0, none⟩ = some (.pointer (some ⟨b, 0, none⟩)) ∧ w'.cell? ⟨P, 1, none⟩ = some (.pointer (some ⟨r, 0, none⟩)) ∧ w'.cell? ⟨q, 1, none⟩ = some (.int .i64 7) ∧ w'.cell? ⟨q, 2, none⟩ = some (.int .i64 blk))
      (first | exact hd)
      (first | (go_at_call 56; refine HP2.out.mono ?_; rintro e w3 ⟨rfl, rfl⟩)
             | (go_at_call 26; refine HP1.out.mono ?_; rintro e w2 ⟨rfl, rfl⟩))
    rename_i hHeld
    clear hHeld hd HP1 HP2
    go_wp2
    go_ret
    exact ⟨by simp, _, SdOk.mk (R := [(q, o)]) hr (HDL.out.mono (by omega)) (by have := HLL.out; omega) (HT.out.drewN 1)⟩
  by_cases k10 : kd = 10
  · subst k10
    go_enter Try.func49, Try.ntmps49
    go_wp2_with fail
    rw [← HO.out, ← HQ.out]
    rw [← HQ.out] at hd
    go_region_held3 (fun w' => w'.cell? ⟨P, 0, none⟩ = some (.pointer (some ⟨b, 0, none⟩)) ∧ w'.cell? ⟨P, 1, none⟩ = some (.pointer (some ⟨r, 0, none⟩)) ∧ w'.cell? ⟨q, 1, none⟩ = some (.int .i64 10) ∧ w'.cell? ⟨q, 2, none⟩ = some (.int .i64 blk))
      (first | exact hd3 | exact hd2 | exact hd)
      (first | (go_at_call 17; refine (l6_same _ _ _ _ _ _ D.M D.M _ ?hq1 ?hq2).mono ?_; (case hq1 => exact HR2.out _ (fun p hp => HS3.out.kp.all p (by simp [hp]))); (case hq2 => exact HR3.out _ (fun p hp => HS3.out.kp.all p (by simp [hp]))); rintro e w4 ⟨rfl, rfl⟩; rw [decide_eq_true rfl])
             | (go_at_call 48; refine (rf_MediumG hr (T := (((P, sdO b r) :: T) ++ [(q, o)]) ++ R2) (by have h9 := HS2.out; simp only [List.append_assoc] at h9 ⊢; exact h9) (by have := HLL.out; omega)).mono ?_; rintro e w3 ⟨A3, c3, R3, rfl, hr3, hS3⟩; have HS3 := Lib.hid hS3; have HR3 := Lib.hid hr3; have hd3 := HCB.out _ _ _ _ hS3 (by simp) (by simp); clear hr3 hS3)
             | (go_at_call 23; refine (st_MediumG (HT.out.drewN 1)).mono ?_; rintro e w2 ⟨A2, c2, R2, rfl, hr2, hS2⟩; have HS2 := Lib.hid hS2; have HR2 := Lib.hid hr2; have hd2 := HCB.out _ _ _ _ hS2 (by simp) (by simp); clear hr2 hS2))
    rename_i hHeld
    clear hHeld hd hd2 hd3
    go_wp2
    go_ret
    exact ⟨rfl, _, SdOk.mk (R := [(q, o)] ++ (R2 ++ R3)) hr (HDL.out.mono (by omega)) (by have := HLL.out; omega) (by have h9 := HS3.out; simp only [List.append_assoc, List.cons_append] at h9 ⊢; exact h9)⟩
  by_cases k11 : kd = 11
  · subst k11
    go_enter Try.func49, Try.ntmps49
    go_wp2_with fail
    rw [← HO.out, ← HQ.out]
    rw [← HQ.out] at hd
    go_region_held3 (fun w' => w'.cell? ⟨P, 0, none⟩ = some (.pointer (some ⟨b, 0, none⟩)) ∧ w'.cell? ⟨P, 1, none⟩ = some (.pointer (some ⟨r, 0, none⟩)) ∧ w'.cell? ⟨q, 1, none⟩ = some (.int .i64 11) ∧ w'.cell? ⟨q, 2, none⟩ = some (.int .i64 blk))
      (first | exact hd3 | exact hd2 | exact hd)
      (first | (go_at_call 58; refine (rf_Blocks hr HS3.out).mono ?_; rintro e w5 ⟨rfl, rfl⟩)
             | (go_at_call 12; refine (dv_BlocksV _ b g v D HS3.out.dv).mono ?_; rintro e w4 ⟨rfl, rfl⟩)
             | (go_at_call 57; refine (rf_CountsG hr HS2.out).mono ?_; rintro e w3 ⟨rfl, hS3⟩; unfold cntV; have HS3 := Lib.hid hS3; have hd3 := HCB.out _ _ _ _ hS3 (by simp) (by simp); clear hS3)
             | (go_at_call 28; refine (st_CountsG (HT.out.drewN 1)).mono ?_; rintro e w2 ⟨rfl, hS2⟩; unfold cntV; have HS2 := Lib.hid hS2; have hd2 := HCB.out _ _ _ _ hS2 (by simp) (by simp); clear hS2))
    rename_i hHeld
    clear hHeld hd hd2 hd3
    go_wp2
    go_ret
    exact ⟨by simp, _, SdOk.mk (R := [(q, o)]) hr (HDL.out.mono (by omega)) (by have := HLL.out; omega) HS3.out⟩
  have e1 : (kd == 1) = false := by simp [k1]
  have e2 : (kd == 2) = false := by simp [k2]
  have e5 : (kd == 5) = false := by simp [k5]
  have e7 : (kd == 7) = false := by simp [k7]
  have e10 : (kd == 10) = false := by simp [k10]
  have e11 : (kd == 11) = false := by simp [k11]
  have HEND := Lib.hid (show ∃ D', SdOk w0 (w.alloc o) P T (N + 1) D' from ⟨_, SdOk.mk (R := [(q, o)]) hr (HDL.out.mono (by omega)) (by have := HLL.out; omega) HT.out⟩)
  rw [HO.out] at HEND
  clear hd k1 k2 k5 k7 k10 k11
  go_enter Try.func49, Try.ntmps49
  go_wp2
  go_ret
  exact ⟨rfl, HEND.out⟩
end Go.Proofs.Ytjbffahmjhbpjaa
/- The laws' helper plays: a step on both devices. -/
set_option linter.unusedVariables false
set_option linter.unusedSimpArgs false
set_option maxRecDepth 100000
namespace Go.Proofs.Ytjbffahmjhbpjaa
open Go.RowKit
theorem RdF.heapEq {w W : World} {A : Option Addr} {n c : Nat} {l : List Ft} (h : RdF w A n c l) (hk : 0 < n → ∀ p, A = some p → W.heap[p.block]? = w.heap[p.block]?) : RdF W A n c l :=
  ⟨h.len, h.cap, h.max, fun hn => by
    obtain ⟨b, o, e, hc⟩ := h.at_ hn
    have h2 := hk hn _ e
    exact ⟨b, o, e, fun j hj => ⟨(World.cell?_of_block (w := w) (a := ⟨b, o + j * 2, none⟩) h2).trans (hc j hj).1, (World.cell?_of_block (w := w) (a := ⟨b, o + j * 2 + 1, none⟩) h2).trans (hc j hj).2⟩⟩⟩
section
variable {w0 w w' : World} {b g : Nat} {vc : Value} {D : DS} {R : List (Nat × Obj)}
/-- bytes just made, none or some: R1 holds their row -/
theorem St.newG {n : Nat} {u : Value} {l : List UInt8} (h : St w0 w b g vc D R) (hO : Own w' w.heap.size u n l) (hb : Below w.heap.size w w') (hm : n ≤ 140737490452480) : ∃ A c R1, u = .slice A n c ∧ (∀ W : World, (∀ p ∈ R1, W.heap[p.1]? = some p.2) → Rd W A n c l) ∧ (0 < n → ∀ p, A = some p → ∃ o, (p.block, o) ∈ R1) ∧ St w0 w' b g vc D (R ++ R1) := by
  rcases Nat.eq_zero_or_pos n with h0 | hp
  · subst h0
    have hl0 : l = [] := List.eq_nil_of_length_eq_zero hO.len
    subst hl0
    obtain ⟨A, c, rfl, hR⟩ := hO.rd (by omega)
    exact ⟨A, c, [], rfl, fun W _ => ⟨rfl, hR.cap, hR.max, fun hp => absurd hp (by omega)⟩, fun hp => absurd hp (by omega), (h.below hb).app0⟩
  · obtain ⟨k, c, o, rfl, hr, hS⟩ := h.newB hO hb hp
    exact ⟨_, c, [(k, o)], rfl, row_rd hr hm, fun _ p hp => by injection hp with hp; subst hp; exact ⟨o, by simp⟩, hS.back⟩
theorem St.newF {n c : Nat} {A : Option Addr} {l : List Ft} (h : St w0 w b g vc D R) (hF : RdF w' A n c l) (hb : Below w.heap.size w w') (hx : ∀ p, A = some p → w.heap.size ≤ p.block) : ∃ R1, (∀ W : World, (∀ p ∈ R1, W.heap[p.1]? = some p.2) → RdF W A n c l) ∧ (0 < n → ∀ p, A = some p → ∃ o, (p.block, o) ∈ R1) ∧ St w0 w' b g vc D (R ++ R1) := by
  rcases Nat.eq_zero_or_pos n with h0 | hp
  · subst h0
    exact ⟨[], fun W _ => hF.heapEq (fun hp => absurd hp (by omega)), fun hp => absurd hp (by omega), (h.below hb).app0⟩
  · obtain ⟨k, o, rfl, hc⟩ := hF.at_ hp
    have hlt := World.block_lt_of_cell? w' _ (hc 0 hp).1
    have he : w'.heap[k]? = some (w'.heap[k]'hlt) := Array.getElem?_eq_getElem hlt
    exact ⟨[(k, w'.heap[k]'hlt)], fun W hW => hF.heapEq (fun _ p hp => by injection hp with hp; subst hp; exact (hW (k, w'.heap[k]'hlt) (by simp)).trans he.symm), fun _ p hp => by injection hp with hp; subst hp; exact ⟨_, by simp; rfl⟩, (h.new hb (hx _ rfl) he).back⟩
theorem St.hxG {n : Nat} {A : Option Addr} {R1 : List (Nat × Obj)} (h : St w0 w b g vc D R) (hk : 0 < n → ∀ p, A = some p → ∃ o, (p.block, o) ∈ R1) (hs : ∀ p ∈ R1, p ∈ R) : 0 < n → ∀ p, A = some p → p.block ∉ dvS b g vc := fun hn p hp => by
  obtain ⟨o, ho⟩ := hk hn p hp
  exact h.kp.out _ (hs _ ho)
theorem st_WriteG (num : Int) (A : Option Addr) (m c : Nat) (L : List UInt8) (h : St w0 w b g vc D R) (hr : Rd w A m c L) (hx : 0 < m → ∀ p, A = some p → p.block ∉ dvS b g vc) (hl : D.left < 9223372036854775808) (hq : D.C.length ≤ 100000000000) (hwr : D.wr < 9223372036854775807) :
    Calls Try.prog 16 #[.pointer (some ⟨b, 0, none⟩), .int .i64 num, .slice A m c] w fun e w' => e = .returned (.int .i64 (wrD D num L).1) ∧ ∃ vc', St w0 w' b g vc' (wrD D num L).2 R := by
  refine (dv_Write w b g vc D num A m c L h.dv hr hx hl hq hwr).mono ?_
  rintro e w' ⟨rfl, vc', hV, hF⟩
  exact ⟨rfl, vc', h.fr hV hF⟩
theorem st_EditG (num at_ : Int) (A : Option Addr) (m c : Nat) (L : List UInt8) (h : St w0 w b g vc D R) (hr : Rd w A m c L) (hat : -9223372036854775808 ≤ at_ ∧ at_ < 9223372036854775808) :
    Calls Try.prog 18 #[.pointer (some ⟨b, 0, none⟩), .int .i64 num, .int .i64 at_, .slice A m c] w fun e w' => e = .returned (.int .i64 (edD D num at_ L).1) ∧ St w0 w' b g vc (edD D num at_ L).2 R := by
  refine (dv_Edit w b g vc D num at_ A m c L h.dv hr hat).mono ?_
  rintro e w' ⟨rfl, hV, hF⟩
  exact ⟨rfl, h.fr hV hF⟩
/-- Of: a new device's blocks as rows -/
theorem st_OfG {n c : Nat} {A : Option Addr} {L : List UInt8} (h : St w0 w b g vc D R) (hr : Rd w A n c L) (hb : OfOk n) :
    Calls Try.prog 13 #[.slice A n c] w fun e w' => ∃ b2 g2 Rn, e = .returned (.tuple #[.pointer (some ⟨b2, 0, none⟩), .int .i64 0]) ∧ DvR b2 g2 (.slice none 0 0) ⟨n / 512, L, [], 0, false, false, 0, 0, 0⟩ Rn ∧ St w0 w' b g vc D (R ++ Rn) := by
  refine (dv_Of_ok A n c L w hr hb).mono ?_
  rintro e w' ⟨rfl, hD, hbl⟩
  have hV : IsV w' (w.heap.size + 1) w.heap.size (.slice none 0 0) ⟨n / 512, L, [], 0, false, false, 0, 0, 0⟩ := ⟨hD, ⟨PdOk.nil _, World.ownsRow_nil _ _ _ _⟩, fun k hk => by cases hk⟩
  have h2 : St w w' (w.heap.size + 1) w.heap.size (.slice none 0 0) ⟨n / 512, L, [], 0, false, false, 0, 0, 0⟩ [] := St.of hV (fun s hs => by
    simp only [dvS, Value.ownBlock, Option.toList_none, List.mem_cons, List.not_mem_nil, or_false] at hs
    omega) hbl
  obtain ⟨Rn, h3, h4⟩ := h.join h2
  rw [List.append_nil] at h4
  exact ⟨_, _, Rn, rfl, h3, h4⟩
end
theorem perm_of {α : Type} (A B : List α) (p : α) (T : List α) (x : α) (R2 R3 R4 : List α) : (A ++ (B ++ (((((p :: T) ++ [x]) ++ R2) ++ R3) ++ R4))).Perm (p :: (R3 ++ ((A ++ T) ++ (B ++ ([x] ++ (R2 ++ R4)))))) := by
  classical
  rw [List.perm_iff_count]
  intro a
  simp only [List.count_append, List.count_cons, List.count_nil]
  omega
theorem perm_of2 {α : Type} (p : α) (R3 A T Z : List α) : (p :: (R3 ++ ((A ++ T) ++ Z))).Perm (R3 ++ (A ++ ((p :: T) ++ Z))) := by
  classical
  rw [List.perm_iff_count]
  intro a
  simp only [List.count_append, List.count_cons, List.count_nil]
  omega
theorem sdCells8 {W : World} {P b r q : Nat} {two : Bool} {kd blk num len : Int} {fill : UInt8} {B : List UInt8} {F : List Ft} {vB vF : Value} (hP : W.heap[P]? = some (sdO b r)) (h : W.heap[q]? = some (opO ⟨two, kd, blk, num, len, fill, B, F⟩ vB vF)) :
    W.cell? ⟨P, 0, none⟩ = some (.pointer (some ⟨b, 0, none⟩)) ∧ W.cell? ⟨P, 1, none⟩ = some (.pointer (some ⟨r, 0, none⟩)) ∧ W.cell? ⟨q, 0, none⟩ = some (.bool two) ∧ W.cell? ⟨q, 1, none⟩ = some (.int .i64 kd) ∧ W.cell? ⟨q, 2, none⟩ = some (.int .i64 blk) ∧ W.cell? ⟨q, 3, none⟩ = some (.int .i64 num) ∧ W.cell? ⟨q, 4, none⟩ = some (.int .i64 len) ∧ W.cell? ⟨q, 5, none⟩ = some (.int .u8 (fill.toNat : Int)) ∧ W.cell? ⟨q, 6, none⟩ = some vB ∧ W.cell? ⟨q, 7, none⟩ = some vF := by
  have hc := opCells h
  exact ⟨cell_of_row W P 0 _ _ _ hP, cell_of_row W P 1 _ _ _ hP, hc⟩
set_option maxHeartbeats 8000000 in
theorem l6_plays {w0 w : World} {P N : Nat} {T : List (Nat × Obj)} {D : DS} (x : OpD) (AB AF : Option Addr) (nB cB nF cF : Nat) (h : SdOk w0 w P T N D) (hx : x.ok) (hN : N ≤ 50000000) (hB : Rd w0 AB nB cB x.B) (hF : RdF w0 AF nF cF x.F) :
    Calls Try.prog 32 #[.pointer (some ⟨P, 0, none⟩), .agg (opC x (.slice AB nB cB) (.slice AF nF cF))] w fun e w' => e = .returned (.bool true) ∧ ∃ D', SdOk w0 w' P T (N + 1) D' := by
  obtain ⟨two, kd, blk, num, len, fill, B, F⟩ := x
  have HX := Lib.hid hx
  have hBl := hB.len
  have hBm : nB ≤ 140737488351232 := by have h9 : B.length ≤ 140737488351232 := hx.2.2.2.2.1; have h8 : B.length = nB := hBl; omega
  have hFl := hF.len
  have hFm : nF ≤ 8796093022207 := by have h9 : F.length ≤ 8796093022207 := hx.2.2.2.2.2; have h8 : F.length = nF := hFl; omega
  have HNB := Lib.hid hx.2.2.1
  have HSD := Lib.hid h
  obtain ⟨b, g, v, r, hr, hl, hL, hS⟩ := h
  obtain ⟨q, hq⟩ : ∃ q, q = w.heap.size := ⟨_, rfl⟩
  obtain ⟨o, ho⟩ : ∃ o, o = opO ⟨two, kd, blk, num, len, fill, B, F⟩ (.slice AB nB cB) (.slice AF nF cF) := ⟨_, rfl⟩
  have hB0 := (Below.refl _ w).alloc (Nat.le_refl _) o
  have hHT : St w0 (w.alloc o) b g v D (hr.rows ++ (((P, sdO b r) :: T) ++ [(q, o)])) := by rw [hq]; exact assocT (hS.new hB0 (Nat.le_refl _) (heap_alloc_new w o)).back
  have HCB := Lib.hid (show ∀ (W : World) (v' : Value) (D' : DS) (X : List (Nat × Obj)), St w0 W b g v' D' X → (P, sdO b r) ∈ X → (q, o) ∈ X → W.cell? ⟨P, 0, none⟩ = some (.pointer (some ⟨b, 0, none⟩)) ∧ W.cell? ⟨P, 1, none⟩ = some (.pointer (some ⟨r, 0, none⟩)) ∧ W.cell? ⟨q, 0, none⟩ = some (.bool two) ∧ W.cell? ⟨q, 1, none⟩ = some (.int .i64 kd) ∧ W.cell? ⟨q, 2, none⟩ = some (.int .i64 blk) ∧ W.cell? ⟨q, 3, none⟩ = some (.int .i64 num) ∧ W.cell? ⟨q, 4, none⟩ = some (.int .i64 len) ∧ W.cell? ⟨q, 5, none⟩ = some (.int .u8 (fill.toNat : Int)) ∧ W.cell? ⟨q, 6, none⟩ = some (.slice AB nB cB) ∧ W.cell? ⟨q, 7, none⟩ = some (.slice AF nF cF) from fun W v' D' X h h1 h2 => by
    have h9 := h.mem h2
    rw [ho] at h9
    exact sdCells8 (h.mem h1) h9)
  have hd := HCB.out _ _ _ _ hHT (by simp) (by simp)
  have HT := Lib.hid hHT
  have HDL := Lib.hid hl
  have HLL := Lib.hid hL
  have HB := Lib.hid hB
  have HF := Lib.hid hF
  have hC1 : D.C.length ≤ N := hl.ca
  have HLF := Lib.hid hl.left
  have hRD := hl.wr
  have hFLN := hl.fl
  have hoo : o = .cells #[.bool two, .int .i64 kd, .int .i64 blk, .int .i64 num, .int .i64 len, .int .u8 (fill.toNat : Int), .slice AB nB cB, .slice AF nF cF] 48 := ho
  have HO := Lib.hid hoo
  have HQ := Lib.hid hq
  rw [show Value.agg (opC ⟨two, kd, blk, num, len, fill, B, F⟩ (.slice AB nB cB) (.slice AF nF cF)) = .agg #[.bool two, .int .i64 kd, .int .i64 blk, .int .i64 num, .int .i64 len, .int .u8 (fill.toNat : Int), .slice AB nB cB, .slice AF nF cF] from rfl]
  have HPL := Lib.hid (plD_le ⟨two, kd, blk, num, len, fill, B, F⟩ hx hl)
  rw [hq] at hd
  clear hl hL hS hB0 hHT ho hoo hq hx hBl hFl hB hF
  by_cases k3 : kd = 3
  · subst k3
    obtain ⟨L, hL⟩ : ∃ L, L = blkL (opN ⟨two, 3, blk, num, len, fill, B, F⟩) fill := ⟨_, rfl⟩
    obtain ⟨M, hM⟩ : ∃ M, M = opN ⟨two, 3, blk, num, len, fill, B, F⟩ := ⟨_, rfl⟩
    have hMb : M < 1024 := by rw [hM]; unfold opN; omega
    have HLE := Lib.hid (show (wrD D blk L).2.le (N + 1) by rw [hL]; exact HPL.out)
    have HBK := Lib.hid (fun W => l6_block W ⟨two, 3, blk, num, len, fill, B, F⟩ (.slice AB nB cB) (.slice AF nF cF))
    rw [show (⟨two, 3, blk, num, len, fill, B, F⟩ : OpD).fill = fill from rfl, ← hM] at HBK
    rw [← hM] at hL
    rw [← hL] at HBK
    clear hM
    go_enter Try.func32, Try.ntmps32
    go_wp2_with fail
    rw [← HO.out, ← HQ.out]
    rw [← HQ.out] at hd
    refine (HBK.out _).mono ?_
    rintro e w2 ⟨u2, rfl, hO2, hB2⟩
    obtain ⟨A2, c2, R2, rfl, hr2, hx2, hS2⟩ := HT.out.newG hO2 hB2 (by omega)
    have HS2 := Lib.hid hS2
    have HR2 := Lib.hid hr2
    have HX2 := Lib.hid hx2
    have hd2 := HCB.out _ _ _ _ hS2 (by simp) (by simp)
    clear hO2 hB2 hr2 hx2 hS2 hd
    go_wp2_with fail
    refine (HBK.out _).mono ?_
    rintro e w3 ⟨u3, rfl, hO3, hB3⟩
    obtain ⟨A3, c3, R3, rfl, hr3, hx3, hS3⟩ := HS2.out.newG hO3 hB3 (by omega)
    have HS3 := Lib.hid hS3
    have HR3 := Lib.hid hr3
    have hd3 := HCB.out _ _ _ _ hS3 (by simp) (by simp)
    have HW4 := Lib.hid (st_WriteG blk A2 M c2 L (HS3.out.drewN 1) (HR2.out _ (fun p hp => (HS3.out.drewN 1).kp.all p (by simp [hp]))) ((HS3.out.drewN 1).hxG HX2.out (fun p hp => by simp [hp])) HLF.out (by omega) (by omega))
    clear hO3 hB3 hr3 hx3 hS3 hd2
    obtain ⟨E, hE⟩ : ∃ E, E = (wrD D blk L).1 := ⟨_, rfl⟩
    rw [← hE] at HW4
    have HE := Lib.hid hE
    clear hE
    go_wp2_with fail
    go_region_held3 (fun w' => w'.cell? ⟨P, 0, none⟩ = some (.pointer (some ⟨b, 0, none⟩)) ∧ w'.cell? ⟨P, 1, none⟩ = some (.pointer (some ⟨r, 0, none⟩)) ∧ w'.cell? ⟨q, 0, none⟩ = some (.bool two) ∧ w'.cell? ⟨q, 1, none⟩ = some (.int .i64 3) ∧ w'.cell? ⟨q, 2, none⟩ = some (.int .i64 blk) ∧ w'.cell? ⟨q, 3, none⟩ = some (.int .i64 num) ∧ w'.cell? ⟨q, 4, none⟩ = some (.int .i64 len) ∧ w'.cell? ⟨q, 5, none⟩ = some (.int .u8 (fill.toNat : Int)) ∧ w'.cell? ⟨q, 6, none⟩ = some (.slice AB nB cB) ∧ w'.cell? ⟨q, 7, none⟩ = some (.slice AF nF cF))
      (first | exact hd4 | exact hd3)
      (first | (go_at_call 16; refine HW4.out.mono ?_; rintro e w4 ⟨rfl, v4, hS4⟩; have HS4 := Lib.hid hS4; have hd4 := HCB.out _ _ _ _ hS4 (by simp) (by simp); clear hS4))
    rename_i hHeld
    clear hHeld hd3
    go_wp2_with fail
    have HW5 := Lib.hid (rf_Write blk A3 M c3 L hr (T := ((((P, sdO b r) :: T) ++ [(q, o)]) ++ R2) ++ R3) (by have h9 := HS4.out.drewN 1; simp only [List.append_assoc, List.cons_append] at h9 ⊢; exact h9) (fun W _ hW => HR3.out W (fun p hp => hW p (by simp [hp]))) HLF.out (by have := HLL.out; omega) (by omega))
    rw [← HE.out] at HW5
    go_region_held3 (fun w' => w'.cell? ⟨P, 0, none⟩ = some (.pointer (some ⟨b, 0, none⟩)) ∧ w'.cell? ⟨P, 1, none⟩ = some (.pointer (some ⟨r, 0, none⟩)) ∧ w'.cell? ⟨q, 0, none⟩ = some (.bool two) ∧ w'.cell? ⟨q, 1, none⟩ = some (.int .i64 3) ∧ w'.cell? ⟨q, 2, none⟩ = some (.int .i64 blk) ∧ w'.cell? ⟨q, 3, none⟩ = some (.int .i64 num) ∧ w'.cell? ⟨q, 4, none⟩ = some (.int .i64 len) ∧ w'.cell? ⟨q, 5, none⟩ = some (.int .u8 (fill.toNat : Int)) ∧ w'.cell? ⟨q, 6, none⟩ = some (.slice AB nB cB) ∧ w'.cell? ⟨q, 7, none⟩ = some (.slice AF nF cF))
      (first | exact hd5 | exact hd4)
      (first | (go_at_call 17; refine (l6_same _ _ _ _ _ _ L L _ ?hq1 ?hq2).mono ?_; (case hq1 => exact HR2.out _ (fun p hp => HS5.out.kp.all p (by simp [hp]))); (case hq2 => exact HR3.out _ (fun p hp => HS5.out.kp.all p (by simp [hp]))); rintro e w6 ⟨rfl, rfl⟩; rw [decide_eq_true rfl])
             | (go_at_call 42; refine HW5.out.mono ?_; rintro e w5 ⟨rfl, h', hL5, hC5, hS5⟩; have HS5 := Lib.hid hS5; have hd5 := HCB.out _ _ _ _ hS5 (by simp) (by simp); clear hS5))
    rename_i hHeld
    clear hHeld hd4 hd5
    go_wp2
    go_ret
    exact ⟨by simp, _, SdOk.mk (R := [(q, o)] ++ (R2 ++ R3)) h' HLE.out (by have := HLL.out; rw [hL5]; omega) (by have h9 := HS5.out; simp only [List.append_assoc, List.cons_append] at h9 ⊢; exact h9)⟩
  by_cases k4 : kd = 4
  · subst k4
    have HLE := Lib.hid (show (flD D).2.le (N + 1) from HPL.out)
    have HF2 := Lib.hid (st_Flush (HT.out.drewN 1) HLF.out (by omega) (by omega))
    obtain ⟨E, hE⟩ : ∃ E, E = (flD D).1 := ⟨_, rfl⟩
    rw [← hE] at HF2
    have HE := Lib.hid hE
    clear hE
    go_enter Try.func32, Try.ntmps32
    go_wp2_with fail
    rw [← HO.out, ← HQ.out]
    rw [← HQ.out] at hd
    go_region_held3 (fun w' => w'.cell? ⟨P, 0, none⟩ = some (.pointer (some ⟨b, 0, none⟩)) ∧ w'.cell? ⟨P, 1, none⟩ = some (.pointer (some ⟨r, 0, none⟩)) ∧ w'.cell? ⟨q, 0, none⟩ = some (.bool two) ∧ w'.cell? ⟨q, 1, none⟩ = some (.int .i64 4) ∧ w'.cell? ⟨q, 2, none⟩ = some (.int .i64 blk) ∧ w'.cell? ⟨q, 3, none⟩ = some (.int .i64 num) ∧ w'.cell? ⟨q, 4, none⟩ = some (.int .i64 len) ∧ w'.cell? ⟨q, 5, none⟩ = some (.int .u8 (fill.toNat : Int)) ∧ w'.cell? ⟨q, 6, none⟩ = some (.slice AB nB cB) ∧ w'.cell? ⟨q, 7, none⟩ = some (.slice AF nF cF))
      (first | exact hd3 | exact hd2 | exact hd)
      (first | (go_at_call 43; refine (rf_Flush hr HS2.out HLF.out (by have := HLL.out; omega) (by have := HLL.out; omega) (by omega)).mono ?_; rw [← HE.out]; rintro e w3 ⟨rfl, h', hL3, hS3⟩; have HS3 := Lib.hid hS3; have hd3 := HCB.out _ _ _ _ hS3 (by simp) (by simp); clear hS3)
             | (go_at_call 21; refine HF2.out.mono ?_; rintro e w2 ⟨rfl, v2, hS2⟩; have HS2 := Lib.hid hS2; have hd2 := HCB.out _ _ _ _ hS2 (by simp) (by simp); clear hS2))
    rename_i hHeld
    clear hHeld hd hd2 hd3
    go_wp2
    go_ret
    exact ⟨by simp, _, SdOk.mk (R := [(q, o)]) h' HLE.out (by have := HLL.out; omega) (by have h9 := HS3.out; simp only [List.append_assoc, List.cons_append] at h9 ⊢; exact h9)⟩
  by_cases k6 : kd = 6
  · subst k6
    have HLE := Lib.hid (show (armD D num).2.le (N + 1) from HPL.out)
    have HF2 := Lib.hid (st_Arm num (HT.out.drewN 1))
    obtain ⟨E, hE⟩ : ∃ E, E = (armD D num).1 := ⟨_, rfl⟩
    rw [← hE] at HF2
    have HE := Lib.hid hE
    clear hE
    go_enter Try.func32, Try.ntmps32
    go_wp2_with fail
    rw [← HO.out, ← HQ.out]
    rw [← HQ.out] at hd
    go_region_held3 (fun w' => w'.cell? ⟨P, 0, none⟩ = some (.pointer (some ⟨b, 0, none⟩)) ∧ w'.cell? ⟨P, 1, none⟩ = some (.pointer (some ⟨r, 0, none⟩)) ∧ w'.cell? ⟨q, 0, none⟩ = some (.bool two) ∧ w'.cell? ⟨q, 1, none⟩ = some (.int .i64 6) ∧ w'.cell? ⟨q, 2, none⟩ = some (.int .i64 blk) ∧ w'.cell? ⟨q, 3, none⟩ = some (.int .i64 num) ∧ w'.cell? ⟨q, 4, none⟩ = some (.int .i64 len) ∧ w'.cell? ⟨q, 5, none⟩ = some (.int .u8 (fill.toNat : Int)) ∧ w'.cell? ⟨q, 6, none⟩ = some (.slice AB nB cB) ∧ w'.cell? ⟨q, 7, none⟩ = some (.slice AF nF cF))
      (first | exact hd3 | exact hd2 | exact hd)
      (first | (go_at_call 44; refine (rf_Arm num hr HS2.out).mono ?_; rw [← HE.out]; rintro e w3 ⟨rfl, h', hL3, hS3⟩; have HS3 := Lib.hid hS3; have hd3 := HCB.out _ _ _ _ hS3 (by simp) (by simp); clear hS3)
             | (go_at_call 30; refine HF2.out.mono ?_; rintro e w2 ⟨rfl, hS2⟩; have HS2 := Lib.hid hS2; have hd2 := HCB.out _ _ _ _ hS2 (by simp) (by simp); clear hS2))
    rename_i hHeld
    clear hHeld hd hd2 hd3
    go_wp2
    go_ret
    exact ⟨by simp, _, SdOk.mk (R := [(q, o)]) h' HLE.out (by have := HLL.out; rw [hL3.1, hL3.2]; omega) (by have h9 := HS3.out; simp only [List.append_assoc, List.cons_append] at h9 ⊢; exact h9)⟩
  by_cases k8 : kd = 8
  · subst k8
    have HLE := Lib.hid (show (crD D F).le (N + 1) from HPL.out)
    have HF1 := Lib.hid (HF.out.ext HT.out.bl)
    go_enter Try.func32, Try.ntmps32
    go_wp2_with (rw [← HO.out]; at_builtin; refine wp_appF HF1.out hFm _ _ rfl rfl rfl rfl ?_; intro A2 c2 w2 hR2 hB2 hx2; obtain ⟨R2, hr2, hxx2, hS2⟩ := HT.out.newF hR2 hB2 hx2; have HS2 := Lib.hid hS2; have HR2 := Lib.hid hr2; have hd2 := HCB.out _ _ _ _ hS2 (by simp) (by simp); have HC2 := Lib.hid (st_Crash nF c2 A2 F hS2 (by omega) (hr2 w2 (fun p hp => hS2.kp.all p (by simp [hp]))) (hS2.hxG hxx2 (fun p hp => by simp [hp]))); rw [HQ.out] at hd2; clear hR2 hB2 hx2 hr2 hxx2 hS2 hd)
    refine HC2.out.mono ?_
    rintro e w3 ⟨rfl, v3, hS3⟩
    have HS3 := Lib.hid hS3
    have hd3 := HCB.out _ _ _ _ hS3 (by simp) (by simp)
    have HC4 := Lib.hid (rf_Crash AF nF cF F hr (T := (((P, sdO b r) :: T) ++ [(q, o)]) ++ R2) (by have h9 := HS3.out.drewN 1; simp only [List.append_assoc, List.cons_append] at h9 ⊢; exact h9) (fun W hW _ => HF.out.ext hW) (by have := HLL.out; omega) (by have := HLL.out; omega))
    obtain ⟨E, hE⟩ : ∃ E : Int, E = (crT F D.C.length : Nat) := ⟨_, rfl⟩
    rw [← hE] at HC4 ⊢
    rw [HQ.out] at hd3
    clear hS3 hd2 hE
    go_wp2_with fail
    rw [← HQ.out]
    rw [← HQ.out] at hd3
    go_region_held3 (fun w' => w'.cell? ⟨P, 0, none⟩ = some (.pointer (some ⟨b, 0, none⟩)) ∧ w'.cell? ⟨P, 1, none⟩ = some (.pointer (some ⟨r, 0, none⟩)) ∧ w'.cell? ⟨q, 0, none⟩ = some (.bool two) ∧ w'.cell? ⟨q, 1, none⟩ = some (.int .i64 8) ∧ w'.cell? ⟨q, 2, none⟩ = some (.int .i64 blk) ∧ w'.cell? ⟨q, 3, none⟩ = some (.int .i64 num) ∧ w'.cell? ⟨q, 4, none⟩ = some (.int .i64 len) ∧ w'.cell? ⟨q, 5, none⟩ = some (.int .u8 (fill.toNat : Int)) ∧ w'.cell? ⟨q, 6, none⟩ = some (.slice AB nB cB) ∧ w'.cell? ⟨q, 7, none⟩ = some (.slice AF nF cF))
      (first | exact hd4 | exact hd3)
      (first | (go_at_call 45; refine HC4.out.mono ?_; rintro e w4 ⟨rfl, h', hL4, hC4, hS4⟩; have HS4 := Lib.hid hS4; have hd4 := HCB.out _ _ _ _ hS4 (by simp) (by simp); clear hS4))
    rename_i hHeld
    clear hHeld hd3
    have HLN := Lib.hid (show h'.L.length + h'.C.length ≤ N + 1 by have := HLL.out; rw [hC4, List.length_nil]; omega)
    clear hL4 hC4
    go_wp2_with fail
    go_loopw [10] (fun x wx => ∃ i : Nat, i ≤ nF ∧ x = .int .i64 i ∧ St w0 wx b g v3 (crD D F) (h'.rows ++ ((((P, sdO b r) :: T) ++ [(q, o)]) ++ R2))) (fun x _ => nF - (intOf x).toNat)
    case atStart => exact ⟨0, by omega, rfl, HS4.out⟩
    case round =>
      obtain ⟨i, hi, rfl, hSi⟩ := hrel
      have HSi := Lib.hid hSi
      have hdi := HCB.out _ _ _ _ hSi (by simp) (by simp)
      by_cases hin : i < nF
      · have hli : (0 : Int) ≤ (i : Int) ∧ (i : Int) < (nF : Int) := by omega
        obtain ⟨bf, of, rfl, hcf⟩ := (HF.out.ext hSi.bl).at_ (by omega)
        obtain ⟨b2, o2, rfl, hc2⟩ := (HR2.out wr (fun p hp => hSi.kp.all p (by simp [hp]))).at_ (by omega)
        obtain ⟨f1, f2⟩ := hcf i hin
        obtain ⟨f3, f4⟩ := hc2 i hin
        obtain ⟨fk, hfk⟩ : ∃ fk, fk = (F.getD i default).kind := ⟨_, rfl⟩
        obtain ⟨fa, hfa⟩ : ∃ fa, fa = (F.getD i default).at_ := ⟨_, rfl⟩
        rw [← hfk] at f1 f3
        rw [← hfa] at f2 f4
        clear hcf hc2 hfk hfa hSi hd4
        go_wp2_with fail
        go_region_held3 (fun w' => w'.cell? ⟨q, 7, none⟩ = some (.slice (some ⟨bf, of, none⟩) nF cF) ∧ w'.cell? ⟨bf, of + i * 2, none⟩ = some (.int .i64 fk) ∧ w'.cell? ⟨bf, of + i * 2 + 1, none⟩ = some (.int .i64 fa) ∧ w'.cell? ⟨b2, o2 + i * 2, none⟩ = some (.int .i64 fk) ∧ w'.cell? ⟨b2, o2 + i * 2 + 1, none⟩ = some (.int .i64 fa))
          (exact ⟨hdi.2.2.2.2.2.2.2.2.2, f1, f2, f3, f4⟩)
          (fail)
        rename_i hHeld
        clear hHeld hdi f1 f2 f3 f4
        go_wp2
        go_roundw
        case rel => exact ⟨i + 1, by omega, by go_num, HSi.out.drewN 1⟩
        case measure => simp [intOf]; omega
      · have hli : ¬ (i : Int) < (nF : Int) := by omega
        clear hdi hSi hd4
        go_wp2
        go_ret
        exact ⟨by simp, _, SdOk.mk (R := [(q, o)] ++ R2) h' HLE.out (HLN.out) (by have h9 := HSi.out; simp only [List.append_assoc, List.cons_append] at h9 ⊢; exact h9)⟩
  by_cases k9 : kd = 9
  · subst k9
    have HLE := Lib.hid (show (edD D blk num B).2.le (N + 1) from HPL.out)
    have HB1 := Lib.hid (HB.out.ext HT.out.bl)
    go_enter Try.func32, Try.ntmps32
    go_wp2_with (rw [← HO.out]; at_builtin; refine wp_app (w0 := w.alloc o) (w.alloc o).heap.size (Own.nil _ _) HB1.out (Below.refl _ _) (Nat.le_refl _) (by omega) _ _ rfl rfl rfl rfl ?_; intro v2 w2 hO2 hB2 hG2 hA2)
    rw [Nat.zero_add, List.nil_append] at hO2
    obtain ⟨A2, c2, R2, rfl, hr2, hx2, hS2⟩ := HT.out.newG hO2 hB2 (by omega)
    have HS2 := Lib.hid hS2
    have HR2 := Lib.hid hr2
    have hd2 := HCB.out _ _ _ _ hS2 (by simp) (by simp)
    have HE2 := Lib.hid (st_EditG blk num A2 nB c2 B (hS2.drewN 1) (hr2 _ (fun p hp => (hS2.drewN 1).kp.all p (by simp [hp]))) HNB.out)
    obtain ⟨E, hE⟩ : ∃ E, E = (edD D blk num B).1 := ⟨_, rfl⟩
    rw [← hE] at HE2
    have HE := Lib.hid hE
    clear hE
    rw [HQ.out] at hd2
    clear hO2 hB2 hG2 hA2 hr2 hx2 hS2 hd
    go_wp2_with fail
    rw [← HQ.out]
    rw [← HQ.out] at hd2
    go_region_held3 (fun w' => w'.cell? ⟨P, 0, none⟩ = some (.pointer (some ⟨b, 0, none⟩)) ∧ w'.cell? ⟨P, 1, none⟩ = some (.pointer (some ⟨r, 0, none⟩)) ∧ w'.cell? ⟨q, 0, none⟩ = some (.bool two) ∧ w'.cell? ⟨q, 1, none⟩ = some (.int .i64 9) ∧ w'.cell? ⟨q, 2, none⟩ = some (.int .i64 blk) ∧ w'.cell? ⟨q, 3, none⟩ = some (.int .i64 num) ∧ w'.cell? ⟨q, 4, none⟩ = some (.int .i64 len) ∧ w'.cell? ⟨q, 5, none⟩ = some (.int .u8 (fill.toNat : Int)) ∧ w'.cell? ⟨q, 6, none⟩ = some (.slice AB nB cB) ∧ w'.cell? ⟨q, 7, none⟩ = some (.slice AF nF cF))
      (first | exact hd3 | exact hd2)
      (first | (go_at_call 18; refine HE2.out.mono ?_; rintro e w3 ⟨rfl, hS3⟩; have HS3 := Lib.hid hS3; have hd3 := HCB.out _ _ _ _ hS3 (by simp) (by simp); clear hS3))
    rename_i hHeld
    clear hHeld hd2
    go_wp2_with fail
    have HE4 := Lib.hid (rf_Edit blk num AB nB cB B hr (T := (((P, sdO b r) :: T) ++ [(q, o)]) ++ R2) (by have h9 := HS3.out.drewN 1; simp only [List.append_assoc, List.cons_append] at h9 ⊢; exact h9) (fun W hW _ => HB.out.ext hW) HNB.out (by have := HLL.out; omega))
    rw [← HE.out] at HE4
    go_region_held3 (fun w' => w'.cell? ⟨P, 0, none⟩ = some (.pointer (some ⟨b, 0, none⟩)) ∧ w'.cell? ⟨P, 1, none⟩ = some (.pointer (some ⟨r, 0, none⟩)) ∧ w'.cell? ⟨q, 0, none⟩ = some (.bool two) ∧ w'.cell? ⟨q, 1, none⟩ = some (.int .i64 9) ∧ w'.cell? ⟨q, 2, none⟩ = some (.int .i64 blk) ∧ w'.cell? ⟨q, 3, none⟩ = some (.int .i64 num) ∧ w'.cell? ⟨q, 4, none⟩ = some (.int .i64 len) ∧ w'.cell? ⟨q, 5, none⟩ = some (.int .u8 (fill.toNat : Int)) ∧ w'.cell? ⟨q, 6, none⟩ = some (.slice AB nB cB) ∧ w'.cell? ⟨q, 7, none⟩ = some (.slice AF nF cF))
      (first | exact hd4 | exact hd3)
      (first | (go_at_call 17; refine (l6_same _ _ _ _ _ _ B B _ ?hq1 ?hq2).mono ?_; (case hq1 => exact HR2.out _ (fun p hp => HS4.out.kp.all p (by simp [hp]))); (case hq2 => exact HB.out.ext HS4.out.bl); rintro e w6 ⟨rfl, rfl⟩; rw [decide_eq_true rfl])
             | (go_at_call 46; refine HE4.out.mono ?_; rintro e w4 ⟨rfl, h', hL4, hC4, hS4⟩; have HS4 := Lib.hid hS4; have hd4 := HCB.out _ _ _ _ hS4 (by simp) (by simp); clear hS4))
    rename_i hHeld
    clear hHeld hd4 hd3
    go_wp2
    go_ret
    exact ⟨by simp, _, SdOk.mk (R := [(q, o)] ++ R2) h' HLE.out (by have := HLL.out; rw [hC4]; omega) (by have h9 := HS4.out; simp only [List.append_assoc, List.cons_append] at h9 ⊢; exact h9)⟩
  by_cases k12 : kd = 12
  · subst k12
    go_enter Try.func32, Try.ntmps32
    have hsm := hr.sm
    have HSM := Lib.hid hsm
    have HM1 := Lib.hid (st_MediumG HT.out)
    have HDM := Lib.hid (show D.n * 512 / 512 = D.n by omega)
    rw [HO.out] at hd
    clear hsm
    go_wp2_with fail
    rw [← HO.out]
    refine HM1.out.mono ?_
    rintro e w2 ⟨A2, c2, R2, rfl, hr2, hS2⟩
    have HS2 := Lib.hid hS2
    have HO2 := Lib.hid (st_OfG hS2 (hr2 w2 (fun p hp => hS2.kp.all p (by simp [hp]))) (show OfOk (D.n * 512) by have := HSM.out; exact ⟨by omega, by omega, by omega⟩))
    rw [HDM.out] at HO2
    clear hr2 hS2 hd
    go_wp2_with fail
    refine HO2.out.mono ?_
    rintro e w3 ⟨b3, g3, R3, rfl, hD3, hS3⟩
    have HS3 := Lib.hid hS3
    have HD3 := Lib.hid hD3
    have hd3 := HCB.out _ _ _ _ hS3 (by simp) (by simp)
    have HM3 := Lib.hid (rf_MediumG hr (T := ((((P, sdO b r) :: T) ++ [(q, o)]) ++ R2) ++ R3) (by have h9 := hS3; simp only [List.append_assoc, List.cons_append] at h9 ⊢; exact h9) (by have := HLL.out; omega))
    rw [HQ.out] at hd3
    clear hS3 hD3
    go_wp2_with fail
    refine HM3.out.mono ?_
    rintro e w4 ⟨A4, c4, R4, rfl, hr4, hS4⟩
    have HO4 := Lib.hid (rf_Of_ok A4 (D.n * 512) c4 D.M hS4 (hr4 w4 (fun p hp => hS4.kp.all p (by simp [hp]))) (show OfOk (D.n * 512) by have := HSM.out; exact ⟨by omega, by omega, by omega⟩))
    rw [HDM.out] at HO4
    clear hr4 hS4 hd3
    go_wp2_with fail
    refine HO4.out.mono ?_
    rintro e w5 ⟨r5, rfl, h5, hL5, hS5⟩
    have HS5 := Lib.hid hS5
    have hP5 : w5.heap[P]? = some (sdO b r) := hS5.mem (by simp)
    have f0 := frozen_of_row w5 P 0 _ _ hP5
    have f1 := frozen_of_row w5 P 1 _ _ hP5
    have c0 : w5.cell? ⟨P, 0, none⟩ = some (.pointer (some ⟨b, 0, none⟩)) := cell_of_row w5 P 0 _ _ _ hP5
    have c1 : w5.cell? ⟨P, 1, none⟩ = some (.pointer (some ⟨r, 0, none⟩)) := cell_of_row w5 P 1 _ _ _ hP5
    have hP7 : ((w5.setCell ⟨P, 0, none⟩ (.pointer (some ⟨b3, 0, none⟩))).setCell ⟨P, 1, none⟩ (.pointer (some ⟨r5, 0, none⟩))).heap[P]? = some (sdO b3 r5) := by
      rw [heap_setCell_same _ P 1 _ _ _ (heap_setCell_same w5 P 0 _ _ _ hP5)]; rfl
    have HEND := Lib.hid (show ∃ D', SdOk w0 ((w5.setCell ⟨P, 0, none⟩ (.pointer (some ⟨b3, 0, none⟩))).setCell ⟨P, 1, none⟩ (.pointer (some ⟨r5, 0, none⟩))) P T (N + 1) D' from by
      have hp : (h5.rows ++ (hr.rows ++ ((((((P, sdO b r) :: T) ++ [(q, o)]) ++ R2) ++ R3) ++ R4))).Perm ((P, sdO b r) :: (R3 ++ ((h5.rows ++ T) ++ (hr.rows ++ ([(q, o)] ++ (R2 ++ R4)))))) := by
        refine (perm_of h5.rows hr.rows (P, sdO b r) T (q, o) R2 R3 R4)
      have h6 := (hS5.perm hp).upd 0 rfl (((Only.refl [P] w5).setCell (by simp) (.pointer (some ⟨b3, 0, none⟩))).setCell (by simp) (.pointer (some ⟨r5, 0, none⟩))) hP7
      rw [List.set_cons_zero] at h6
      have hp2 : ((P, sdO b3 r5) :: (R3 ++ ((h5.rows ++ T) ++ (hr.rows ++ ([(q, o)] ++ (R2 ++ R4)))))).Perm (R3 ++ (h5.rows ++ (((P, sdO b3 r5) :: T) ++ (hr.rows ++ ([(q, o)] ++ (R2 ++ R4)))))) := perm_of2 _ _ _ _ _
      obtain ⟨R9, -, h7⟩ := (h6.perm hp2).turn HD3.out
      refine ⟨_, SdOk.mk (R := hr.rows ++ ([(q, o)] ++ (R2 ++ R4))) h5 ⟨by show 0 < _; omega, Nat.zero_le _, Nat.zero_le _, Nat.zero_le _, Nat.zero_le _⟩ (by rw [hL5.1, hL5.2]; exact Nat.zero_le _) (h7.sub (List.sublist_append_right _ _))⟩)
    clear hS5 hP5 hP7 hL5
    go_wp2
    go_ret
    exact ⟨rfl, HEND.out⟩
  have e3 : (kd == 3) = false := by simp [k3]
  have e4 : (kd == 4) = false := by simp [k4]
  have e6 : (kd == 6) = false := by simp [k6]
  have e8 : (kd == 8) = false := by simp [k8]
  have e9 : (kd == 9) = false := by simp [k9]
  have e12 : (kd == 12) = false := by simp [k12]
  have HAS := Lib.hid (l6_asks (P := P) (N := N) (T := T ++ [(q, o)]) ⟨two, kd, blk, num, len, fill, B, F⟩ AB AF nB cB nF cF ⟨b, g, v, r, hr, HDL.out, HLL.out, HT.out⟩ hN)
  clear k3 k4 k6 k8 k9 k12
  go_enter Try.func32, Try.ntmps32
  go_wp2_with fail
  rw [← HO.out]
  refine HAS.out.mono ?_
  rintro e w2 ⟨rfl, D2, hS2⟩
  have HEND := Lib.hid hS2.sub
  clear hS2 hd
  go_wp2
  go_ret
  exact ⟨rfl, D2, HEND.out⟩
end Go.Proofs.Ytjbffahmjhbpjaa
/- The laws' helpers made and ends: two devices, the program's and the reference's. -/
set_option linter.unusedVariables false
set_option linter.unusedSimpArgs false
set_option maxRecDepth 100000
namespace Go.Proofs.Ytjbffahmjhbpjaa
open Go.RowKit
theorem newD_le (n : Nat) : (newD n).le 0 := ⟨by show 0 < _; omega, Nat.zero_le _, Nat.zero_le _, Nat.zero_le _, Nat.zero_le _⟩
theorem l6_made_ok (n : Nat) (h1 : 64 ≤ n) (h2 : n ≤ 4096) (w : World) :
    Calls Try.prog 31 #[.int .i64 n] w fun e w' => ∃ P, e = .returned (.tuple #[.pointer (some ⟨P, 0, none⟩), .bool true]) ∧ SdOk w w' P [] 0 (newD n) := by
  have HN := Lib.hid (dv_New_ok n h1 h2 w)
  have HR := Lib.hid (rf_New_ok n h1 h2)
  go_enter Try.func31, Try.ntmps31
  go_wp2_with fail
  refine HN.out.mono ?_
  rintro e w1 ⟨rfl, hD, hb⟩
  have hV : IsV w1 (w.heap.size + 1) w.heap.size (.slice none 0 0) (newD n) := ⟨hD, ⟨PdOk.nil _, World.ownsRow_nil _ _ _ _⟩, fun k hk => by cases hk⟩
  have hS1 : St w w1 (w.heap.size + 1) w.heap.size (.slice none 0 0) (newD n) [] := St.of hV (fun s hs => by
    simp only [dvS, Value.ownBlock, Option.toList_none, List.mem_cons, List.not_mem_nil, or_false] at hs
    omega) hb
  obtain ⟨b, hbe⟩ : ∃ b, b = w.heap.size + 1 := ⟨_, rfl⟩
  rw [← hbe] at hS1 ⊢
  have HS1 := Lib.hid hS1
  clear hD hb hV hS1 hbe
  go_wp2_with fail
  refine (HR.out w1).mono ?_
  rintro e w2 ⟨rfl, rfl⟩
  obtain ⟨r, hre⟩ : ∃ r, r = w1.heap.size := ⟨_, rfl⟩
  have hS2 : St w (w1.alloc (rfO n (.slice none 0 0) (.slice none 0 0) (.slice none 0 0) false 0 false 0 0 0)) b w.heap.size (.slice none 0 0) (newD n) ((newRf n r ⟨h1, h2⟩).rows ++ []) := by
    rw [hre]
    exact HS1.out.new ((Below.refl _ w1).alloc (Nat.le_refl _) _) (Nat.le_refl _) (heap_alloc_new w1 _)
  obtain ⟨W, hW⟩ : ∃ W, W = w1.alloc (rfO n (.slice none 0 0) (.slice none 0 0) (.slice none 0 0) false 0 false 0 0 0) := ⟨_, rfl⟩
  rw [← hW] at hS2 ⊢
  rw [← hre]
  have HS2 := Lib.hid hS2
  clear hS2 hW hre
  go_wp2
  go_ret2
  refine ⟨W.heap.size, rfl, b, w.heap.size, .slice none 0 0, r, newRf n r ⟨h1, h2⟩, newD_le n, Nat.le_refl _, ?_⟩
  have h9 := HS2.out.new ((Below.refl _ W).alloc (Nat.le_refl _) (sdO b r)) (Nat.le_refl _) (heap_alloc_new W (sdO b r))
  rw [List.append_nil] at h9
  exact h9.perm (List.perm_append_comm (l₁ := [(W.heap.size, sdO b r)]))
theorem l6_made_bad (k : Int) (h : k < 64 ∨ 4096 < k) (w : World) :
    Calls Try.prog 31 #[.int .i64 k] w fun e w' => e = .returned (.tuple #[.pointer (some ⟨w.heap.size, 0, none⟩), .bool true]) ∧ w' = w.alloc (.cells #[.pointer none, .pointer none] 69) := by
  have HN := Lib.hid (dv_New_bad k h w)
  have HR := Lib.hid (rf_New_bad k h w)
  clear h
  go_enter Try.func31, Try.ntmps31
  go_wp2_with fail
  refine HN.out.mono ?_
  rintro e w1 ⟨rfl, rfl⟩
  go_wp2_with fail
  refine HR.out.mono ?_
  rintro e w2 ⟨rfl, rfl⟩
  go_wp2
  go_ret2
  exact ⟨rfl, rfl⟩
theorem SdOk.cell {w0 w : World} {P N : Nat} {T : List (Nat × Obj)} {D : DS} (h : SdOk w0 w P T N D) : ∃ b, w.cell? ⟨P, 0, none⟩ = some (.pointer (some ⟨b, 0, none⟩)) := by
  obtain ⟨b, g, v, r, hr, hl, hL, hS⟩ := h
  exact ⟨b, cell_of_row w P 0 _ _ _ (hS.mem (show (P, sdO b r) ∈ _ by simp))⟩
theorem SdOk.bl {w0 w : World} {P N : Nat} {T : List (Nat × Obj)} {D : DS} (h : SdOk w0 w P T N D) : Below w0.heap.size w0 w := by
  obtain ⟨b, g, v, r, hr, hl, hL, hS⟩ := h
  exact hS.bl
theorem SdOk.drewN {w0 w : World} {P N : Nat} {T : List (Nat × Obj)} {D : DS} (h : SdOk w0 w P T N D) (n : Nat) : SdOk w0 (w.drewN n) P T N D := by
  obtain ⟨b, g, v, r, hr, hl, hL, hS⟩ := h
  exact ⟨b, g, v, r, hr, hl, hL, hS.drewN n⟩
theorem SdOk.mono {w0 w : World} {P N M : Nat} {T : List (Nat × Obj)} {D : DS} (h : SdOk w0 w P T N D) (hm : N ≤ M) : SdOk w0 w P T M D := by
  obtain ⟨b, g, v, r, hr, hl, hL, hS⟩ := h
  exact ⟨b, g, v, r, hr, hl.mono hm, by omega, hS⟩
theorem OthR.mono {P N M : Nat} {R : List (Nat × Obj)} {D : DS} (h : OthR P N D R) (hm : N ≤ M) : OthR P M D R := by
  obtain ⟨b, g, v, r, hr, R0, hl, hL, hS, e⟩ := h
  exact ⟨b, g, v, r, hr, R0, hl.mono hm, by omega, hS, e⟩
theorem SdOk.join {w0 w1 w2 : World} {P Q N N2 : Nat} {D D2 : DS} (h : SdOk w0 w1 P [] N D) (h2 : SdOk w1 w2 Q [] N2 D2) : ∃ R, OthR Q N2 D2 R ∧ SdOk w0 w2 P R N D := by
  obtain ⟨b, g, v, r, hr, hl, hL, hS⟩ := h
  obtain ⟨b2, g2, v2, r2, hr2, hl2, hL2, hS2⟩ := h2
  obtain ⟨Rn, hD, hJ⟩ := hS.join hS2
  refine ⟨Rn ++ (hr2.rows ++ [(Q, sdO b2 r2)]), ⟨b2, g2, v2, r2, hr2, Rn, hl2, hL2, hD, rfl⟩, b, g, v, r, hr, hl, hL, ?_⟩
  simp only [List.append_assoc, List.cons_append, List.nil_append] at hJ ⊢
  exact hJ
theorem SdOk.turn0 {w0 w : World} {P Q N N2 : Nat} {R : List (Nat × Obj)} {D D2 : DS} (h : SdOk w0 w P R N D) (h2 : OthR Q N2 D2 R) : ∃ R', OthR P N D R' ∧ SdOk w0 w Q R' N2 D2 := by
  obtain ⟨R', h3, h4⟩ := SdOk.turn (T := []) (by rw [List.append_nil]; exact h) h2
  rw [List.append_nil] at h4
  exact ⟨R', h3, h4⟩
def askX (k : Int) : OpD := ⟨false, k, 0, 0, 0, 0, [], []⟩
theorem l6_ends {w0 w : World} {P N : Nat} {T : List (Nat × Obj)} {D : DS} (h : SdOk w0 w P T N D) (hN : N ≤ 40000000) :
    Calls Try.prog 33 #[.pointer (some ⟨P, 0, none⟩)] w fun e w' => e = .returned (.bool true) ∧ ∃ D', SdOk w0 w' P T (N + 12) D' := by
  have HS := Lib.hid (show ∃ D', SdOk w0 w P T (N + 1) D' from ⟨D, h.mono (by omega)⟩)
  clear h
  go_enter Try.func33, Try.ntmps33
  go_wp2_with fail
  go_loopw [3, 4] (fun x _ wx => ∃ k : Nat, 1 ≤ k ∧ k ≤ 12 ∧ x = .int .i64 k ∧ ∃ D', SdOk w0 wx P T (N + k) D') (fun x _ _ => 12 - (intOf x).toNat)
  case atStart => exact ⟨1, by omega, by omega, rfl, HS.out⟩
  case round =>
    obtain ⟨k, hk1, hk, rfl, D1, hS⟩ := hrel
    have HS1 := Lib.hid hS
    by_cases hk12 : k = 12
    · subst hk12
      clear hS
      go_wp2
      go_ret
      exact ⟨rfl, D1, HS1.out⟩
    · have hki : (k : Int) ≤ 11 ∧ (0 : Int) ≤ (k : Int) := by omega
      by_cases hq : k = 5 ∨ k = 7 ∨ k = 10 ∨ k = 11
      · have HAS := Lib.hid (l6_asks (askX k) none none 0 0 0 0 hS (by omega))
        rw [show Value.agg (opC (askX k) (.slice none 0 0) (.slice none 0 0)) = .agg #[.bool false, .int .i64 (k : Int), .int .i64 0, .int .i64 0, .int .i64 0, .int .u8 0, .slice none 0 0, .slice none 0 0] from rfl] at HAS
        clear hS
        rcases hq with rfl | rfl | rfl | rfl
        all_goals
          go_wp2_with fail
          refine HAS.out.mono ?_
          rintro e w2 ⟨rfl, D2, hS2⟩
          have HS2 := Lib.hid hS2
          clear hS2 HAS
          go_wp2
          go_roundw
          case rel => (first | exact ⟨6, by omega, by omega, rfl, D2, HS2.out⟩ | exact ⟨8, by omega, by omega, rfl, D2, HS2.out⟩ | exact ⟨11, by omega, by omega, rfl, D2, HS2.out⟩ | exact ⟨12, by omega, by omega, rfl, D2, HS2.out⟩)
          case measure => simp [intOf]; try omega
      · have e5 : ((k : Int) == 5) = false := by simp; omega
        have e7 : ((k : Int) == 7) = false := by simp; omega
        have e10 : ((k : Int) == 10) = false := by simp; omega
        have e11 : ((k : Int) == 11) = false := by simp; omega
        clear hS
        go_wp2
        go_roundw
        case rel => exact ⟨k + 1, by omega, by omega, by go_num, D1, HS1.out.mono (by omega)⟩
        case measure => simp [intOf]; omega
end Go.Proofs.Ytjbffahmjhbpjaa
/- DevPlays: of two devices, for every script of calls on them in turns, each answer is the reference's: the walk. -/
set_option linter.unusedVariables false
set_option linter.unusedSimpArgs false
set_option maxRecDepth 100000
namespace Go.Proofs.Ytjbffahmjhbpjaa
open Go.RowKit
set_option maxHeartbeats 4000000 in
theorem walk_DevPlays (k1 k2 : Int) (A : Option Addr) (n c : Nat) (l : List OpD) (w : World) (_ : -9223372036854775808 ≤ k1 ∧ k1 < 9223372036854775808) (_ : -9223372036854775808 ≤ k2 ∧ k2 < 9223372036854775808) (hr : RdO w A n c l) (hz : n ≤ 1048576) :
    Calls Try.prog 9 #[.int .i64 k1, .int .i64 k2, .slice A n c] w fun e w' => e = .returned (.bool true) ∧ Below w.heap.size w w' := by
  by_cases g1 : 64 ≤ k1 ∧ k1 ≤ 4096
  · obtain ⟨n1, rfl⟩ : ∃ n1 : Nat, k1 = n1 := ⟨k1.toNat, by omega⟩
    have HM1 := Lib.hid (l6_made_ok n1 (by omega) (by omega) w)
    by_cases g2 : 64 ≤ k2 ∧ k2 ≤ 4096
    · obtain ⟨n2, rfl⟩ : ∃ n2 : Nat, k2 = n2 := ⟨k2.toNat, by omega⟩
      have HM2 := Lib.hid (l6_made_ok n2 (by omega) (by omega))
      have HR := Lib.hid hr
      clear g1 g2 hr
      go_enter Try.func9, Try.ntmps9
      go_wp2_with fail
      refine HM1.out.mono ?_
      rintro e w1 ⟨P, rfl, hS1⟩
      have HS1 := Lib.hid hS1
      clear hS1
      go_wp2_with fail
      refine (HM2.out w1).mono ?_
      rintro e w2 ⟨Q, rfl, hS2⟩
      obtain ⟨cb, cp⟩ := (HS1.out.join hS2).choose_spec.2.cell
      obtain ⟨R, hO, hS⟩ := HS1.out.join hS2
      obtain ⟨cb2, cq⟩ := (hS.turn0 hO).choose_spec.2.cell
      have HS := Lib.hid hS
      have HO := Lib.hid hO
      clear hS2 hO hS
      go_wp2_with fail
      go_loopw [8, 11, 12] (fun vok x _ wx => ∃ i : Nat, ∃ D1 D2 R2, i ≤ n ∧ x = .int .i64 i ∧ vok = .bool true ∧ SdOk w wx P R2 i D1 ∧ OthR Q i D2 R2) (fun _ x _ _ => n - (intOf x).toNat)
      case atStart => exact ⟨0, _, _, R, by omega, rfl, rfl, HS.out, HO.out⟩
      case round =>
        obtain ⟨i, D1, D2, R2, hi, rfl, rfl, hSi, hOi⟩ := hrel
        have HSi := Lib.hid hSi
        have HOi := Lib.hid hOi
        clear cp cq
        by_cases hin : i < n
        · have hli : (0 : Int) ≤ (i : Int) ∧ (i : Int) < (n : Int) := by omega
          obtain ⟨bo, oo, rfl, hca⟩ := HR.out.at_ (by omega)
          have hop0 := hca i hin
          have hop := hop0.ext hSi.bl
          obtain ⟨x, hxx⟩ : ∃ x, x = l.getD i default := ⟨_, rfl⟩
          rw [← hxx] at hop hop0
          obtain ⟨A6, n6, c6, p6, hr6⟩ := hop0.c6
          obtain ⟨A7, n7, c7, p7, hr7⟩ := hop0.c7
          have q6 := cell_ext hSi.bl p6
          have q7 := cell_ext hSi.bl p7
          obtain ⟨hok, q0, q1, q2, q3, q4, q5, -, -⟩ := hop
          cases htwo : x.two with
          | false =>
            rw [htwo] at q0
            have HPL := Lib.hid (l6_plays x A6 A7 n6 c6 n7 c7 hSi hok (by omega) hr6 hr7)
            rw [show Value.agg (opC x (.slice A6 n6 c6) (.slice A7 n7 c7)) = .agg #[.bool x.two, .int .i64 x.kind, .int .i64 x.blk, .int .i64 x.num, .int .i64 x.len, .int .u8 (x.fill.toNat : Int), .slice A6 n6 c6, .slice A7 n7 c7] from rfl, htwo] at HPL
            clear hca hop0 hxx hok hr6 hr7 p6 p7 hSi hOi htwo
            go_wp2_with fail
            refine HPL.out.mono ?_
            rintro e w6 ⟨rfl, D6, hS6⟩
            have HS6 := Lib.hid hS6
            clear hS6 HPL q0 q1 q2 q3 q4 q5 q6 q7
            go_wp2
            go_roundw
            case rel => exact ⟨i + 1, D6, D2, R2, by omega, by go_num, rfl, HS6.out, HOi.out.mono (by omega)⟩
            case measure => simp [intOf]; omega
          | true =>
            rw [htwo] at q0
            obtain ⟨R3, hO3, hS3⟩ := hSi.turn0 hOi
            have HO3 := Lib.hid hO3
            have HPL := Lib.hid (l6_plays x A6 A7 n6 c6 n7 c7 hS3 hok (by omega) hr6 hr7)
            rw [show Value.agg (opC x (.slice A6 n6 c6) (.slice A7 n7 c7)) = .agg #[.bool x.two, .int .i64 x.kind, .int .i64 x.blk, .int .i64 x.num, .int .i64 x.len, .int .u8 (x.fill.toNat : Int), .slice A6 n6 c6, .slice A7 n7 c7] from rfl, htwo] at HPL
            clear hca hop0 hxx hok hr6 hr7 p6 p7 hSi hOi htwo hO3 hS3
            go_wp2_with fail
            refine HPL.out.mono ?_
            rintro e w6 ⟨rfl, D6, hS6⟩
            have HT6 := Lib.hid ((hS6.mono (Nat.le_refl _)).turn0 (HO3.out.mono (Nat.le_succ i)))
            clear hS6 HPL q0 q1 q2 q3 q4 q5 q6 q7
            go_wp2
            go_roundw
            case rel =>
              obtain ⟨R7, hO7, hS7⟩ := HT6.out
              exact ⟨i + 1, _, _, R7, by omega, by go_num, rfl, hS7, hO7⟩
            case measure => simp [intOf]; omega
        · obtain rfl : i = n := by omega
          have HE1 := Lib.hid (l6_ends hSi (by omega))
          clear hSi hOi
          go_wp2_with fail
          refine HE1.out.mono ?_
          rintro e w6 ⟨rfl, D6, hS6⟩
          obtain ⟨R7, hO7, hS7⟩ := hS6.turn0 (HOi.out.mono (show i ≤ i + 12 by omega))
          have HE2 := Lib.hid (l6_ends hS7 (by omega))
          clear hS6 hO7 hS7 HE1
          go_wp2_with fail
          refine HE2.out.mono ?_
          rintro e w7 ⟨rfl, D7, hS7⟩
          have HB7 := Lib.hid hS7.bl
          clear hS7 HE2
          go_wp2
          go_ret
          exact ⟨rfl, HB7.out⟩
    · have HM2 := Lib.hid (l6_made_bad k2 (by omega))
      clear g1 g2
      go_enter Try.func9, Try.ntmps9
      go_wp2_with fail
      refine HM1.out.mono ?_
      rintro e w1 ⟨P, rfl, hS1⟩
      have HB1 := Lib.hid hS1.bl
      obtain ⟨b, cp⟩ := hS1.cell
      clear hS1
      go_wp2_with fail
      refine (HM2.out w1).mono ?_
      rintro e w2 ⟨rfl, rfl⟩
      have cp2 := cell_ext ((Below.refl _ w1).alloc (Nat.le_refl _) (.cells #[.pointer none, .pointer none] 69)) cp
      have HB2 := Lib.hid (HB1.out.trans (((Below.refl _ w1).alloc (Nat.le_refl _) (.cells #[.pointer none, .pointer none] 69)).mono HB1.out.size))
      go_wp2
      go_ret
      exact ⟨rfl, HB2.out⟩
  · have HM1 := Lib.hid (l6_made_bad k1 (by omega) w)
    by_cases g2 : 64 ≤ k2 ∧ k2 ≤ 4096
    · obtain ⟨n2, rfl⟩ : ∃ n2 : Nat, k2 = n2 := ⟨k2.toNat, by omega⟩
      have HM2 := Lib.hid (l6_made_ok n2 (by omega) (by omega))
      clear g1 g2
      go_enter Try.func9, Try.ntmps9
      go_wp2_with fail
      refine HM1.out.mono ?_
      rintro e w1 ⟨rfl, rfl⟩
      go_wp2_with fail
      refine (HM2.out _).mono ?_
      rintro e w2 ⟨Q, rfl, hS2⟩
      have hP : w2.heap[w.heap.size]? = some (.cells #[.pointer none, .pointer none] 69) := (hS2.bl.block w.heap.size (by rw [World.size_alloc]; omega)).trans (heap_alloc_new w _)
      have cp : w2.cell? ⟨w.heap.size, 0, none⟩ = some (.pointer none) := cell_of_row w2 _ 0 _ _ _ hP
      have HB2 := Lib.hid (((Below.refl _ w).alloc (Nat.le_refl _) (.cells #[.pointer none, .pointer none] 69)).trans (hS2.bl.mono (by rw [World.size_alloc]; omega)))
      clear hS2 hP
      go_wp2
      go_ret
      exact ⟨rfl, HB2.out⟩
    · have HM2 := Lib.hid (l6_made_bad k2 (by omega))
      clear g1 g2
      go_enter Try.func9, Try.ntmps9
      go_wp2_with fail
      refine HM1.out.mono ?_
      rintro e w1 ⟨rfl, rfl⟩
      go_wp2_with fail
      refine (HM2.out _).mono ?_
      rintro e w2 ⟨rfl, rfl⟩
      go_wp2
      go_ret
      exact ⟨rfl, ((Below.refl _ w).alloc (Nat.le_refl _) _).alloc (by rw [World.size_alloc]; omega) _⟩
end Go.Proofs.Ytjbffahmjhbpjaa
/- Words for rows: what an argument's reading says of memory. -/
set_option linter.unusedVariables false
set_option linter.unusedSimpArgs false
namespace Go.Proofs.Ytjbffahmjhbpjaa
open Go.ChangeShapes Go.WideShapes Go.RowKit
theorem u32_bv {a : Int} (h : (Lit.int .u32 a).wf = true) : ∃ b : BitVec 32, a = (b.toNat : Int) := by
  have hb := bounds_u32 h
  refine ⟨BitVec.ofNat 32 a.toNat, ?_⟩
  rw [BitVec.toNat_ofNat, Nat.mod_eq_of_lt (by omega)]
  omega
theorem wf_i64 {a : Int} (h : (Lit.int .i64 a).wf = true) : -9223372036854775808 ≤ a ∧ a < 9223372036854775808 := by
  have hb := bounds_i64 h
  omega
/-- A slice of bytes that came in is a list of bytes. -/
theorem wf_u64 {a : Int} (h : (Lit.int .u64 a).wf = true) : 0 ≤ a ∧ a < 18446744073709551616 := by
  simp only [Lit.wf, IntKind.min, IntKind.max, IntKind.signed, IntKind.bits, Bool.and_eq_true, decide_eq_true_eq] at h
  simp at h
  omega
theorem wf_u8 {a : Int} (h : (Lit.int .u8 a).wf = true) : 0 ≤ a ∧ a < 256 := by
  simp only [Lit.wf, IntKind.min, IntKind.max, IntKind.signed, IntKind.bits, Bool.and_eq_true, decide_eq_true_eq] at h
  simp at h
  omega
theorem rd_of {H : Type} {enc : TypeId × Value → H} {P : Program} {W : World} {base : Nat} {spare : Nat → Bool} {held : Bool} {t e : TypeId} {a : Option Addr} {len cap : Nat} {d : DataW H} {ps : List MemPlace}
    (hu : P.underlying t = some (.slice e)) (he : P.underlying e = some (.int .u8)) (hc : P.cellsOf e = 1)
    (h : DataW.Trod enc P W base spare held t (.slice a len cap) d ps) (hm : len ≤ 140737488355328) : ∃ l, Rd W a len cap l := by
  obtain ⟨fuel, hf⟩ := h
  rcases open_ints hu he hc hf with ⟨hcs, _⟩ | ⟨x, l, c, zs, hcs, _, hl, _, hz, hx, hcell, hwz⟩
  · simp [Value.cells] at hcs
    obtain ⟨rfl, rfl, rfl⟩ := hcs
    exact ⟨[], rfl, Nat.le_refl _, by omega, fun hp => absurd hp (by omega)⟩
  · simp [Value.cells] at hcs
    obtain ⟨rfl, rfl, rfl⟩ := hcs
    have hl2 : len ≤ zs.length := by
      rw [hz]
      split
      · exact hl
      · exact Nat.le_refl _
    refine ⟨(zs.take len).map fun z => UInt8.ofNat z.toNat, by simp; omega, hl, by omega, fun hp => ?_⟩
    have h0 := hcell 0 (by omega)
    obtain ⟨b, o, s⟩ := x
    have hs : s = none := by
      cases s with
      | none => rfl
      | some s =>
        exfalso
        rw [show (⟨b, o, some s⟩ : Addr).add 0 = ⟨b, o, some s⟩ from rfl] at h0
        simp only [World.cell?] at h0
        split at h0 <;> simp at h0
    subst hs
    refine ⟨b, o, rfl, fun j hj => ?_⟩
    have := hcell j (by omega)
    rw [Addr.add_mid] at this
    rw [this]
    congr 2
    have hj' : j < zs.length := by omega
    have hw := bounds_u8 (hwz (zs.getD j 0) (by rw [List.getD_eq_getElem?_getD, List.getElem?_eq_getElem hj']; exact List.getElem_mem hj'))
    simp only [List.getD_eq_getElem?_getD, List.getElem?_map, List.getElem?_take, if_pos hj, List.getElem?_eq_getElem hj', Option.map_some, Option.getD_some] at hw ⊢
    rw [UInt8.toNat_ofNat']
    omega
theorem rd_open {H : Type} {enc : TypeId × Value → H} {P : Program} {W : World} {base : Nat} {spare : Nat → Bool} {held : Bool} {t e : TypeId} {a : Option Addr} {len cap : Nat} {d : DataW H} {ps : List MemPlace} {ts : List TypeId} {ds : List (DataW H)} {j : Nat}
    (hsz : (DataW.weightsEach P ts ds).all (· ≤ reachBytes) = true) (ht : ts[j]? = some t) (hd : ds[j]? = some d) (hu : P.underlying t = some (.slice e)) (he : P.underlying e = some (.int .u8)) (hc : P.cellsOf e = 1) (hB : P.bytesOf e = 1)
    (h : DataW.Trod enc P W base spare held t (.slice a len cap) d ps) : ∃ l, Rd W a len cap l ∧ len ≤ 140737488351232 := by
  have hlen : len ≤ 140737488351232 := by
    obtain ⟨fuel, hf⟩ := h
    rcases open_ints hu he hc hf with ⟨hcs, _⟩ | ⟨x, l, c, zs, hcs, _, hl, _, hz, hx, hcell, hwz⟩
    · simp [Value.cells] at hcs; omega
    · simp [Value.cells] at hcs
      obtain ⟨rfl, rfl, rfl⟩ := hcs
      obtain ⟨hx, _⟩ := Prod.mk.inj hx
      subst hx
      have z := sized_slice hsz ht hd hu
      rw [hB] at z
      have hl2 : len ≤ zs.length := by
        rw [hz]
        split
        · exact hl
        · exact Nat.le_refl _
      have h1 : (lits (H := H) .u8 (zs.take len)).length + (lits (H := H) .u8 (zs.drop len)).length = zs.length := by
        simp [lits]
        omega
      rw [h1] at z
      have z2 : zs.length ≤ 140737488351232 := by simpa [reachBytes] using z
      omega
  obtain ⟨l, hr⟩ := rd_of hu he hc h (Nat.le_trans hlen (by omega))
  exact ⟨l, hr, hlen⟩
end Go.Proofs.Ytjbffahmjhbpjaa
/- Words on memory: a slice of bools that is read. -/
set_option linter.unusedVariables false
set_option linter.unusedSimpArgs false
namespace Go.Proofs.Ytjbffahmjhbpjaa
open Go.RowKit
structure RdB (w : World) (A : Option Addr) (n c : Nat) (l : List Bool) : Prop where
  len : l.length = n
  cap : n ≤ c
  max : n ≤ 140737488355328
  at_ : 0 < n → ∃ b o, A = some ⟨b, o, none⟩ ∧ ∀ j, j < n → w.cell? ⟨b, o + j, none⟩ = some (.bool (l.getD j false))
theorem RdB.ext {w w' : World} {A : Option Addr} {n c : Nat} {l : List Bool} (h : RdB w A n c l) (hb : Below w.heap.size w w') : RdB w' A n c l :=
  ⟨h.len, h.cap, h.max, fun hn => by
    obtain ⟨b, o, e, hc⟩ := h.at_ hn
    exact ⟨b, o, e, fun j hj => (hb.cell (World.block_lt_of_cell? w _ (hc j hj))).trans (hc j hj)⟩⟩
end Go.Proofs.Ytjbffahmjhbpjaa
/- Words for rows: what the reading of a slice of bools says of memory. -/
set_option linter.unusedVariables false
set_option linter.unusedSimpArgs false
namespace Go.Proofs.Ytjbffahmjhbpjaa
open Go.ChangeShapes Go.WideShapes Go.RowKit Go.Deep
theorem spot0 {W : World} {x : Addr} {v : Value} (h : W.cell? (x.add 0) = some v) : x.spot = none := by
  obtain ⟨b, o, s⟩ := x
  cases s with
  | none => rfl
  | some s =>
    exfalso
    rw [show (⟨b, o, some s⟩ : Addr).add 0 = ⟨b, o, some s⟩ from rfl] at h
    simp only [World.cell?] at h
    split at h <;> simp at h
theorem len_open {H : Type} {enc : TypeId × Value → H} {P : Program} {W : World} {base : Nat} {spare : Nat → Bool} {held : Bool} {t e : TypeId} {a : Option Addr} {len cap : Nat} {d : DataW H} {ps : List MemPlace} {ts : List TypeId} {ds : List (DataW H)} {j : Nat}
    (hsz : (DataW.weightsEach P ts ds).all (· ≤ reachBytes) = true) (ht : ts[j]? = some t) (hd : ds[j]? = some d) (hu : P.underlying t = some (.slice e)) (hB : 1 ≤ P.bytesOf e)
    (h : DataW.Trod enc P W base spare held t (.slice a len cap) d ps) : len ≤ 140737488351232 := by
  obtain ⟨fuel, hf⟩ := h
  rcases open_slice hu hf with ⟨hcs, _⟩ | ⟨x, l, c, m, n, D, Pl, hcs, _, hl, _, hm, hx, _⟩
  · simp [Value.cells] at hcs; omega
  · simp [Value.cells] at hcs
    obtain ⟨rfl, rfl, rfl⟩ := hcs
    obtain ⟨hx, _⟩ := Prod.mk.inj hx
    subst hx
    have z := sized_slice hsz ht hd hu
    simp only [List.length_map, List.length_range] at z
    have z2 := Nat.le_trans (Nat.le_mul_of_pos_right _ hB) z
    have z3 : reachBytes = 140737488351232 := by simp [reachBytes]
    omega
section
variable {H : Type} {enc : TypeId × Value → H} {P : Program} {W : World} {base : Nat} {spare : Nat → Bool} {held : Bool} {t e : TypeId} {a : Option Addr} {len cap : Nat} {d : DataW H} {ps : List MemPlace}
theorem rdb_of (hu : P.underlying t = some (.slice e)) (he : P.underlying e = some .bool) (hc : P.cellsOf e = 1) (hm : len ≤ 140737488351232)
    (h : DataW.Trod enc P W base spare held t (.slice a len cap) d ps) : ∃ l, RdB W a len cap l := by
  obtain ⟨fuel, hf⟩ := h
  rcases open_slice1 hu hc hf with ⟨hcs, _⟩ | ⟨x, l, c, m, n, V, D, Pl, hcs, _, hl, _, hmm, hx, hV⟩
  · simp [Value.cells] at hcs
    obtain ⟨rfl, rfl, rfl⟩ := hcs
    exact ⟨[], rfl, Nat.le_refl _, by omega, fun hp => absurd hp (by omega)⟩
  · simp [Value.cells] at hcs
    obtain ⟨rfl, rfl, rfl⟩ := hcs
    have hlm : len ≤ m := by rw [hmm]; split <;> omega
    have hB : ∀ i, i < m → ∃ b, V i = .bool b := fun i hi => by
      obtain ⟨b, h1, _⟩ := DataW.trod_bool he (hV i hi).2
      exact ⟨b, by simpa using h1⟩
    refine ⟨(List.range len).map fun i => (match V i with | .bool b => b | _ => false), by simp, hl, by omega, fun hp => ?_⟩
    have hs := spot0 (hV 0 (by omega)).1
    obtain ⟨b, o, s⟩ := x
    simp only at hs
    subst hs
    refine ⟨b, o, rfl, fun j hj => ?_⟩
    have h1 := (hV j (by omega)).1
    rw [Addr.add_mid] at h1
    obtain ⟨v, hv⟩ := hB j (by omega)
    rw [h1, hv]
    simp [List.getD_eq_getElem?_getD, hj, hv]
end
end Go.Proofs.Ytjbffahmjhbpjaa
