/- The reference's device: Crash. -/
import Derived.Test.YtggoaelbglhehaaMgP3
import Derived.Test.YtggoaelbglhehaaMgA12
/- The reference's device: Crash. -/
set_option linter.unusedVariables false
set_option linter.unusedSimpArgs false
set_option maxRecDepth 100000
namespace Go.Proofs.Ytggoaelbglhehaa
open Go.RowKit
theorem RowB.cut {o : Obj} {n c : Nat} {l : List UInt8} (h : RowB o n c l) (m : Nat) (hm : m ≤ n) : RowB o m c (l.take m) := by
  have hl := h.len
  obtain ⟨cur, h0, h1, h2, h3, h4, h5⟩ := h
  refine ⟨cur, h0, by rw [bv_length, List.length_take]; omega, by omega, h3, h4, ?_⟩
  have h6 := congrArg (List.take m) h5
  rw [List.take_take, Nat.min_eq_left hm] at h6
  rw [h6, bv, bv, List.map_take]
theorem heap_alloc2 (w : World) (o o2 : Obj) : ((w.alloc o).drew.alloc o2).heap[w.heap.size + 1]? = some o2 := by
  have h9 := heap_alloc_new (w.alloc o).drew o2
  rwa [show (w.alloc o).drew.heap.size = w.heap.size + 1 from World.size_alloc ..] at h9
theorem ly_cut {K : List (Nat × Obj)} {N blk kx : Nat} {ox : Obj} {cb : Nat} {BB : List UInt8} (hb : blk < N) (hK : (kx, ox) ∈ K) (hr : RowB ox 512 cb BB) (m : Nat) (hm : m ≤ 512) : LyOk K N ((⟨blk, 0, BB.take m⟩ : Ly), Value.slice (some ⟨kx, 0, none⟩) m cb) := by
  have hl := hr.len
  have hlm : (BB.take m).length = m := by rw [List.length_take]; omega
  refine ⟨hb, by show 0 + (BB.take m).length ≤ 512; omega, .inr ⟨kx, ox, cb, ?_, hK, ?_⟩⟩
  · show Value.slice (some ⟨kx, 0, none⟩) m cb = .slice (some ⟨kx, 0, none⟩) (BB.take m).length cb
    rw [hlm]
  · show RowB ox (BB.take m).length cb (BB.take m)
    rw [hlm]; exact hr.cut m hm
section
variable {w0 w : World} {b g : Nat} {vp : Value} {Dp D : DS} {r : Nat} {T : List (Nat × Obj)}
/-- a box beside the device, among the rows behind it -/
theorem st_box (h : RfOk r D) (hS : St w0 w b g vp Dp (h.rows ++ T)) (o : Obj) : St w0 (w.alloc o) b g vp Dp ([(r, rfO D.n h.base h.vl h.vc D.armed h.left D.down D.rd D.wr D.fl)] ++ (h.Ql ++ (h.Qc ++ (h.K ++ ((w.heap.size, o) :: T))))) := by
  have h1 := hS.new ((Below.refl _ w).alloc (Nat.le_refl _) o) (Nat.le_refl _) (heap_alloc_new w o)
  refine h1.perm ?_
  have e1 : (h.rows ++ T) = ((r, rfO D.n h.base h.vl h.vc D.armed h.left D.down D.rd D.wr D.fl) :: (h.Ql ++ (h.Qc ++ h.K))) ++ T := rfl
  have e2 : ([(r, rfO D.n h.base h.vl h.vc D.armed h.left D.down D.rd D.wr D.fl)] ++ (h.Ql ++ (h.Qc ++ (h.K ++ ((w.heap.size, o) :: T))))) = ((r, rfO D.n h.base h.vl h.vc D.armed h.left D.down D.rd D.wr D.fl) :: (h.Ql ++ (h.Qc ++ h.K))) ++ ((w.heap.size, o) :: T) := by simp [List.append_assoc]
  rw [e1, e2]
  exact List.perm_middle.symm
theorem st_boxR {k : Nat} {o : Obj} (h : RfOk r D) (hS : St w0 w b g vp Dp ([(r, rfO D.n h.base h.vl h.vc D.armed h.left D.down D.rd D.wr D.fl)] ++ (h.Ql ++ (h.Qc ++ (h.K ++ ((k, o) :: T)))))) : w.heap[k]? = some o ∧ w.cell? ⟨r, 2, none⟩ = some h.vl :=
  ⟨hS.mem (by simp), cell_of_row w r 2 _ _ _ (hS.mem (show (r, rfO D.n h.base h.vl h.vc D.armed h.left D.down D.rd D.wr D.fl) ∈ _ by simp))⟩
theorem box3 {k : Nat} {u0 u1 u2 : Value} {t : TypeId} (h : w.heap[k]? = some (.cells #[u0, u1, u2] t (0, 0))) : w.cell? ⟨k, 0, none⟩ = some u0 ∧ w.cell? ⟨k, 1, none⟩ = some u1 ∧ w.cell? ⟨k, 2, none⟩ = some u2 :=
  ⟨cell_of_row w k 0 _ _ _ h, cell_of_row w k 1 _ _ _ h, cell_of_row w k 2 _ _ _ h⟩
theorem st_unbox {x : Nat × Obj} (h : RfOk r D) (hS : St w0 w b g vp Dp (h.rows ++ (x :: T))) : St w0 w b g vp Dp (h.rows ++ T) :=
  hS.sub (List.Sublist.append (List.Sublist.refl _) (List.sublist_cons_self _ _))
set_option maxHeartbeats 4000000 in
theorem rf_Crash (A : Option Addr) (n c : Nat) (F : List Ft) (h : RfOk r D) (hS : St w0 w b g vp Dp (h.rows ++ T)) (hr : ∀ W : World, Below w0.heap.size w0 W → (∀ p ∈ T, W.heap[p.1]? = some p.2) → RdF W A n c F) (hCn : h.C.length ≤ 100000000) (hLn : h.L.length ≤ 100000000) :
    Calls Try.prog 29 #[.pointer (some ⟨r, 0, none⟩), .slice A n c] w fun e w' => e = .returned (.int .i64 (crT F D.C.length : Nat)) ∧ ∃ h' : RfOk r (crD D F), h'.L.length ≤ h.L.length + h.C.length ∧ h'.C = [] ∧ St w0 w' b g vp Dp (h'.rows ++ T) := by
  obtain ⟨ily, hily, hzz⟩ := Option.map_eq_some_iff.1 info_ly
  simp only [Prod.mk.injEq] at hzz
  obtain ⟨sz0, sz1, sz2⟩ := hzz
  have HILY := Lib.hid (And.intro hily (And.intro sz0 (And.intro sz1 sz2)))
  clear hily sz0 sz1 sz2
  have HS := Lib.hid hS
  have HR := Lib.hid hr
  have hR0 := hr w hS.bl (fun p hp => hS.kp.all p (List.mem_append_right _ hp))
  have HFL := Lib.hid hR0.len
  have hmx := hR0.max
  have HDC := Lib.hid (show D.C.length = h.C.length by rw [h.hC, List.length_map])
  obtain ⟨q, hq⟩ : ∃ q, q = h.C.length := ⟨_, rfl⟩
  have HQ := Lib.hid hq
  have hqb : q ≤ 100000000 := by omega
  clear hS hr hR0 hq
  go_enter Try.func29, Try.ntmps29
  go_wp2_with fail
  go_loopw [5, 6, 7, 8] (fun vn x _ _ wx => ∃ i : Nat, ∃ Di, ∃ hi : RfOk r Di, Di = { D with M := layA (crN F) 0 (D.C.take i) D.M } ∧ i ≤ q ∧ i ≤ n ∧ x = .int .i64 i ∧ vn = .int .i64 (crT F i : Nat) ∧ hi.C = h.C ∧ hi.L.length ≤ h.L.length + i ∧ St w0 wx b g vp Dp (hi.rows ++ T)) (fun _ x _ _ _ => q - (intOf x).toNat)
  case atStart => exact ⟨0, D, h, rfl, by omega, by omega, rfl, rfl, rfl, by omega, HS.out⟩
  case round =>
    obtain ⟨i, Di, hi, hDi, hiq, hin, rfl, rfl, hiC, hiL, hSi⟩ := hrel
    have HSi := Lib.hid hSi
    have HIL := Lib.hid hiL
    have HDi := Lib.hid hDi
    have HIC := Lib.hid hiC
    have hcc := hi.cells hSi
    have c2 := hcc.2.2.1
    have c3 := hcc.2.2.2.1
    have hnl : hi.C.length = q := by rw [hiC]; exact HQ.out.symm
    have hct := crT_le F i
    by_cases hin2 : i < q ∧ i < n
    · obtain ⟨hi1, hi2⟩ := hin2
      have hii : (0 : Int) ≤ (i : Int) ∧ (i : Int) < (q : Int) ∧ (i : Int) < (n : Int) ∧ (q : Int) ≤ 100000000 := by omega
      obtain ⟨kc, cc, hvc, g0, g1, g2⟩ := ly_cells hSi hi.qc (by intro p hp; simp [RfOk.rows, hp]) i (by rw [hnl]; exact hi1)
      rw [hnl] at hvc
      rw [hvc] at c3
      obtain ⟨p, hp⟩ : ∃ p, p = hi.C.getD i default := ⟨_, rfl⟩
      rw [← hp] at g0 g1 g2
      have hpm : p ∈ hi.C := by rw [hp]; exact getD_mem hi.C i default (by rw [hnl]; exact hi1)
      have hco := hi.co p hpm
      have hlp : D.C.getD i default = lyPd p.1 := by
        have hd : D.C = h.C.map fun p => lyPd p.1 := h.hC
        rw [hd, hp, hiC, List.getD_eq_getElem?_getD, List.getD_eq_getElem?_getD, List.getElem?_map, List.getElem?_eq_getElem (by rw [← HQ.out]; exact hi1)]; rfl
      have HLP := Lib.hid hlp
      obtain ⟨⟨blk, at_, BB⟩, sv⟩ := p
      obtain ⟨hco1, rfl, hBB⟩ : LyOk hi.K Di.n (⟨blk, at_, BB⟩, sv) ∧ at_ = 0 ∧ BB.length = 512 := hco
      rcases hco1.row with ⟨h1, h2⟩ | ⟨kx, ox, cb, h1, hmK, hrx⟩
      · have h2' : BB = [] := h2
        rw [h2'] at hBB; cases hBB
      have h1' : sv = .slice (some ⟨kx, 0, none⟩) BB.length cb := h1
      subst h1'
      rw [hBB] at g2
      have hrx2 : RowB ox 512 cb BB := by have h9 : RowB ox BB.length cb BB := hrx; rwa [hBB] at h9
      have hcbb := hrx2.cap
      obtain ⟨bf, of, rfl, hcf⟩ := (HR.out wr hSi.bl (fun p hp => hSi.kp.all p (List.mem_append_right _ hp))).at_ (by omega)
      obtain ⟨f1, f2⟩ := hcf i hi2
      obtain ⟨kd, hkd⟩ : ∃ kd, kd = (F.getD i default).kind := ⟨_, rfl⟩
      obtain ⟨fa, hfa⟩ : ∃ fa, fa = (F.getD i default).at_ := ⟨_, rfl⟩
      rw [← hkd] at f1
      rw [← hfa] at f2
      have hFD : F.getD i default = ⟨kd, fa⟩ := by rw [hkd, hfa]
      have HKN := Lib.hid (show crN F i = ftN ⟨kd, fa⟩ by unfold crN; rw [if_pos (by rw [HFL.out]; exact hi2), hFD])
      have HKS := Lib.hid (show crS F i = ftS ⟨kd, fa⟩ by unfold crS; rw [if_pos (by rw [HFL.out]; exact hi2), hFD])
      have HBL := Lib.hid (show blk < Di.n from hco1.blk)
      have HLY := Lib.hid (show ∀ m, crN F i = m → ({ Di with M := splice Di.M (blk * 512 + 0) (BB.take m) } : DS) = { D with M := layA (crN F) 0 (D.C.take (i + 1)) D.M } from fun m hm => by
        rw [take_snoc D.C i default (by rw [HDC.out, ← HQ.out]; exact hi1), layA_snoc, hlp, List.length_take, HDC.out, ← HQ.out, Nat.min_eq_left (by omega), Nat.zero_add, hm, hDi]; rfl)
      have HLY0 := Lib.hid (show crN F i = 0 → Di = { D with M := layA (crN F) 0 (D.C.take (i + 1)) D.M } from fun hm => by
        have hml := hi.mlen
        have hbl := blk_end HBL.out
        rw [← HLY.out 0 hm]
        have e9 : splice Di.M (blk * 512 + 0) (BB.take 0) = Di.M := layP_none Di.M ⟨blk, BB⟩ (by show blk * 512 ≤ _; omega)
        rw [e9])
      have HB1 := Lib.hid ((Below.refl _ wr).alloc (Nat.le_refl _) (.cells #[.int .i64 (blk : Int), .int .i64 0, .slice (some ⟨kx, 0, none⟩) 512 cb] 102))
      have f1' := cell_ext HB1.out f1
      have f2' := cell_ext HB1.out f2
      dsimp only at g0 g1
      clear hSi hcc hDi hiC hp hlp hkd hfa hcf hco1 hrx h1 hvc
      by_cases k1 : kd = 1
      · subst k1
        have HC1 := Lib.hid (show crN F i = 512 by rw [HKN.out]; rfl)
        have HC2 := Lib.hid (show crS F i = true by rw [HKS.out]; rfl)
        have HSB := Lib.hid (st_box hi HSi.out (.cells #[.int .i64 (blk : Int), .int .i64 0, .slice (some ⟨kx, 0, none⟩) 512 cb] 102))
        obtain ⟨hBX, hT⟩ := st_boxR hi (HSB.out.drewN 1)
        have hRR := box3 hBX
        go_upto_region 17 with fail
        clear c2 c3 g0 g1 g2 f1 f2 f1' f2' hBX
        refine wp_region_z (fun w' : World => w'.cell? ⟨wr.heap.size, 0, none⟩ = some (.int .i64 (blk : Int)) ∧ w'.cell? ⟨wr.heap.size, 1, none⟩ = some (.int .i64 0) ∧ w'.cell? ⟨wr.heap.size, 2, none⟩ = some (.slice (some ⟨kx, 0, none⟩) 512 cb)) (fun w' => w'.cell? ⟨r, 2, none⟩ = some hi.vl) 7 (by kernel_rfl) ?_
        refine wpAnyZ.takeN (i := 0) (v := .pointer (some ⟨r, 0, none⟩)) rfl (by kernel_rfl) (by kernel_rfl) (by kernel_rfl) (by decide) (fun _ _ _ h => h) (by rfl) (fun w => ?zy) hRR (fun _ => hT) ?_
        case zy => go_simp
        (try simp only [Act.put, List.getElem_toArray, List.getElem_cons_zero, List.getElem_cons_succ, List.setIfInBounds_toArray, List.set_cons_zero, List.set_cons_succ])
        refine wpAnyZ.takeN (i := 1) (v := .pointer (some ⟨r, 0, none⟩)) rfl (by kernel_rfl) (by kernel_rfl) (by kernel_rfl) (by decide) (fun _ _ _ h => h) (by rfl) (fun w => ?zy) hRR (fun _ => hT) ?_
        case zy => go_simp
        (try simp only [Act.put, List.getElem_toArray, List.getElem_cons_zero, List.getElem_cons_succ, List.setIfInBounds_toArray, List.set_cons_zero, List.set_cons_succ])
        refine wpAnyZ.takeN (i := 2) (v := .pointer (some ⟨r, 0, none⟩)) rfl (by kernel_rfl) (by kernel_rfl) (by kernel_rfl) (by decide) (fun _ _ _ h => h) (by rfl) (fun w => ?zy) hRR (fun _ => hT) ?_
        case zy => go_simp
        (try simp only [Act.put, List.getElem_toArray, List.getElem_cons_zero, List.getElem_cons_succ, List.setIfInBounds_toArray, List.set_cons_zero, List.set_cons_succ])
        refine wpAnyZ.takeN (i := 3) (v := .pointer (some ⟨r, 2, none⟩)) rfl (by kernel_rfl) (by kernel_rfl) (by kernel_rfl) (by decide) (fun _ _ _ h => h) (by rfl) (fun w => ?zy) hRR (fun _ => hT) ?_
        case zy => go_simp
        (try simp only [Act.put, List.getElem_toArray, List.getElem_cons_zero, List.getElem_cons_succ, List.setIfInBounds_toArray, List.set_cons_zero, List.set_cons_succ])
        refine wpAnyZ.take (i := 4) (v := hi.vl) (U := fun w' => w'.cell? ⟨r, 2, none⟩ = some hi.vl) rfl (by kernel_rfl) (by kernel_rfl) (by kernel_rfl) (by decide) (fun _ _ _ h => h) (.inr ⟨fun _ h => h, by kernel_rfl⟩) (.inl (by kernel_rfl)) (.inl ⟨by rfl, fun w hw => ?zy⟩) hT hRR (fun _ => hT) ?_
        case zy => (dsimp only at hw; go_simp)
        (try simp only [Act.put, List.getElem_toArray, List.getElem_cons_zero, List.getElem_cons_succ, List.setIfInBounds_toArray, List.set_cons_zero, List.set_cons_succ])
        refine wpAnyZ.take (i := 5) (v := .agg #[.int .i64 (blk : Int), .int .i64 0, .slice (some ⟨kx, 0, none⟩) 512 cb]) (U := (fun w' : World => w'.cell? ⟨wr.heap.size, 0, none⟩ = some (.int .i64 (blk : Int)) ∧ w'.cell? ⟨wr.heap.size, 1, none⟩ = some (.int .i64 0) ∧ w'.cell? ⟨wr.heap.size, 2, none⟩ = some (.slice (some ⟨kx, 0, none⟩) 512 cb))) rfl (by kernel_rfl) (by kernel_rfl) (by kernel_rfl) (by decide) (fun _ _ _ h => h) (.inl fun _ h => h) (.inr fun _ h => h) (.inl ⟨by rfl, fun w hw => ?zy⟩) hRR hRR (fun _ => hT) ?_
        case zy => (dsimp only at hw; obtain ⟨u0, u1, u2⟩ := hw; go_simp)
        (try simp only [Act.put, List.getElem_toArray, List.getElem_cons_zero, List.getElem_cons_succ, List.setIfInBounds_toArray, List.set_cons_zero, List.set_cons_succ])
        refine wpAnyZ.oneK (i := 6) (E := False) (by kernel_rfl) rfl (by rfl) (fun K hK => ?_)
        go_simp
        have HS5 := Lib.hid ((HSB.out.drewN 1).alloc (.cells #[.int .i64 (blk : Int), .int .i64 0, .slice (some ⟨kx, 0, none⟩) 512 cb] 102))
        obtain ⟨hBX5, hT5⟩ := st_boxR hi HS5.out
        have hR5 := box3 hBX5
        refine hK.out _ _ ⟨⟨hR5, fun _ => hT5⟩, ?_⟩
        clear hK hBX5
        (try simp only [Act.put, List.getElem_toArray, List.getElem_cons_zero, List.getElem_cons_succ, List.setIfInBounds_toArray, List.set_cons_zero, List.set_cons_succ])
        refine wpAnyZ.oneK (i := 7) (E := False) (by kernel_rfl) rfl (by rfl) (fun K hK => ?_)
        refine step_appQ Try.underlying92 HILY.out.1 HILY.out.2.1 HILY.out.2.2.1 HILY.out.2.2.2 rfl (by omega) (P := [(r, rfO Di.n hi.base hi.vl hi.vc Di.armed hi.left Di.down Di.rd Di.wr Di.fl)]) (Q := hi.Ql) (T := hi.Qc ++ (hi.K ++ ((wr.heap.size, (.cells #[.int .i64 (blk : Int), .int .i64 0, .slice (some ⟨kx, 0, none⟩) 512 cb] 102)) :: T))) HS5.out hi.ql [.int .i64 (blk : Int), .int .i64 0, .slice (some ⟨kx, 0, none⟩) 512 cb] rfl (by intro u hu; simp at hu; rcases hu with rfl | rfl | rfl <;> rfl) (by have := HIL.out; omega) (by have := HIL.out; simp only [maxLen]; omega) (wr.heap.size + 1) (heap_alloc2 wr (.cells #[.int .i64 (blk : Int), .int .i64 0, .slice (some ⟨kx, 0, none⟩) 512 cb] 102) (.cells #[.int .i64 (blk : Int), .int .i64 0, .slice (some ⟨kx, 0, none⟩) 512 cb] 102)) _ _ rfl rfl rfl rfl ?_
        intro v1 w6 Q1 hq1 hS6
        obtain ⟨A1, c1, rfl⟩ := hq1.slice
        have hh6 : w6.heap[r]? = some (rfO Di.n hi.base hi.vl hi.vc Di.armed hi.left Di.down Di.rd Di.wr Di.fl) := hS6.mem (by simp)
        have hcell6 : w6.cell? ⟨r, 2, none⟩ = some hi.vl := cell_of_row w6 r 2 _ _ _ hh6
        have hfree6 := frozen_of_row w6 r 2 _ _ hh6
        have hR6 := box3 (show w6.heap[wr.heap.size]? = some (.cells #[.int .i64 (blk : Int), .int .i64 0, .slice (some ⟨kx, 0, none⟩) 512 cb] 102) from hS6.mem (by simp))
        have HPU := Lib.hid (hi.pushL ((⟨blk, 0, BB.take 512⟩ : Ly), .slice (some ⟨kx, 0, none⟩) 512 cb) (ly_cut HBL.out hmK hrx2 512 (by omega)) hq1 hS6)
        have hR7 : (w6.setCell ⟨r, 2, none⟩ (.slice A1 (hi.L.length + 1) c1)).cell? ⟨wr.heap.size, 0, none⟩ = some (.int .i64 (blk : Int)) ∧ (w6.setCell ⟨r, 2, none⟩ (.slice A1 (hi.L.length + 1) c1)).cell? ⟨wr.heap.size, 1, none⟩ = some (.int .i64 0) ∧ (w6.setCell ⟨r, 2, none⟩ (.slice A1 (hi.L.length + 1) c1)).cell? ⟨wr.heap.size, 2, none⟩ = some (.slice (some ⟨kx, 0, none⟩) 512 cb) := by
          obtain ⟨h9, -, -, hS9⟩ := HPU.out
          exact box3 (show (w6.setCell ⟨r, 2, none⟩ (.slice A1 (hi.L.length + 1) c1)).heap[wr.heap.size]? = some (.cells #[.int .i64 (blk : Int), .int .i64 0, .slice (some ⟨kx, 0, none⟩) 512 cb] 102) from hS9.mem (by simp))
        refine hK.out _ _ ⟨⟨hR6, (fun h => (have h9 : (true : Bool) = false := h; by cases h9))⟩, ?_⟩
        clear hK hT hT5 hR5 hRR hq1 hS6 hh6
        (try simp only [Act.put, List.getElem_toArray, List.getElem_cons_zero, List.getElem_cons_succ, List.setIfInBounds_toArray, List.set_cons_zero, List.set_cons_succ])
        refine wpAnyZ.takeN (i := 8) (v := .pointer (some ⟨r, 0, none⟩)) rfl (by kernel_rfl) (by kernel_rfl) (by kernel_rfl) (by decide) (fun _ _ _ h => h) (by rfl) (fun w => ?zy) hR6 (fun h => (have h9 : (true : Bool) = false := h; by cases h9)) ?_
        case zy => go_simp
        (try simp only [Act.put, List.getElem_toArray, List.getElem_cons_zero, List.getElem_cons_succ, List.setIfInBounds_toArray, List.set_cons_zero, List.set_cons_succ])
        refine wpAnyZ.takeN (i := 9) (v := .pointer (some ⟨r, 2, none⟩)) rfl (by kernel_rfl) (by kernel_rfl) (by kernel_rfl) (by decide) (fun _ _ _ h => h) (by rfl) (fun w => ?zy) hR6 (fun h => (have h9 : (true : Bool) = false := h; by cases h9)) ?_
        case zy => go_simp
        (try simp only [Act.put, List.getElem_toArray, List.getElem_cons_zero, List.getElem_cons_succ, List.setIfInBounds_toArray, List.set_cons_zero, List.set_cons_succ])
        refine wpAnyZ.oneK (i := 10) (E := False) (by kernel_rfl) rfl (by rfl) (fun K hK => ?_)
        go_simp
        refine hK.out _ _ ⟨⟨hR7, (fun h => (have h9 : (true : Bool) = false := h; by cases h9))⟩, ?_⟩
        clear hK hcell6 hfree6 hR6 hR7
        refine wpAnyZ.done (by kernel_rfl) ?_ _
        go_wp2
        go_roundw
        case rel =>
          obtain ⟨hn9, hnL, hnC, hnS⟩ := HPU.out
          exact ⟨i + 1, _, hn9, HLY.out 512 HC1.out, by omega, by omega, by go_num, by rw [crT, HC2.out]; go_num, by rw [hnC, HIC.out], by rw [hnL, List.length_append]; simp; have := HIL.out; omega, st_unbox hn9 hnS⟩
        case measure => simp [intOf]; omega
      · have k1f : ¬ (1 : Int) = kd := fun h => k1 h.symm
        by_cases k2 : kd = 2
        · subst k2
          have HC2 := Lib.hid (show crS F i = true by rw [HKS.out]; rfl)
          by_cases a0 : fa < 0
          · have HC1 := Lib.hid (show crN F i = 0 by rw [HKN.out]; show (min (max fa 0) 512).toNat = 0; omega)
            have HSB := Lib.hid (st_box hi HSi.out (.cells #[.int .i64 (blk : Int), .int .i64 0, .slice (some ⟨kx, 0, none⟩) 0 cb] 102))
            obtain ⟨hBX, hT⟩ := st_boxR hi (HSB.out.drewN 1)
            have hRR := box3 hBX
            go_upto_region 17 with fail
            clear c2 c3 g0 g1 g2 f1 f2 f1' f2' hBX
            refine wp_region_z (fun w' : World => w'.cell? ⟨wr.heap.size, 0, none⟩ = some (.int .i64 (blk : Int)) ∧ w'.cell? ⟨wr.heap.size, 1, none⟩ = some (.int .i64 0) ∧ w'.cell? ⟨wr.heap.size, 2, none⟩ = some (.slice (some ⟨kx, 0, none⟩) 0 cb)) (fun w' => w'.cell? ⟨r, 2, none⟩ = some hi.vl) 7 (by kernel_rfl) ?_
            refine wpAnyZ.takeN (i := 0) (v := .pointer (some ⟨r, 0, none⟩)) rfl (by kernel_rfl) (by kernel_rfl) (by kernel_rfl) (by decide) (fun _ _ _ h => h) (by rfl) (fun w => ?zy) hRR (fun _ => hT) ?_
            case zy => go_simp
            (try simp only [Act.put, List.getElem_toArray, List.getElem_cons_zero, List.getElem_cons_succ, List.setIfInBounds_toArray, List.set_cons_zero, List.set_cons_succ])
            refine wpAnyZ.takeN (i := 1) (v := .pointer (some ⟨r, 0, none⟩)) rfl (by kernel_rfl) (by kernel_rfl) (by kernel_rfl) (by decide) (fun _ _ _ h => h) (by rfl) (fun w => ?zy) hRR (fun _ => hT) ?_
            case zy => go_simp
            (try simp only [Act.put, List.getElem_toArray, List.getElem_cons_zero, List.getElem_cons_succ, List.setIfInBounds_toArray, List.set_cons_zero, List.set_cons_succ])
            refine wpAnyZ.takeN (i := 2) (v := .pointer (some ⟨r, 0, none⟩)) rfl (by kernel_rfl) (by kernel_rfl) (by kernel_rfl) (by decide) (fun _ _ _ h => h) (by rfl) (fun w => ?zy) hRR (fun _ => hT) ?_
            case zy => go_simp
            (try simp only [Act.put, List.getElem_toArray, List.getElem_cons_zero, List.getElem_cons_succ, List.setIfInBounds_toArray, List.set_cons_zero, List.set_cons_succ])
            refine wpAnyZ.takeN (i := 3) (v := .pointer (some ⟨r, 2, none⟩)) rfl (by kernel_rfl) (by kernel_rfl) (by kernel_rfl) (by decide) (fun _ _ _ h => h) (by rfl) (fun w => ?zy) hRR (fun _ => hT) ?_
            case zy => go_simp
            (try simp only [Act.put, List.getElem_toArray, List.getElem_cons_zero, List.getElem_cons_succ, List.setIfInBounds_toArray, List.set_cons_zero, List.set_cons_succ])
            refine wpAnyZ.take (i := 4) (v := hi.vl) (U := fun w' => w'.cell? ⟨r, 2, none⟩ = some hi.vl) rfl (by kernel_rfl) (by kernel_rfl) (by kernel_rfl) (by decide) (fun _ _ _ h => h) (.inr ⟨fun _ h => h, by kernel_rfl⟩) (.inl (by kernel_rfl)) (.inl ⟨by rfl, fun w hw => ?zy⟩) hT hRR (fun _ => hT) ?_
            case zy => (dsimp only at hw; go_simp)
            (try simp only [Act.put, List.getElem_toArray, List.getElem_cons_zero, List.getElem_cons_succ, List.setIfInBounds_toArray, List.set_cons_zero, List.set_cons_succ])
            refine wpAnyZ.take (i := 5) (v := .agg #[.int .i64 (blk : Int), .int .i64 0, .slice (some ⟨kx, 0, none⟩) 0 cb]) (U := (fun w' : World => w'.cell? ⟨wr.heap.size, 0, none⟩ = some (.int .i64 (blk : Int)) ∧ w'.cell? ⟨wr.heap.size, 1, none⟩ = some (.int .i64 0) ∧ w'.cell? ⟨wr.heap.size, 2, none⟩ = some (.slice (some ⟨kx, 0, none⟩) 0 cb))) rfl (by kernel_rfl) (by kernel_rfl) (by kernel_rfl) (by decide) (fun _ _ _ h => h) (.inl fun _ h => h) (.inr fun _ h => h) (.inl ⟨by rfl, fun w hw => ?zy⟩) hRR hRR (fun _ => hT) ?_
            case zy => (dsimp only at hw; obtain ⟨u0, u1, u2⟩ := hw; go_simp)
            (try simp only [Act.put, List.getElem_toArray, List.getElem_cons_zero, List.getElem_cons_succ, List.setIfInBounds_toArray, List.set_cons_zero, List.set_cons_succ])
            refine wpAnyZ.oneK (i := 6) (E := False) (by kernel_rfl) rfl (by rfl) (fun K hK => ?_)
            go_simp
            have HS5 := Lib.hid ((HSB.out.drewN 1).alloc (.cells #[.int .i64 (blk : Int), .int .i64 0, .slice (some ⟨kx, 0, none⟩) 0 cb] 102))
            obtain ⟨hBX5, hT5⟩ := st_boxR hi HS5.out
            have hR5 := box3 hBX5
            refine hK.out _ _ ⟨⟨hR5, fun _ => hT5⟩, ?_⟩
            clear hK hBX5
            (try simp only [Act.put, List.getElem_toArray, List.getElem_cons_zero, List.getElem_cons_succ, List.setIfInBounds_toArray, List.set_cons_zero, List.set_cons_succ])
            refine wpAnyZ.oneK (i := 7) (E := False) (by kernel_rfl) rfl (by rfl) (fun K hK => ?_)
            refine step_appQ Try.underlying92 HILY.out.1 HILY.out.2.1 HILY.out.2.2.1 HILY.out.2.2.2 rfl (by omega) (P := [(r, rfO Di.n hi.base hi.vl hi.vc Di.armed hi.left Di.down Di.rd Di.wr Di.fl)]) (Q := hi.Ql) (T := hi.Qc ++ (hi.K ++ ((wr.heap.size, (.cells #[.int .i64 (blk : Int), .int .i64 0, .slice (some ⟨kx, 0, none⟩) 0 cb] 102)) :: T))) HS5.out hi.ql [.int .i64 (blk : Int), .int .i64 0, .slice (some ⟨kx, 0, none⟩) 0 cb] rfl (by intro u hu; simp at hu; rcases hu with rfl | rfl | rfl <;> rfl) (by have := HIL.out; omega) (by have := HIL.out; simp only [maxLen]; omega) (wr.heap.size + 1) (heap_alloc2 wr (.cells #[.int .i64 (blk : Int), .int .i64 0, .slice (some ⟨kx, 0, none⟩) 0 cb] 102) (.cells #[.int .i64 (blk : Int), .int .i64 0, .slice (some ⟨kx, 0, none⟩) 0 cb] 102)) _ _ rfl rfl rfl rfl ?_
            intro v1 w6 Q1 hq1 hS6
            obtain ⟨A1, c1, rfl⟩ := hq1.slice
            have hh6 : w6.heap[r]? = some (rfO Di.n hi.base hi.vl hi.vc Di.armed hi.left Di.down Di.rd Di.wr Di.fl) := hS6.mem (by simp)
            have hcell6 : w6.cell? ⟨r, 2, none⟩ = some hi.vl := cell_of_row w6 r 2 _ _ _ hh6
            have hfree6 := frozen_of_row w6 r 2 _ _ hh6
            have hR6 := box3 (show w6.heap[wr.heap.size]? = some (.cells #[.int .i64 (blk : Int), .int .i64 0, .slice (some ⟨kx, 0, none⟩) 0 cb] 102) from hS6.mem (by simp))
            have HPU := Lib.hid (hi.pushL ((⟨blk, 0, BB.take 0⟩ : Ly), .slice (some ⟨kx, 0, none⟩) 0 cb) (ly_cut HBL.out hmK hrx2 0 (by omega)) hq1 hS6)
            have hR7 : (w6.setCell ⟨r, 2, none⟩ (.slice A1 (hi.L.length + 1) c1)).cell? ⟨wr.heap.size, 0, none⟩ = some (.int .i64 (blk : Int)) ∧ (w6.setCell ⟨r, 2, none⟩ (.slice A1 (hi.L.length + 1) c1)).cell? ⟨wr.heap.size, 1, none⟩ = some (.int .i64 0) ∧ (w6.setCell ⟨r, 2, none⟩ (.slice A1 (hi.L.length + 1) c1)).cell? ⟨wr.heap.size, 2, none⟩ = some (.slice (some ⟨kx, 0, none⟩) 0 cb) := by
              obtain ⟨h9, -, -, hS9⟩ := HPU.out
              exact box3 (show (w6.setCell ⟨r, 2, none⟩ (.slice A1 (hi.L.length + 1) c1)).heap[wr.heap.size]? = some (.cells #[.int .i64 (blk : Int), .int .i64 0, .slice (some ⟨kx, 0, none⟩) 0 cb] 102) from hS9.mem (by simp))
            refine hK.out _ _ ⟨⟨hR6, (fun h => (have h9 : (true : Bool) = false := h; by cases h9))⟩, ?_⟩
            clear hK hT hT5 hR5 hRR hq1 hS6 hh6
            (try simp only [Act.put, List.getElem_toArray, List.getElem_cons_zero, List.getElem_cons_succ, List.setIfInBounds_toArray, List.set_cons_zero, List.set_cons_succ])
            refine wpAnyZ.takeN (i := 8) (v := .pointer (some ⟨r, 0, none⟩)) rfl (by kernel_rfl) (by kernel_rfl) (by kernel_rfl) (by decide) (fun _ _ _ h => h) (by rfl) (fun w => ?zy) hR6 (fun h => (have h9 : (true : Bool) = false := h; by cases h9)) ?_
            case zy => go_simp
            (try simp only [Act.put, List.getElem_toArray, List.getElem_cons_zero, List.getElem_cons_succ, List.setIfInBounds_toArray, List.set_cons_zero, List.set_cons_succ])
            refine wpAnyZ.takeN (i := 9) (v := .pointer (some ⟨r, 2, none⟩)) rfl (by kernel_rfl) (by kernel_rfl) (by kernel_rfl) (by decide) (fun _ _ _ h => h) (by rfl) (fun w => ?zy) hR6 (fun h => (have h9 : (true : Bool) = false := h; by cases h9)) ?_
            case zy => go_simp
            (try simp only [Act.put, List.getElem_toArray, List.getElem_cons_zero, List.getElem_cons_succ, List.setIfInBounds_toArray, List.set_cons_zero, List.set_cons_succ])
            refine wpAnyZ.oneK (i := 10) (E := False) (by kernel_rfl) rfl (by rfl) (fun K hK => ?_)
            go_simp
            refine hK.out _ _ ⟨⟨hR7, (fun h => (have h9 : (true : Bool) = false := h; by cases h9))⟩, ?_⟩
            clear hK hcell6 hfree6 hR6 hR7
            refine wpAnyZ.done (by kernel_rfl) ?_ _
            go_wp2
            go_roundw
            case rel =>
              obtain ⟨hn9, hnL, hnC, hnS⟩ := HPU.out
              exact ⟨i + 1, _, hn9, HLY.out 0 HC1.out, by omega, by omega, by go_num, by rw [crT, HC2.out]; go_num, by rw [hnC, HIC.out], by rw [hnL, List.length_append]; simp; have := HIL.out; omega, st_unbox hn9 hnS⟩
            case measure => simp [intOf]; omega
          · by_cases a5 : 512 < fa
            · have HC1 := Lib.hid (show crN F i = 512 by rw [HKN.out]; show (min (max fa 0) 512).toNat = 512; omega)
              have HSB := Lib.hid (st_box hi HSi.out (.cells #[.int .i64 (blk : Int), .int .i64 0, .slice (some ⟨kx, 0, none⟩) 512 cb] 102))
              obtain ⟨hBX, hT⟩ := st_boxR hi (HSB.out.drewN 1)
              have hRR := box3 hBX
              go_upto_region 17 with fail
              clear c2 c3 g0 g1 g2 f1 f2 f1' f2' hBX
              refine wp_region_z (fun w' : World => w'.cell? ⟨wr.heap.size, 0, none⟩ = some (.int .i64 (blk : Int)) ∧ w'.cell? ⟨wr.heap.size, 1, none⟩ = some (.int .i64 0) ∧ w'.cell? ⟨wr.heap.size, 2, none⟩ = some (.slice (some ⟨kx, 0, none⟩) 512 cb)) (fun w' => w'.cell? ⟨r, 2, none⟩ = some hi.vl) 7 (by kernel_rfl) ?_
              refine wpAnyZ.takeN (i := 0) (v := .pointer (some ⟨r, 0, none⟩)) rfl (by kernel_rfl) (by kernel_rfl) (by kernel_rfl) (by decide) (fun _ _ _ h => h) (by rfl) (fun w => ?zy) hRR (fun _ => hT) ?_
              case zy => go_simp
              (try simp only [Act.put, List.getElem_toArray, List.getElem_cons_zero, List.getElem_cons_succ, List.setIfInBounds_toArray, List.set_cons_zero, List.set_cons_succ])
              refine wpAnyZ.takeN (i := 1) (v := .pointer (some ⟨r, 0, none⟩)) rfl (by kernel_rfl) (by kernel_rfl) (by kernel_rfl) (by decide) (fun _ _ _ h => h) (by rfl) (fun w => ?zy) hRR (fun _ => hT) ?_
              case zy => go_simp
              (try simp only [Act.put, List.getElem_toArray, List.getElem_cons_zero, List.getElem_cons_succ, List.setIfInBounds_toArray, List.set_cons_zero, List.set_cons_succ])
              refine wpAnyZ.takeN (i := 2) (v := .pointer (some ⟨r, 0, none⟩)) rfl (by kernel_rfl) (by kernel_rfl) (by kernel_rfl) (by decide) (fun _ _ _ h => h) (by rfl) (fun w => ?zy) hRR (fun _ => hT) ?_
              case zy => go_simp
              (try simp only [Act.put, List.getElem_toArray, List.getElem_cons_zero, List.getElem_cons_succ, List.setIfInBounds_toArray, List.set_cons_zero, List.set_cons_succ])
              refine wpAnyZ.takeN (i := 3) (v := .pointer (some ⟨r, 2, none⟩)) rfl (by kernel_rfl) (by kernel_rfl) (by kernel_rfl) (by decide) (fun _ _ _ h => h) (by rfl) (fun w => ?zy) hRR (fun _ => hT) ?_
              case zy => go_simp
              (try simp only [Act.put, List.getElem_toArray, List.getElem_cons_zero, List.getElem_cons_succ, List.setIfInBounds_toArray, List.set_cons_zero, List.set_cons_succ])
              refine wpAnyZ.take (i := 4) (v := hi.vl) (U := fun w' => w'.cell? ⟨r, 2, none⟩ = some hi.vl) rfl (by kernel_rfl) (by kernel_rfl) (by kernel_rfl) (by decide) (fun _ _ _ h => h) (.inr ⟨fun _ h => h, by kernel_rfl⟩) (.inl (by kernel_rfl)) (.inl ⟨by rfl, fun w hw => ?zy⟩) hT hRR (fun _ => hT) ?_
              case zy => (dsimp only at hw; go_simp)
              (try simp only [Act.put, List.getElem_toArray, List.getElem_cons_zero, List.getElem_cons_succ, List.setIfInBounds_toArray, List.set_cons_zero, List.set_cons_succ])
              refine wpAnyZ.take (i := 5) (v := .agg #[.int .i64 (blk : Int), .int .i64 0, .slice (some ⟨kx, 0, none⟩) 512 cb]) (U := (fun w' : World => w'.cell? ⟨wr.heap.size, 0, none⟩ = some (.int .i64 (blk : Int)) ∧ w'.cell? ⟨wr.heap.size, 1, none⟩ = some (.int .i64 0) ∧ w'.cell? ⟨wr.heap.size, 2, none⟩ = some (.slice (some ⟨kx, 0, none⟩) 512 cb))) rfl (by kernel_rfl) (by kernel_rfl) (by kernel_rfl) (by decide) (fun _ _ _ h => h) (.inl fun _ h => h) (.inr fun _ h => h) (.inl ⟨by rfl, fun w hw => ?zy⟩) hRR hRR (fun _ => hT) ?_
              case zy => (dsimp only at hw; obtain ⟨u0, u1, u2⟩ := hw; go_simp)
              (try simp only [Act.put, List.getElem_toArray, List.getElem_cons_zero, List.getElem_cons_succ, List.setIfInBounds_toArray, List.set_cons_zero, List.set_cons_succ])
              refine wpAnyZ.oneK (i := 6) (E := False) (by kernel_rfl) rfl (by rfl) (fun K hK => ?_)
              go_simp
              have HS5 := Lib.hid ((HSB.out.drewN 1).alloc (.cells #[.int .i64 (blk : Int), .int .i64 0, .slice (some ⟨kx, 0, none⟩) 512 cb] 102))
              obtain ⟨hBX5, hT5⟩ := st_boxR hi HS5.out
              have hR5 := box3 hBX5
              refine hK.out _ _ ⟨⟨hR5, fun _ => hT5⟩, ?_⟩
              clear hK hBX5
              (try simp only [Act.put, List.getElem_toArray, List.getElem_cons_zero, List.getElem_cons_succ, List.setIfInBounds_toArray, List.set_cons_zero, List.set_cons_succ])
              refine wpAnyZ.oneK (i := 7) (E := False) (by kernel_rfl) rfl (by rfl) (fun K hK => ?_)
              refine step_appQ Try.underlying92 HILY.out.1 HILY.out.2.1 HILY.out.2.2.1 HILY.out.2.2.2 rfl (by omega) (P := [(r, rfO Di.n hi.base hi.vl hi.vc Di.armed hi.left Di.down Di.rd Di.wr Di.fl)]) (Q := hi.Ql) (T := hi.Qc ++ (hi.K ++ ((wr.heap.size, (.cells #[.int .i64 (blk : Int), .int .i64 0, .slice (some ⟨kx, 0, none⟩) 512 cb] 102)) :: T))) HS5.out hi.ql [.int .i64 (blk : Int), .int .i64 0, .slice (some ⟨kx, 0, none⟩) 512 cb] rfl (by intro u hu; simp at hu; rcases hu with rfl | rfl | rfl <;> rfl) (by have := HIL.out; omega) (by have := HIL.out; simp only [maxLen]; omega) (wr.heap.size + 1) (heap_alloc2 wr (.cells #[.int .i64 (blk : Int), .int .i64 0, .slice (some ⟨kx, 0, none⟩) 512 cb] 102) (.cells #[.int .i64 (blk : Int), .int .i64 0, .slice (some ⟨kx, 0, none⟩) 512 cb] 102)) _ _ rfl rfl rfl rfl ?_
              intro v1 w6 Q1 hq1 hS6
              obtain ⟨A1, c1, rfl⟩ := hq1.slice
              have hh6 : w6.heap[r]? = some (rfO Di.n hi.base hi.vl hi.vc Di.armed hi.left Di.down Di.rd Di.wr Di.fl) := hS6.mem (by simp)
              have hcell6 : w6.cell? ⟨r, 2, none⟩ = some hi.vl := cell_of_row w6 r 2 _ _ _ hh6
              have hfree6 := frozen_of_row w6 r 2 _ _ hh6
              have hR6 := box3 (show w6.heap[wr.heap.size]? = some (.cells #[.int .i64 (blk : Int), .int .i64 0, .slice (some ⟨kx, 0, none⟩) 512 cb] 102) from hS6.mem (by simp))
              have HPU := Lib.hid (hi.pushL ((⟨blk, 0, BB.take 512⟩ : Ly), .slice (some ⟨kx, 0, none⟩) 512 cb) (ly_cut HBL.out hmK hrx2 512 (by omega)) hq1 hS6)
              have hR7 : (w6.setCell ⟨r, 2, none⟩ (.slice A1 (hi.L.length + 1) c1)).cell? ⟨wr.heap.size, 0, none⟩ = some (.int .i64 (blk : Int)) ∧ (w6.setCell ⟨r, 2, none⟩ (.slice A1 (hi.L.length + 1) c1)).cell? ⟨wr.heap.size, 1, none⟩ = some (.int .i64 0) ∧ (w6.setCell ⟨r, 2, none⟩ (.slice A1 (hi.L.length + 1) c1)).cell? ⟨wr.heap.size, 2, none⟩ = some (.slice (some ⟨kx, 0, none⟩) 512 cb) := by
                obtain ⟨h9, -, -, hS9⟩ := HPU.out
                exact box3 (show (w6.setCell ⟨r, 2, none⟩ (.slice A1 (hi.L.length + 1) c1)).heap[wr.heap.size]? = some (.cells #[.int .i64 (blk : Int), .int .i64 0, .slice (some ⟨kx, 0, none⟩) 512 cb] 102) from hS9.mem (by simp))
              refine hK.out _ _ ⟨⟨hR6, (fun h => (have h9 : (true : Bool) = false := h; by cases h9))⟩, ?_⟩
              clear hK hT hT5 hR5 hRR hq1 hS6 hh6
              (try simp only [Act.put, List.getElem_toArray, List.getElem_cons_zero, List.getElem_cons_succ, List.setIfInBounds_toArray, List.set_cons_zero, List.set_cons_succ])
              refine wpAnyZ.takeN (i := 8) (v := .pointer (some ⟨r, 0, none⟩)) rfl (by kernel_rfl) (by kernel_rfl) (by kernel_rfl) (by decide) (fun _ _ _ h => h) (by rfl) (fun w => ?zy) hR6 (fun h => (have h9 : (true : Bool) = false := h; by cases h9)) ?_
              case zy => go_simp
              (try simp only [Act.put, List.getElem_toArray, List.getElem_cons_zero, List.getElem_cons_succ, List.setIfInBounds_toArray, List.set_cons_zero, List.set_cons_succ])
              refine wpAnyZ.takeN (i := 9) (v := .pointer (some ⟨r, 2, none⟩)) rfl (by kernel_rfl) (by kernel_rfl) (by kernel_rfl) (by decide) (fun _ _ _ h => h) (by rfl) (fun w => ?zy) hR6 (fun h => (have h9 : (true : Bool) = false := h; by cases h9)) ?_
              case zy => go_simp
              (try simp only [Act.put, List.getElem_toArray, List.getElem_cons_zero, List.getElem_cons_succ, List.setIfInBounds_toArray, List.set_cons_zero, List.set_cons_succ])
              refine wpAnyZ.oneK (i := 10) (E := False) (by kernel_rfl) rfl (by rfl) (fun K hK => ?_)
              go_simp
              refine hK.out _ _ ⟨⟨hR7, (fun h => (have h9 : (true : Bool) = false := h; by cases h9))⟩, ?_⟩
              clear hK hcell6 hfree6 hR6 hR7
              refine wpAnyZ.done (by kernel_rfl) ?_ _
              go_wp2
              go_roundw
              case rel =>
                obtain ⟨hn9, hnL, hnC, hnS⟩ := HPU.out
                exact ⟨i + 1, _, hn9, HLY.out 512 HC1.out, by omega, by omega, by go_num, by rw [crT, HC2.out]; go_num, by rw [hnC, HIC.out], by rw [hnL, List.length_append]; simp; have := HIL.out; omega, st_unbox hn9 hnS⟩
              case measure => simp [intOf]; omega
            · obtain ⟨m, rfl⟩ : ∃ m : Nat, fa = m := ⟨fa.toNat, by omega⟩
              have HC1 := Lib.hid (show crN F i = m by rw [HKN.out]; show (min (max (m : Int) 0) 512).toNat = m; omega)
              have HSB := Lib.hid (st_box hi HSi.out (.cells #[.int .i64 (blk : Int), .int .i64 0, .slice (some ⟨kx, 0, none⟩) m cb] 102))
              obtain ⟨hBX, hT⟩ := st_boxR hi (HSB.out.drewN 1)
              have hRR := box3 hBX
              go_upto_region 17 with fail
              clear c2 c3 g0 g1 g2 f1 f2 f1' f2' hBX
              refine wp_region_z (fun w' : World => w'.cell? ⟨wr.heap.size, 0, none⟩ = some (.int .i64 (blk : Int)) ∧ w'.cell? ⟨wr.heap.size, 1, none⟩ = some (.int .i64 0) ∧ w'.cell? ⟨wr.heap.size, 2, none⟩ = some (.slice (some ⟨kx, 0, none⟩) m cb)) (fun w' => w'.cell? ⟨r, 2, none⟩ = some hi.vl) 7 (by kernel_rfl) ?_
              refine wpAnyZ.takeN (i := 0) (v := .pointer (some ⟨r, 0, none⟩)) rfl (by kernel_rfl) (by kernel_rfl) (by kernel_rfl) (by decide) (fun _ _ _ h => h) (by rfl) (fun w => ?zy) hRR (fun _ => hT) ?_
              case zy => go_simp
              (try simp only [Act.put, List.getElem_toArray, List.getElem_cons_zero, List.getElem_cons_succ, List.setIfInBounds_toArray, List.set_cons_zero, List.set_cons_succ])
              refine wpAnyZ.takeN (i := 1) (v := .pointer (some ⟨r, 0, none⟩)) rfl (by kernel_rfl) (by kernel_rfl) (by kernel_rfl) (by decide) (fun _ _ _ h => h) (by rfl) (fun w => ?zy) hRR (fun _ => hT) ?_
              case zy => go_simp
              (try simp only [Act.put, List.getElem_toArray, List.getElem_cons_zero, List.getElem_cons_succ, List.setIfInBounds_toArray, List.set_cons_zero, List.set_cons_succ])
              refine wpAnyZ.takeN (i := 2) (v := .pointer (some ⟨r, 0, none⟩)) rfl (by kernel_rfl) (by kernel_rfl) (by kernel_rfl) (by decide) (fun _ _ _ h => h) (by rfl) (fun w => ?zy) hRR (fun _ => hT) ?_
              case zy => go_simp
              (try simp only [Act.put, List.getElem_toArray, List.getElem_cons_zero, List.getElem_cons_succ, List.setIfInBounds_toArray, List.set_cons_zero, List.set_cons_succ])
              refine wpAnyZ.takeN (i := 3) (v := .pointer (some ⟨r, 2, none⟩)) rfl (by kernel_rfl) (by kernel_rfl) (by kernel_rfl) (by decide) (fun _ _ _ h => h) (by rfl) (fun w => ?zy) hRR (fun _ => hT) ?_
              case zy => go_simp
              (try simp only [Act.put, List.getElem_toArray, List.getElem_cons_zero, List.getElem_cons_succ, List.setIfInBounds_toArray, List.set_cons_zero, List.set_cons_succ])
              refine wpAnyZ.take (i := 4) (v := hi.vl) (U := fun w' => w'.cell? ⟨r, 2, none⟩ = some hi.vl) rfl (by kernel_rfl) (by kernel_rfl) (by kernel_rfl) (by decide) (fun _ _ _ h => h) (.inr ⟨fun _ h => h, by kernel_rfl⟩) (.inl (by kernel_rfl)) (.inl ⟨by rfl, fun w hw => ?zy⟩) hT hRR (fun _ => hT) ?_
              case zy => (dsimp only at hw; go_simp)
              (try simp only [Act.put, List.getElem_toArray, List.getElem_cons_zero, List.getElem_cons_succ, List.setIfInBounds_toArray, List.set_cons_zero, List.set_cons_succ])
              refine wpAnyZ.take (i := 5) (v := .agg #[.int .i64 (blk : Int), .int .i64 0, .slice (some ⟨kx, 0, none⟩) m cb]) (U := (fun w' : World => w'.cell? ⟨wr.heap.size, 0, none⟩ = some (.int .i64 (blk : Int)) ∧ w'.cell? ⟨wr.heap.size, 1, none⟩ = some (.int .i64 0) ∧ w'.cell? ⟨wr.heap.size, 2, none⟩ = some (.slice (some ⟨kx, 0, none⟩) m cb))) rfl (by kernel_rfl) (by kernel_rfl) (by kernel_rfl) (by decide) (fun _ _ _ h => h) (.inl fun _ h => h) (.inr fun _ h => h) (.inl ⟨by rfl, fun w hw => ?zy⟩) hRR hRR (fun _ => hT) ?_
              case zy => (dsimp only at hw; obtain ⟨u0, u1, u2⟩ := hw; go_simp)
              (try simp only [Act.put, List.getElem_toArray, List.getElem_cons_zero, List.getElem_cons_succ, List.setIfInBounds_toArray, List.set_cons_zero, List.set_cons_succ])
              refine wpAnyZ.oneK (i := 6) (E := False) (by kernel_rfl) rfl (by rfl) (fun K hK => ?_)
              go_simp
              have HS5 := Lib.hid ((HSB.out.drewN 1).alloc (.cells #[.int .i64 (blk : Int), .int .i64 0, .slice (some ⟨kx, 0, none⟩) m cb] 102))
              obtain ⟨hBX5, hT5⟩ := st_boxR hi HS5.out
              have hR5 := box3 hBX5
              refine hK.out _ _ ⟨⟨hR5, fun _ => hT5⟩, ?_⟩
              clear hK hBX5
              (try simp only [Act.put, List.getElem_toArray, List.getElem_cons_zero, List.getElem_cons_succ, List.setIfInBounds_toArray, List.set_cons_zero, List.set_cons_succ])
              refine wpAnyZ.oneK (i := 7) (E := False) (by kernel_rfl) rfl (by rfl) (fun K hK => ?_)
              refine step_appQ Try.underlying92 HILY.out.1 HILY.out.2.1 HILY.out.2.2.1 HILY.out.2.2.2 rfl (by omega) (P := [(r, rfO Di.n hi.base hi.vl hi.vc Di.armed hi.left Di.down Di.rd Di.wr Di.fl)]) (Q := hi.Ql) (T := hi.Qc ++ (hi.K ++ ((wr.heap.size, (.cells #[.int .i64 (blk : Int), .int .i64 0, .slice (some ⟨kx, 0, none⟩) m cb] 102)) :: T))) HS5.out hi.ql [.int .i64 (blk : Int), .int .i64 0, .slice (some ⟨kx, 0, none⟩) m cb] rfl (by intro u hu; simp at hu; rcases hu with rfl | rfl | rfl <;> rfl) (by have := HIL.out; omega) (by have := HIL.out; simp only [maxLen]; omega) (wr.heap.size + 1) (heap_alloc2 wr (.cells #[.int .i64 (blk : Int), .int .i64 0, .slice (some ⟨kx, 0, none⟩) m cb] 102) (.cells #[.int .i64 (blk : Int), .int .i64 0, .slice (some ⟨kx, 0, none⟩) m cb] 102)) _ _ rfl rfl rfl rfl ?_
              intro v1 w6 Q1 hq1 hS6
              obtain ⟨A1, c1, rfl⟩ := hq1.slice
              have hh6 : w6.heap[r]? = some (rfO Di.n hi.base hi.vl hi.vc Di.armed hi.left Di.down Di.rd Di.wr Di.fl) := hS6.mem (by simp)
              have hcell6 : w6.cell? ⟨r, 2, none⟩ = some hi.vl := cell_of_row w6 r 2 _ _ _ hh6
              have hfree6 := frozen_of_row w6 r 2 _ _ hh6
              have hR6 := box3 (show w6.heap[wr.heap.size]? = some (.cells #[.int .i64 (blk : Int), .int .i64 0, .slice (some ⟨kx, 0, none⟩) m cb] 102) from hS6.mem (by simp))
              have HPU := Lib.hid (hi.pushL ((⟨blk, 0, BB.take m⟩ : Ly), .slice (some ⟨kx, 0, none⟩) m cb) (ly_cut HBL.out hmK hrx2 m (by omega)) hq1 hS6)
              have hR7 : (w6.setCell ⟨r, 2, none⟩ (.slice A1 (hi.L.length + 1) c1)).cell? ⟨wr.heap.size, 0, none⟩ = some (.int .i64 (blk : Int)) ∧ (w6.setCell ⟨r, 2, none⟩ (.slice A1 (hi.L.length + 1) c1)).cell? ⟨wr.heap.size, 1, none⟩ = some (.int .i64 0) ∧ (w6.setCell ⟨r, 2, none⟩ (.slice A1 (hi.L.length + 1) c1)).cell? ⟨wr.heap.size, 2, none⟩ = some (.slice (some ⟨kx, 0, none⟩) m cb) := by
                obtain ⟨h9, -, -, hS9⟩ := HPU.out
                exact box3 (show (w6.setCell ⟨r, 2, none⟩ (.slice A1 (hi.L.length + 1) c1)).heap[wr.heap.size]? = some (.cells #[.int .i64 (blk : Int), .int .i64 0, .slice (some ⟨kx, 0, none⟩) m cb] 102) from hS9.mem (by simp))
              refine hK.out _ _ ⟨⟨hR6, (fun h => (have h9 : (true : Bool) = false := h; by cases h9))⟩, ?_⟩
              clear hK hT hT5 hR5 hRR hq1 hS6 hh6
              (try simp only [Act.put, List.getElem_toArray, List.getElem_cons_zero, List.getElem_cons_succ, List.setIfInBounds_toArray, List.set_cons_zero, List.set_cons_succ])
              refine wpAnyZ.takeN (i := 8) (v := .pointer (some ⟨r, 0, none⟩)) rfl (by kernel_rfl) (by kernel_rfl) (by kernel_rfl) (by decide) (fun _ _ _ h => h) (by rfl) (fun w => ?zy) hR6 (fun h => (have h9 : (true : Bool) = false := h; by cases h9)) ?_
              case zy => go_simp
              (try simp only [Act.put, List.getElem_toArray, List.getElem_cons_zero, List.getElem_cons_succ, List.setIfInBounds_toArray, List.set_cons_zero, List.set_cons_succ])
              refine wpAnyZ.takeN (i := 9) (v := .pointer (some ⟨r, 2, none⟩)) rfl (by kernel_rfl) (by kernel_rfl) (by kernel_rfl) (by decide) (fun _ _ _ h => h) (by rfl) (fun w => ?zy) hR6 (fun h => (have h9 : (true : Bool) = false := h; by cases h9)) ?_
              case zy => go_simp
              (try simp only [Act.put, List.getElem_toArray, List.getElem_cons_zero, List.getElem_cons_succ, List.setIfInBounds_toArray, List.set_cons_zero, List.set_cons_succ])
              refine wpAnyZ.oneK (i := 10) (E := False) (by kernel_rfl) rfl (by rfl) (fun K hK => ?_)
              go_simp
              refine hK.out _ _ ⟨⟨hR7, (fun h => (have h9 : (true : Bool) = false := h; by cases h9))⟩, ?_⟩
              clear hK hcell6 hfree6 hR6 hR7
              refine wpAnyZ.done (by kernel_rfl) ?_ _
              go_wp2
              go_roundw
              case rel =>
                obtain ⟨hn9, hnL, hnC, hnS⟩ := HPU.out
                exact ⟨i + 1, _, hn9, HLY.out m HC1.out, by omega, by omega, by go_num, by rw [crT, HC2.out]; go_num, by rw [hnC, HIC.out], by rw [hnL, List.length_append]; simp; have := HIL.out; omega, st_unbox hn9 hnS⟩
              case measure => simp [intOf]; omega
        · have HC1 := Lib.hid (show crN F i = 0 by rw [HKN.out]; unfold ftN; rw [if_neg k1, if_neg k2])
          have HC2 := Lib.hid (show crS F i = false by rw [HKS.out]; unfold ftS; simp [k1, k2])
          have HS9 := Lib.hid (HSi.out.alloc (.cells #[.int .i64 (blk : Int), .int .i64 0, .slice (some ⟨kx, 0, none⟩) 512 cb] 102))
          have HND := Lib.hid (HLY0.out HC1.out)
          go_wp2
          go_roundw
          case rel => exact ⟨i + 1, Di, hi, HND.out, by omega, by omega, by go_num, by rw [crT, HC2.out]; rfl, HIC.out, by have := HIL.out; omega, HS9.out⟩
          case measure => simp [intOf]; omega
    · have HE := Lib.hid (show i = q ∨ n ≤ i by omega)
      obtain ⟨Ac, cc, hvc⟩ := hi.qc.slice
      rw [hnl] at hvc
      rw [hvc] at c3
      have f3 := hi.free hSi 3
      have f4 := hi.free hSi 4
      have f6 := hi.free hSi 6
      obtain ⟨h1, hL1, hC1, hS1⟩ := hi.dropC hSi
      have hh1 := h1.heap hS1
      have HW := Lib.hid (h1.setW hS1 (w' := ((wr.setCell ⟨r, 3, none⟩ (.slice none 0 0)).setCell ⟨r, 6, none⟩ (.bool false)).setCell ⟨r, 4, none⟩ (.bool false)) { Di with C := [], down := false, armed := false, left := 0 } h1.left rfl rfl rfl (fun h => by cases h) (((Only.refl [r] _).setCell (by simp) _).setCell (by simp) _) (by
        rw [heap_setCell_same _ r 4 _ _ _ (heap_setCell_same _ r 6 _ _ (.bool false) hh1)]; rfl))
      have HEND := Lib.hid (show ({ Di with C := [], down := false, armed := false, left := 0 } : DS) = crD D F by
        have h9 := cr_end (N := D.n) F D.C D.M i (by rw [HDC.out, ← HQ.out, HFL.out]; exact HE.out) (by rw [HDC.out, ← HQ.out]; exact hiq) (by rw [h.hC]; intro x hx; obtain ⟨p, hp, rfl⟩ := List.mem_map.1 hx; exact ⟨(h.co p hp).1.blk, (h.co p hp).2.2⟩) h.mlen
        unfold crD
        rw [← h9, hDi])
      have HCT := Lib.hid (show crT F D.C.length = crT F i from crT_min F _ i (by rw [HDC.out, ← HQ.out, HFL.out]; exact HE.out) (by rw [HDC.out, ← HQ.out]; exact hiq))
      rw [HEND.out] at HW
      have HL1 := Lib.hid (And.intro hL1 hC1)
      have HFIN := Lib.hid (show ∃ h' : RfOk r (crD D F), h'.L.length ≤ h.L.length + h.C.length ∧ h'.C = [] ∧ St w0 (((wr.setCell ⟨r, 3, none⟩ (.slice none 0 0)).setCell ⟨r, 6, none⟩ (.bool false)).setCell ⟨r, 4, none⟩ (.bool false)) b g vp Dp (h'.rows ++ T) from by
        obtain ⟨h9, hLC, hS9⟩ := HW.out
        exact ⟨h9, by rw [hLC.1, hL1]; have := HQ.out; omega, by rw [hLC.2, hC1], hS9⟩)
      have hu : wr.cell? ⟨r, 4, none⟩ = some (.bool Di.armed) ∧ wr.cell? ⟨r, 6, none⟩ = some (.bool Di.down) := ⟨hcc.2.2.2.2.1, hcc.2.2.2.2.2.2.1⟩
      by_cases hin3 : i < q
      · have hi8 : (i : Int) < (q : Int) ∧ ¬ (i : Int) < (n : Int) := by omega
        clear hSi hcc hDi hiC hiL hS1 hh1 hL1 hC1 hvc hin2 hin3
        go_wp2
        go_ret
        exact ⟨by rw [HCT.out]; rfl, HFIN.out⟩
      · have hi8 : ¬ (i : Int) < (q : Int) := by omega
        clear hSi hcc hDi hiC hiL hS1 hh1 hL1 hC1 hvc hin2 hin3
        go_wp2
        go_ret
        exact ⟨by rw [HCT.out]; rfl, HFIN.out⟩
end
end Go.Proofs.Ytggoaelbglhehaa
/- Two devices, the program's and the reference's, beside one another: what each call tells, rows of answers at the end; a second pair turned to the front. -/
set_option linter.unusedVariables false
set_option linter.unusedSimpArgs false
set_option maxRecDepth 100000
namespace Go.Proofs.Ytggoaelbglhehaa
open Go.RowKit
section
variable {w0 w w' : World} {b g : Nat} {vp : Value} {Dp D : DS} {r : Nat} {T : List (Nat × Obj)}
theorem assocT {h : RfOk r D} {R1 : List (Nat × Obj)} (hS : St w0 w b g vp Dp ((h.rows ++ T) ++ R1)) : St w0 w b g vp Dp (h.rows ++ (T ++ R1)) := by rwa [← List.append_assoc]
theorem rf_ReadG (num : Int) (h : RfOk r D) (hS : St w0 w b g vp Dp (h.rows ++ T)) (hrd : D.rd < 9223372036854775807) (hLn : h.L.length ≤ 100000000000) (hCn : h.C.length ≤ 100000000000) :
    Calls Try.prog 60 #[.pointer (some ⟨r, 0, none⟩), .int .i64 num] w fun e w' => ∃ A n c R1, e = .returned (.tuple #[.slice A n c, .int .i64 (rdG D num).2.1]) ∧ (∀ W : World, (∀ p ∈ R1, W.heap[p.1]? = some p.2) → Rd W A n c (rdG D num).1) ∧ (n = 0 ∨ (rdG D num).2.1 = 0) ∧ ∃ h' : RfOk r (rdG D num).2.2, (h'.L.length = h.L.length ∧ h'.C.length = h.C.length) ∧ St w0 w' b g vp Dp (h'.rows ++ (T ++ R1)) := by
  by_cases hn : 0 ≤ num ∧ num < (D.n : Int)
  · by_cases hd : D.down = true
    · rw [show rdG D num = ([], 6, D) by unfold rdG; rw [if_neg (by simpa using hn), if_pos hd]]
      refine (rf_Read_down num h hS hn hd).mono ?_
      rintro e w' ⟨rfl, rfl⟩
      exact ⟨none, 0, 0, [], rfl, fun W _ => Rd.nil W, .inl rfl, h, ⟨rfl, rfl⟩, assocT hS.app0⟩
    · obtain ⟨k, rfl⟩ : ∃ k : Nat, num = k := ⟨num.toNat, by omega⟩
      rw [show rdG D k = (rdB D k, 0, { D with rd := D.rd + 1 }) by unfold rdG; rw [if_neg (by simpa using hn), if_neg hd, Int.toNat_natCast]]
      refine (rf_Read k h hS (by omega) (by simpa using hd) hrd hLn hCn).mono ?_
      rintro e w' ⟨j, o, rfl, hr, h', hL, hS'⟩
      have h1 := congrArg List.length h'.hC
      have h2 := congrArg List.length h.hC
      rw [List.length_map] at h1 h2
      exact ⟨_, 512, 512, [(j, o)], rfl, row_rd hr (by omega), .inr rfl, h', ⟨hL, h1.symm.trans h2⟩, assocT hS'.back⟩
  · rw [show rdG D num = ([], 60, D) by unfold rdG; rw [if_pos hn]]
    refine (rf_Read_bad num h hS hn).mono ?_
    rintro e w' ⟨rfl, rfl⟩
    exact ⟨none, 0, 0, [], rfl, fun W _ => Rd.nil W, .inl rfl, h, ⟨rfl, rfl⟩, assocT hS.app0⟩
theorem rf_MediumG (h : RfOk r D) (hS : St w0 w b g vp Dp (h.rows ++ T)) (hLn : h.L.length ≤ 100000000000) :
    Calls Try.prog 35 #[.pointer (some ⟨r, 0, none⟩)] w fun e w' => ∃ A c R1, e = .returned (.slice A (D.n * 512) c) ∧ (∀ W : World, (∀ p ∈ R1, W.heap[p.1]? = some p.2) → Rd W A (D.n * 512) c D.M) ∧ St w0 w' b g vp Dp (h.rows ++ (T ++ R1)) := by
  have hs := h.sm
  refine (rf_Medium h hS hLn).mono ?_
  rintro e w' ⟨j, c, o, rfl, hr, hS'⟩
  exact ⟨_, c, [(j, o)], rfl, row_rd hr (by omega), assocT hS'.back⟩
theorem rf_CountsG (h : RfOk r D) (hS : St w0 w b g vp Dp (h.rows ++ T)) :
    Calls Try.prog 33 #[.pointer (some ⟨r, 0, none⟩)] w fun e w' => e = .returned (cntV D) ∧ St w0 w' b g vp Dp (h.rows ++ T) :=
  (rf_Counts h hS).mono fun e w' ⟨h1, h2⟩ => ⟨h1, hS.below h2⟩
end
/-! ### sides: the struct of two pointers -/
end Go.Proofs.Ytggoaelbglhehaa
/- Read of the reference's superblocks over a pair of devices. -/
set_option linter.unusedVariables false
set_option linter.unusedSimpArgs false
set_option maxRecDepth 100000
namespace Go.Proofs.Ytggoaelbglhehaa
open Go.RowKit SumMath
theorem anB_par (D : DS) : ∀ i, (anB D i).1.gen = 0 ∨ (anB D i).2 = (anB D i).1.gen % 2
  | 0 => .inl rfl
  | i + 1 => by
    have ih := anB_par D i
    show (if (decG (rdB D i)).2 = 0 ∧ Vld (decG (rdB D i)).1 D.n ∧ (decG (rdB D i)).1.gen % 2 = i ∧ (anB D i).1.gen < (decG (rdB D i)).1.gen then ((decG (rdB D i)).1, (i : Int)) else anB D i).1.gen = 0 ∨ (if (decG (rdB D i)).2 = 0 ∧ Vld (decG (rdB D i)).1 D.n ∧ (decG (rdB D i)).1.gen % 2 = i ∧ (anB D i).1.gen < (decG (rdB D i)).1.gen then ((decG (rdB D i)).1, (i : Int)) else anB D i).2 = (if (decG (rdB D i)).2 = 0 ∧ Vld (decG (rdB D i)).1 D.n ∧ (decG (rdB D i)).1.gen % 2 = i ∧ (anB D i).1.gen < (decG (rdB D i)).1.gen then ((decG (rdB D i)).1, (i : Int)) else anB D i).1.gen % 2
    by_cases h : (decG (rdB D i)).2 = 0 ∧ Vld (decG (rdB D i)).1 D.n ∧ (decG (rdB D i)).1.gen % 2 = i ∧ (anB D i).1.gen < (decG (rdB D i)).1.gen
    · rw [if_pos h]; exact .inr h.2.2.1.symm
    · rw [if_neg h]; exact ih
theorem anB_gen0 (D : DS) : ∀ i, 0 ≤ (anB D i).1.gen
  | 0 => Int.le_refl _
  | i + 1 => by
    have ih := anB_gen0 D i
    show 0 ≤ (if (decG (rdB D i)).2 = 0 ∧ Vld (decG (rdB D i)).1 D.n ∧ (decG (rdB D i)).1.gen % 2 = i ∧ (anB D i).1.gen < (decG (rdB D i)).1.gen then ((decG (rdB D i)).1, (i : Int)) else anB D i).1.gen
    by_cases h : (decG (rdB D i)).2 = 0 ∧ Vld (decG (rdB D i)).1 D.n ∧ (decG (rdB D i)).1.gen % 2 = i ∧ (anB D i).1.gen < (decG (rdB D i)).1.gen
    · rw [if_pos h]; have := h.2.2.2; show 0 ≤ (decG (rdB D i)).1.gen; omega
    · rw [if_neg h]; exact ih
section
variable {w0 w w' : World} {b g : Nat} {vp : Value} {Dp D : DS} {r : Nat} {T : List (Nat × Obj)}
theorem drew_heap (W : World) : W.drew.heap = W.heap := rfl
theorem St.drew1 {R : List (Nat × Obj)} (h : St w0 w b g vp Dp R) : St w0 w.drew b g vp Dp R := h.drewN 1
theorem St.inT {A : List (Nat × Obj)} {x : Nat × Obj} (h : St w0 w b g vp Dp (x :: (A ++ T))) : St w0 w b g vp Dp (A ++ (x :: T)) := h.perm List.perm_middle.symm
set_option maxHeartbeats 4000000 in
theorem rf_anRead (h : RfOk r D) (hS : St w0 w b g vp Dp (h.rows ++ T)) (hrd : D.rd < 9000000000000000000) (hLn : h.L.length ≤ 100000000) (hCn : h.C.length ≤ 100000000) :
    Calls Try.prog 31 #[.pointer (some ⟨r, 0, none⟩)] w fun e w' => e = .returned (.tuple #[.agg (spC (anR D).1), .int .i64 (anR D).2.1, .int .i64 (anR D).2.2.1]) ∧ ∃ h' : RfOk r (anR D).2.2.2, (h'.L.length = h.L.length ∧ h'.C.length = h.C.length) ∧ St w0 w' b g vp Dp (h'.rows ++ T) := by
  obtain ⟨q, hq0⟩ : ∃ q, q = w.heap.size := ⟨_, rfl⟩
  have hB0 := (Below.refl _ w).alloc (Nat.le_refl _) (spO zSp)
  have hS1 := (hS.new hB0 (Nat.le_refl _) (heap_alloc_new w (spO zSp))).inT
  have hS2 := (hS1.new ((Below.refl _ (w.alloc (spO zSp))).alloc (Nat.le_refl _) (spO zSp)) (Nat.le_refl _) (heap_alloc_new (w.alloc (spO zSp)) (spO zSp))).inT
  rw [World.size_alloc] at hS2
  have HSM := Lib.hid h.sm
  have HS2 := Lib.hid hS2
  have HAR := Lib.hid (show anR D = if D.down = true then (zSp, 0, 6, D) else if (anB D 2).1.gen = 0 then (zSp, 0, 5, { D with rd := D.rd + 2 }) else ((anB D 2).1, (anB D 2).2, 0, { D with rd := D.rd + 2 }) from rfl)
  have HPR := Lib.hid (anB_par D 2)
  have HG0 := Lib.hid (anB_gen0 D 2)
  have HRD := Lib.hid hrd
  have HLN := Lib.hid hLn
  have HCN := Lib.hid hCn
  clear hS hS1 hS2 hB0 hrd hLn hCn
  go_enter Try.func31, Try.ntmps31
  go_upto_region 5 with (fail)
  obtain ⟨W2, hW2⟩ : ∃ W2, W2 = (w.alloc (.cells #[.int .i64 0, .int .i64 0, .int .i64 0, .int .i64 0, .int .i64 0, .int .i64 0, .int .i64 0, .int .i64 0, .int .i64 0] 25)).alloc (.cells #[.int .i64 0, .int .i64 0, .int .i64 0, .int .i64 0, .int .i64 0, .int .i64 0, .int .i64 0, .int .i64 0, .int .i64 0] 25) := ⟨_, rfl⟩
  have HSW := Lib.hid (show St w0 W2 b g vp Dp (h.rows ++ ((q + 1, spO zSp) :: (q, spO zSp) :: T)) by rw [hW2, hq0]; exact HS2.out)
  have HQ := Lib.hid hq0
  rw [← hW2, ← hq0]
  clear hW2 HS2 hq0
  go_loopw [6, 7, 8, 9, 10] (fun x _ _ _ _ wx => ∃ i : Nat, i ≤ 2 ∧ (D.down = true → i = 0) ∧ x = .int .i64 i ∧ ∃ h' : RfOk r { D with rd := D.rd + i }, (h'.L.length = h.L.length ∧ h'.C.length = h.C.length) ∧ St w0 wx b g vp Dp (h'.rows ++ ((q + 1, spO (anB D i).1) :: (q, spO zSp) :: T))) (fun x _ _ _ _ _ => 2 - (intOf x).toNat)
  case atStart => exact ⟨0, by omega, fun _ => rfl, rfl, h, ⟨rfl, rfl⟩, HSW.out⟩
  case round =>
    obtain ⟨i, hi, hdi, rfl, hr, hll, hS⟩ := hrel
    have HLL := Lib.hid hll
    have HSi := Lib.hid hS
    clear hll
    by_cases hi2 : i < 2
    · have hii : (0 : Int) ≤ (i : Int) ∧ (i : Int) < 2 := by omega
      have hdev : 0 ≤ (i : Int) ∧ (i : Int) < (({ D with rd := D.rd + i } : DS).n : Int) := by show 0 ≤ (i : Int) ∧ (i : Int) < (D.n : Int); have := HSM.out; omega
      have HRG := Lib.hid (rf_ReadG (i : Int) hr hS (by show D.rd + i < _; have := HRD.out; omega) (by have := HLN.out; have := HLL.out; omega) (by have := HCN.out; have := HLL.out; omega))
      by_cases hdn : D.down = true
      · obtain rfl : i = 0 := hdi hdn
        have hG : rdG { D with rd := D.rd + 0 } ((0 : Nat) : Int) = ([], 6, D) := by unfold rdG; rw [if_neg (fun h => h hdev), if_pos hdn]; rfl
        rw [hG] at HRG
        have HD := Lib.hid (show anR D = (zSp, 0, 6, D) by rw [HAR.out, if_pos hdn])
        clear hS hG hdev hdn
        go_wp2_with fail
        refine HRG.out.mono ?_
        rintro e w3 ⟨A3, n3, c3, R3, rfl, hr3, hz3, h3, hl3, hS3⟩
        have HL3 := Lib.hid (show h3.L.length = h.L.length ∧ h3.C.length = h.C.length by have := HLL.out; omega)
        have hq3 : w3.heap[q]? = some (.cells (spC zSp) 25 (0, 0)) := hS3.mem (show (q, spO zSp) ∈ _ by simp)
        have hcq := cell9 hq3
        have hfq := free9 hq3
        unfold zSp at hcq
        dsimp only at hcq
        have HQ3 := Lib.hid hq3
        have HS3 := Lib.hid ((hS3.perm (R' := (q, spO zSp) :: ((q + 1, spO (anB D 0).1) :: (h3.rows ++ (T ++ R3)))) (by
          refine List.Perm.trans ?_ (List.Perm.swap _ _ _)
          refine List.Perm.trans (List.perm_middle (l₁ := h3.rows)) ?_
          exact (List.perm_middle (l₁ := h3.rows)).cons _)))
        clear hr3 hz3 hS3 hq3 hl3
        go_wp2
        (try simp only [Exit.inBlock, Exit.then])
        refine bodyPost_ret (results_cr3 rfl _ _ q 25 (spC zSp) (0, 0) _ rfl (row9 (s := zSp) HQ3.out) Try.underlying25 rfl sz_sup) rfl ⟨by rw [HD.out]; rfl, ?_⟩
        rw [HD.out]
        exact ⟨h3, HL3.out, (HS3.out.upd 0 rfl (below_put9 (s := zSp)) (row9 (s := zSp) HQ3.out)).sub (by simp only [List.set_cons_succ, List.set_cons_zero]; exact (((List.Sublist.append (List.Sublist.refl _) (List.sublist_append_left T R3)).cons _).cons _))⟩
      · obtain ⟨L, hL⟩ : ∃ L, L = rdB D i := ⟨_, rfl⟩
        have hG : rdG { D with rd := D.rd + i } (i : Int) = (L, 0, { D with rd := D.rd + (i + 1) }) := by unfold rdG; rw [if_neg (fun h => h hdev), if_neg hdn, Int.toNat_natCast, hL]; rfl
        rw [hG] at HRG
        have HNX := Lib.hid (show anB D (i + 1) = if (decG L).2 = 0 ∧ Vld (decG L).1 D.n ∧ (decG L).1.gen % 2 = i ∧ (anB D i).1.gen < (decG L).1.gen then ((decG L).1, (i : Int)) else anB D i by rw [hL]; rfl)
        have HDN := Lib.hid hdn
        clear hS hG hdev hL hdn hdi
        go_wp2_with fail
        refine HRG.out.mono ?_
        rintro e w3 ⟨A3, n3, c3, R3, rfl, hr3, hz3, h3, hl3, hS3⟩
        have HL3 := Lib.hid (show h3.L.length = h.L.length ∧ h3.C.length = h.C.length by have := HLL.out; omega)
        have HS3 := Lib.hid hS3
        have HDE := Lib.hid (rn_Decode A3 n3 c3 L w3 (hr3 w3 (fun p hp => hS3.kp.all p (by simp [hp]))))
        have HOK := Lib.hid (decG_okS L)
        obtain ⟨C, hC⟩ : ∃ C, C = (decG L).1 := ⟨_, rfl⟩
        obtain ⟨k, hk⟩ : ∃ k, k = (decG L).2 := ⟨_, rfl⟩
        have HKV := Lib.hid (show k = 0 → Vld C C.blocks from fun h => by rw [hC]; exact (decG_ok (by rw [← hk]; exact h)).2.1)
        rw [← hC, ← hk] at HNX HDE
        rw [← hC] at HOK
        obtain ⟨bs, hbs⟩ : ∃ bs, bs = (anB D i).1 := ⟨_, rfl⟩
        obtain ⟨bat, hbat⟩ : ∃ bat, bat = (anB D i).2 := ⟨_, rfl⟩
        have HBA := Lib.hid (show anB D i = (bs, bat) by rw [hbs, hbat])
        rw [HBA.out] at HNX
        rw [← hbs] at HS3
        dsimp only at HNX
        clear hr3 hz3 hS3 hC hk hbs hbat HRG HSi hl3
        go_wp2_with fail
        refine HDE.out.mono ?_
        rintro e w4 ⟨rfl, hB4⟩
        obtain ⟨cg, ce, cb, cl, cs, ca, cr, cc, cv⟩ := C
        obtain ⟨q4, hq4⟩ : ∃ q4, q4 = w4.heap.size := ⟨_, rfl⟩
        have HS5 := Lib.hid (show St w0 (w4.alloc (spO ⟨cg, ce, cb, cl, cs, ca, cr, cc, cv⟩)) b g vp Dp (h3.rows ++ ((q4, spO ⟨cg, ce, cb, cl, cs, ca, cr, cc, cv⟩) :: (q + 1, spO bs) :: (q, spO zSp) :: (T ++ R3))) by
          rw [hq4]; exact ((HS3.out.below hB4).new ((Below.refl _ w4).alloc (Nat.le_refl _) _) (Nat.le_refl _) (heap_alloc_new w4 _)).inT)
        obtain ⟨bg, be, bb, bl, bst, ba, br, bc, bv_⟩ := bs
        have HCB := Lib.hid (show ∀ (W : World) (X : List (Nat × Obj)), St w0 W b g vp Dp X → (q4, spO ⟨cg, ce, cb, cl, cs, ca, cr, cc, cv⟩) ∈ X → (q + 1, spO ⟨bg, be, bb, bl, bst, ba, br, bc, bv_⟩) ∈ X → (W.cell? ⟨q4, 0, none⟩ = some (.int .i64 cg) ∧ W.cell? ⟨q4, 1, none⟩ = some (.int .i64 ce) ∧ W.cell? ⟨q4, 2, none⟩ = some (.int .i64 cb) ∧ W.cell? ⟨q4, 3, none⟩ = some (.int .i64 cl) ∧ W.cell? ⟨q4, 4, none⟩ = some (.int .i64 cs) ∧ W.cell? ⟨q4, 5, none⟩ = some (.int .i64 ca) ∧ W.cell? ⟨q4, 6, none⟩ = some (.int .i64 cr) ∧ W.cell? ⟨q4, 7, none⟩ = some (.int .i64 cc) ∧ W.cell? ⟨q4, 8, none⟩ = some (.int .i64 cv)) ∧ W.cell? ⟨q + 1, 0, none⟩ = some (.int .i64 bg) from fun W X h h1 h2 => ⟨cell9 (h.mem h1), (cell9 (h.mem h2)).1⟩)
        dsimp only at HNX HKV
        have HQ4 := Lib.hid hq4
        clear hB4 hq4 HDE HS3
        unfold spC
        dsimp only
        by_cases hk0 : k = 0
        rotate_left
        · have hk1 : (k == 0) = false := by simp [hk0]
          have HNB := Lib.hid (show anB D (i + 1) = (⟨bg, be, bb, bl, bst, ba, br, bc, bv_⟩, bat) by rw [HNX.out, if_neg (fun h => hk0 h.1)])
          clear HNX
          go_wp2_with fail
          rw [← HQ4.out]
          obtain ⟨W5, hW5⟩ : ∃ W5, W5 = w4.alloc (.cells #[.int .i64 cg, .int .i64 ce, .int .i64 cb, .int .i64 cl, .int .i64 cs, .int .i64 ca, .int .i64 cr, .int .i64 cc, .int .i64 cv] 25) := ⟨_, rfl⟩
          have HS6 := Lib.hid (show St w0 W5 b g vp Dp (h3.rows ++ ((q4, spO ⟨cg, ce, cb, cl, cs, ca, cr, cc, cv⟩) :: (q + 1, spO ⟨bg, be, bb, bl, bst, ba, br, bc, bv_⟩) :: (q, spO zSp) :: (T ++ R3))) by rw [hW5]; exact HS5.out)
          rw [← hW5]
          clear hW5 HS5
          have hd := HCB.out _ _ HS6.out (by simp) (by simp)
          go_quiet (fail)
          have HS7 := Lib.hid (HS6.out.drewN nq)
          all_goals go_wp2
          go_roundw
          case rel =>
            refine ⟨i + 1, by omega, fun h => absurd h HDN.out, by go_num, h3, HL3.out, ?_⟩
            rw [HNB.out]
            exact HS7.out.sub (List.Sublist.append (List.Sublist.refl _) (((List.Sublist.cons_cons _ (List.sublist_append_left T R3)).cons_cons _).cons _))
          case measure => simp [intOf]; omega
        subst hk0
        have hvc := HKV.out rfl
        by_cases hcb : cb = (D.n : Int)
        rotate_left
        · have hcb1 : (cb == (D.n : Int)) = false := by simp [hcb]
          have HNB := Lib.hid (show anB D (i + 1) = (⟨bg, be, bb, bl, bst, ba, br, bc, bv_⟩, bat) by rw [HNX.out, if_neg (fun h => hcb h.2.1.blocks)])
          clear HNX
          go_wp2_with fail
          rw [← HQ4.out]
          obtain ⟨W5, hW5⟩ : ∃ W5, W5 = w4.alloc (.cells #[.int .i64 cg, .int .i64 ce, .int .i64 cb, .int .i64 cl, .int .i64 cs, .int .i64 ca, .int .i64 cr, .int .i64 cc, .int .i64 cv] 25) := ⟨_, rfl⟩
          have HS6 := Lib.hid (show St w0 W5 b g vp Dp (h3.rows ++ ((q4, spO ⟨cg, ce, cb, cl, cs, ca, cr, cc, cv⟩) :: (q + 1, spO ⟨bg, be, bb, bl, bst, ba, br, bc, bv_⟩) :: (q, spO zSp) :: (T ++ R3))) by rw [hW5]; exact HS5.out)
          rw [← hW5]
          clear hW5 HS5
          have hd := HCB.out _ _ HS6.out (by simp) (by simp)
          go_quiet ((go_at_call 53; exact Calls.quiet_of_same (rf_Blocks h3 (HS6.out.drewN _))))
          have HS7 := Lib.hid (HS6.out.drewN nq)
          all_goals go_wp2
          go_roundw
          case rel =>
            refine ⟨i + 1, by omega, fun h => absurd h HDN.out, by go_num, h3, HL3.out, ?_⟩
            rw [HNB.out]
            exact HS7.out.sub (List.Sublist.append (List.Sublist.refl _) (((List.Sublist.cons_cons _ (List.sublist_append_left T R3)).cons_cons _).cons _))
          case measure => simp [intOf]; omega
        have hv : Vld ⟨cg, ce, cb, cl, cs, ca, cr, cc, cv⟩ D.n := by rw [← hcb]; exact hvc
        have hcb1 : (cb == (D.n : Int)) = true := by simp [hcb]
        have hg := hv.gen
        dsimp only at hg
        have HV := Lib.hid hv
        have HCB2 := Lib.hid hcb
        clear hv hvc hcb
        have hm1 : cg.tmod 2 = cg % 2 := Int.tmod_eq_emod_of_nonneg (by omega)
        obtain ⟨m, hm⟩ : ∃ m, m = cg % 2 := ⟨_, rfl⟩
        rw [← hm] at hm1 HNX
        clear hm
        by_cases hmi : m = (i : Int)
        rotate_left
        · have hmb : (m == (i : Int)) = false := by simp [hmi]
          have HNB := Lib.hid (show anB D (i + 1) = (⟨bg, be, bb, bl, bst, ba, br, bc, bv_⟩, bat) by rw [HNX.out, if_neg (fun h => hmi h.2.2.1)])
          clear HNX
          go_wp2_with fail
          rw [← HQ4.out]
          obtain ⟨W5, hW5⟩ : ∃ W5, W5 = w4.alloc (.cells #[.int .i64 cg, .int .i64 ce, .int .i64 cb, .int .i64 cl, .int .i64 cs, .int .i64 ca, .int .i64 cr, .int .i64 cc, .int .i64 cv] 25) := ⟨_, rfl⟩
          have HS6 := Lib.hid (show St w0 W5 b g vp Dp (h3.rows ++ ((q4, spO ⟨cg, ce, cb, cl, cs, ca, cr, cc, cv⟩) :: (q + 1, spO ⟨bg, be, bb, bl, bst, ba, br, bc, bv_⟩) :: (q, spO zSp) :: (T ++ R3))) by rw [hW5]; exact HS5.out)
          rw [← hW5]
          clear hW5 HS5
          have hd := HCB.out _ _ HS6.out (by simp) (by simp)
          go_quiet ((go_at_call 53; exact Calls.quiet_of_same (rf_Blocks h3 (HS6.out.drewN _))))
          have HS7 := Lib.hid (HS6.out.drewN nq)
          all_goals go_wp2
          go_roundw
          case rel =>
            refine ⟨i + 1, by omega, fun h => absurd h HDN.out, by go_num, h3, HL3.out, ?_⟩
            rw [HNB.out]
            exact HS7.out.sub (List.Sublist.append (List.Sublist.refl _) (((List.Sublist.cons_cons _ (List.sublist_append_left T R3)).cons_cons _).cons _))
          case measure => simp [intOf]; omega
        have hmb : (m == (i : Int)) = true := by simp [hmi]
        by_cases hgt : bg < cg
        rotate_left
        · have HNB := Lib.hid (show anB D (i + 1) = (⟨bg, be, bb, bl, bst, ba, br, bc, bv_⟩, bat) by rw [HNX.out, if_neg (fun h => hgt h.2.2.2)])
          clear HNX
          go_wp2_with fail
          rw [← HQ4.out]
          obtain ⟨W5, hW5⟩ : ∃ W5, W5 = w4.alloc (.cells #[.int .i64 cg, .int .i64 ce, .int .i64 cb, .int .i64 cl, .int .i64 cs, .int .i64 ca, .int .i64 cr, .int .i64 cc, .int .i64 cv] 25) := ⟨_, rfl⟩
          have HS6 := Lib.hid (show St w0 W5 b g vp Dp (h3.rows ++ ((q4, spO ⟨cg, ce, cb, cl, cs, ca, cr, cc, cv⟩) :: (q + 1, spO ⟨bg, be, bb, bl, bst, ba, br, bc, bv_⟩) :: (q, spO zSp) :: (T ++ R3))) by rw [hW5]; exact HS5.out)
          rw [← hW5]
          clear hW5 HS5
          have hd := HCB.out _ _ HS6.out (by simp) (by simp)
          go_quiet ((go_at_call 53; exact Calls.quiet_of_same (rf_Blocks h3 (HS6.out.drewN _))))
          have HS7 := Lib.hid (HS6.out.drewN nq)
          all_goals go_wp2
          go_roundw
          case rel =>
            refine ⟨i + 1, by omega, fun h => absurd h HDN.out, by go_num, h3, HL3.out, ?_⟩
            rw [HNB.out]
            exact HS7.out.sub (List.Sublist.append (List.Sublist.refl _) (((List.Sublist.cons_cons _ (List.sublist_append_left T R3)).cons_cons _).cons _))
          case measure => simp [intOf]; omega
        have HNB := Lib.hid (show anB D (i + 1) = (⟨cg, ce, cb, cl, cs, ca, cr, cc, cv⟩, (i : Int)) by rw [HNX.out, if_pos ⟨rfl, HV.out, hmi, hgt⟩])
        clear HNX
        go_wp2_with fail
        rw [← HQ4.out]
        obtain ⟨W5, hW5⟩ : ∃ W5, W5 = w4.alloc (.cells #[.int .i64 cg, .int .i64 ce, .int .i64 cb, .int .i64 cl, .int .i64 cs, .int .i64 ca, .int .i64 cr, .int .i64 cc, .int .i64 cv] 25) := ⟨_, rfl⟩
        have HS6 := Lib.hid (show St w0 W5 b g vp Dp (h3.rows ++ ((q4, spO ⟨cg, ce, cb, cl, cs, ca, cr, cc, cv⟩) :: (q + 1, spO ⟨bg, be, bb, bl, bst, ba, br, bc, bv_⟩) :: (q, spO zSp) :: (T ++ R3))) by rw [hW5]; exact HS5.out)
        rw [← hW5]
        clear hW5 HS5
        have hd := HCB.out _ _ HS6.out (by simp) (by simp)
        go_quiet ((go_at_call 53; exact Calls.quiet_of_same (rf_Blocks h3 (HS6.out.drewN _))))
        have HS7 := Lib.hid (HS6.out.drewN nq)
        have hb7 := HS7.out.mem (show (q + 1, spO ⟨bg, be, bb, bl, bst, ba, br, bc, bv_⟩) ∈ _ by simp)
        have h47 := HS7.out.mem (show (q4, spO ⟨cg, ce, cb, cl, cs, ca, cr, cc, cv⟩) ∈ _ by simp)
        have hcq := cell9 (s := ⟨bg, be, bb, bl, bst, ba, br, bc, bv_⟩) hb7
        have hfq := free9 hb7
        have hc4 := cell9 (s := ⟨cg, ce, cb, cl, cs, ca, cr, cc, cv⟩) h47
        dsimp only at hcq hc4
        have HB7 := Lib.hid hb7
        have HS8 := Lib.hid (HS7.out.perm (R' := (q + 1, spO ⟨bg, be, bb, bl, bst, ba, br, bc, bv_⟩) :: (q4, spO ⟨cg, ce, cb, cl, cs, ca, cr, cc, cv⟩) :: (h3.rows ++ ((q, spO zSp) :: (T ++ R3)))) (by
          refine List.Perm.trans ?_ (List.Perm.swap _ _ _)
          refine List.Perm.trans (List.perm_middle (l₁ := h3.rows)) ?_
          exact (List.perm_middle (l₁ := h3.rows)).cons _))
        have HNE := Lib.hid (show q4 ≠ q + 1 from fun e => by
          have h9 := HS8.out.kp.nd
          simp [e] at h9)
        clear hb7 h47
        go_wp2
        go_roundw
        case rel =>
          refine ⟨i + 1, by omega, fun h => absurd h HDN.out, by go_num, h3, HL3.out, ?_⟩
          rw [HNB.out]
          refine St.inT ?_
          exact (HS8.out.upd 0 rfl (below_put9 (s := ⟨cg, ce, cb, cl, cs, ca, cr, cc, cv⟩)) (row9 (s := ⟨cg, ce, cb, cl, cs, ca, cr, cc, cv⟩) HB7.out)).sub (by simp only [List.set_cons_succ, List.set_cons_zero]; exact ((List.Sublist.append (List.Sublist.refl _) (List.Sublist.cons_cons _ (List.sublist_append_left T R3))).cons _).cons_cons _)
        case measure => simp [intOf]; omega
    · obtain rfl : i = 2 := by omega
      have hdn : ¬ D.down = true := fun h => by have := hdi h; omega
      obtain ⟨bs, hbs⟩ : ∃ bs, bs = (anB D 2).1 := ⟨_, rfl⟩
      obtain ⟨bat, hbat⟩ : ∃ bat, bat = (anB D 2).2 := ⟨_, rfl⟩
      have HR2 := Lib.hid (show anR D = if bs.gen = 0 then (zSp, 0, 5, { D with rd := D.rd + 2 }) else (bs, bat, 0, { D with rd := D.rd + 2 }) by rw [HAR.out, if_neg hdn, hbs, hbat])
      rw [← hbs] at HSi
      rw [← hbs] at HG0
      rw [← hbs, ← hbat] at HPR
      have hq3 : wr.heap[q]? = some (.cells (spC zSp) 25 (0, 0)) := HSi.out.mem (show (q, spO zSp) ∈ _ by simp)
      have hb3 : wr.heap[q + 1]? = some (.cells (spC bs) 25 (0, 0)) := HSi.out.mem (show (q + 1, spO bs) ∈ _ by simp)
      have hcq := cell9 hq3
      have hfq := free9 hq3
      have hcb := cell9 hb3
      unfold zSp at hcq
      dsimp only at hcq
      have HQ3 := Lib.hid hq3
      have HB3 := Lib.hid hb3
      have HS9 := Lib.hid (HSi.out.perm (R' := (q, spO zSp) :: (q + 1, spO bs) :: (hr.rows ++ T)) (by
        refine List.Perm.trans ?_ (List.Perm.swap _ _ _)
        refine List.Perm.trans (List.perm_middle (l₁ := hr.rows)) ?_
        exact (List.perm_middle (l₁ := hr.rows)).cons _))
      clear hS hq3 hb3 hbs hbat hdi hdn
      obtain ⟨bg, be, bb, bl, bst, ba, br, bc, bv_⟩ := bs
      dsimp only at hcb
      by_cases hg0 : bg = 0
      · have hgb : (bg == 0) = true := by simp [hg0]
        have HD := Lib.hid (show anR D = (zSp, 0, 5, { D with rd := D.rd + 2 }) by rw [HR2.out, if_pos hg0])
        go_wp2
        (try simp only [Exit.inBlock, Exit.then])
        refine bodyPost_ret (results_cr3 rfl _ _ q 25 (spC zSp) (0, 0) _ rfl (row9 (s := zSp) HQ3.out) Try.underlying25 rfl sz_sup) rfl ⟨by rw [HD.out]; rfl, ?_⟩
        rw [HD.out]
        exact ⟨hr, HLL.out, (HS9.out.upd 0 rfl (below_put9 (s := zSp)) (row9 (s := zSp) HQ3.out)).sub (by simp only [List.set_cons_succ, List.set_cons_zero]; exact ((List.Sublist.refl _).cons _).cons _)⟩
      · have hgb : (bg == 0) = false := by simp [hg0]
        have HD := Lib.hid (show anR D = (⟨bg, be, bb, bl, bst, ba, br, bc, bv_⟩, bat, 0, { D with rd := D.rd + 2 }) by rw [HR2.out, if_neg hg0])
        have hm2 : bg.tmod 2 = bat := by
          rw [Int.tmod_eq_emod_of_nonneg HG0.out]
          rcases HPR.out with h | h
          · exact absurd h hg0
          · exact h.symm
        have HS9b := Lib.hid (((HS9.out.upd 0 rfl (below_put9 (s := ⟨bg, be, bb, bl, bst, ba, br, bc, bv_⟩)) (row9 (s := ⟨bg, be, bb, bl, bst, ba, br, bc, bv_⟩) HQ3.out)).sub (R' := hr.rows ++ T) (by simp only [List.set_cons_succ, List.set_cons_zero]; exact ((List.Sublist.refl _).cons _).cons _)).drew1)
        have HQ9 := Lib.hid (row9 (s := ⟨bg, be, bb, bl, bst, ba, br, bc, bv_⟩) HQ3.out)
        go_wp2_with fail
        go_region
        go_wp2
        (try simp only [Exit.inBlock, Exit.then])
        obtain ⟨W9, hW9⟩ : ∃ W, W = World.drew (put9 wr q ⟨bg, be, bb, bl, bst, ba, br, bc, bv_⟩) := ⟨_, rfl⟩
        have hr9 : W9.heap[q]? = some (.cells (spC ⟨bg, be, bb, bl, bst, ba, br, bc, bv_⟩) 25 (0, 0)) := by rw [hW9, drew_heap]; exact HQ9.out
        have hs9 : St w0 W9 b g vp Dp (hr.rows ++ T) := by rw [hW9]; exact HS9b.out
        unfold put9 at hW9
        dsimp only at hW9
        rw [← hW9]
        clear hW9
        refine bodyPost_ret (results_cr3 rfl _ W9 q 25 (spC ⟨bg, be, bb, bl, bst, ba, br, bc, bv_⟩) (0, 0) _ rfl hr9 Try.underlying25 rfl sz_sup) rfl ⟨by rw [HD.out]; rfl, ?_⟩
        rw [HD.out]
        exact ⟨hr, HLL.out, hs9⟩
end
end Go.Proofs.Ytggoaelbglhehaa
/- Write of the reference's superblocks over a pair of devices. -/
set_option linter.unusedVariables false
set_option linter.unusedSimpArgs false
set_option maxRecDepth 100000
namespace Go.Proofs.Ytggoaelbglhehaa
open Go.RowKit SumMath
set_option maxHeartbeats 4000000 in
theorem rf_anWrite {w0 w : World} {b g : Nat} {vp : Value} {Dp D : DS} {r : Nat} {T : List (Nat × Obj)} (s : Sp) (hs : s.ok) (h : RfOk r D) (hS : St w0 w b g vp Dp (h.rows ++ T)) (hl : D.left < 9223372036854775808) (hwr : D.wr < 9000000000000000000) (hfl : D.fl < 9000000000000000000) (hq : D.C.length ≤ 1000000000) (hLn : h.L.length ≤ 10000000) (hCn : h.C.length ≤ 10000000) :
    Calls Try.prog 24 #[.pointer (some ⟨r, 0, none⟩), .agg (spC s)] w fun e w' => e = .returned (.int .i64 (anW D s).1) ∧ ∃ h' : RfOk r (anW D s).2, h'.L.length + h'.C.length ≤ h.L.length + h.C.length + 1 ∧ St w0 w' b g vp Dp (h'.rows ++ T) := by
  obtain ⟨q, hq0⟩ : ∃ q, q = w.heap.size := ⟨_, rfl⟩
  have HS1 := Lib.hid (show St w0 (w.alloc (spO s)) b g vp Dp (h.rows ++ ((q, spO s) :: T)) by rw [hq0]; exact (hS.new ((Below.refl _ w).alloc (Nat.le_refl _) (spO s)) (Nat.le_refl _) (heap_alloc_new w (spO s))).inT)
  have HV := Lib.hid (rn_Valid s D.n hs)
  have HA := Lib.hid (show anW D s = if Vld s D.n then (if (wrD D (s.gen % 2) (encL s)).1 = 0 then (if (flD (wrD D (s.gen % 2) (encL s)).2).1 = 0 then (0, (flD (wrD D (s.gen % 2) (encL s)).2).2) else (6, (flD (wrD D (s.gen % 2) (encL s)).2).2)) else (6, (wrD D (s.gen % 2) (encL s)).2)) else (1, D) from rfl)
  obtain ⟨AW, hAW⟩ : ∃ AW, AW = anW D s := ⟨_, rfl⟩
  rw [← hAW] at HA ⊢
  have HEL := Lib.hid (show ∀ hv : Vld s D.n, s.gen.tmod 2 = s.gen % 2 from fun hv => Int.tmod_eq_emod_of_nonneg (by have := hv.gen; omega))
  have HEN := Lib.hid (fun (hv : Vld s D.n) (W : World) => rn_Encode s hs (by rw [hv.blocks]; exact hv) W)
  have HLW := Lib.hid hwr
  have HLF := Lib.hid hfl
  have HLL := Lib.hid hl
  have HLQ := Lib.hid hq
  have HLN := Lib.hid hLn
  have HCN := Lib.hid hCn
  obtain ⟨EL, hEL⟩ : ∃ EL, EL = encL s := ⟨_, rfl⟩
  rw [← hEL] at HA HEN
  have HCB := Lib.hid (show ∀ (W : World) (X : List (Nat × Obj)), St w0 W b g vp Dp X → (q, spO s) ∈ X → _ from fun W X h h1 => cell9 (h.mem h1))
  obtain ⟨vb, hvb⟩ : ∃ vb, vb = decide (Vld s D.n) := ⟨_, rfl⟩
  rw [← hvb] at HV
  have HVB := Lib.hid hvb
  obtain ⟨sg, se, sb, sl, ss, sa, sr, sc, sv⟩ := s
  unfold spC at HV HEN ⊢
  dsimp only at HV HA HEL HCB HEN ⊢
  have HQ := Lib.hid hq0
  clear hS hs hAW hEL hq0 hwr hfl hl hLn hCn hvb hq
  go_enter Try.func24, Try.ntmps24
  go_upto_region 3 with (fail)
  obtain ⟨W1, hW1⟩ : ∃ W1, W1 = w.alloc (.cells #[.int .i64 sg, .int .i64 se, .int .i64 sb, .int .i64 sl, .int .i64 ss, .int .i64 sa, .int .i64 sr, .int .i64 sc, .int .i64 sv] 25) := ⟨_, rfl⟩
  rw [← hW1, ← HQ.out]
  have HS2 := Lib.hid (show St w0 W1 b g vp Dp (h.rows ++ ((q, spO ⟨sg, se, sb, sl, ss, sa, sr, sc, sv⟩) :: T)) by rw [hW1]; exact HS1.out)
  clear hW1 HS1
  have hR0 := HCB.out _ _ (HS2.out.drewN 1) (by simp)
  refine wp_region_z (fun w' => w'.cell? ⟨q, 0, none⟩ = some (.int .i64 sg) ∧ w'.cell? ⟨q, 1, none⟩ = some (.int .i64 se) ∧ w'.cell? ⟨q, 2, none⟩ = some (.int .i64 sb) ∧ w'.cell? ⟨q, 3, none⟩ = some (.int .i64 sl) ∧ w'.cell? ⟨q, 4, none⟩ = some (.int .i64 ss) ∧ w'.cell? ⟨q, 5, none⟩ = some (.int .i64 sa) ∧ w'.cell? ⟨q, 6, none⟩ = some (.int .i64 sr) ∧ w'.cell? ⟨q, 7, none⟩ = some (.int .i64 sc) ∧ w'.cell? ⟨q, 8, none⟩ = some (.int .i64 sv)) (fun _ => True) 5 (by kernel_rfl) ?_
  refine wpAnyZ.take (i := 0) (v := .agg #[.int .i64 sg, .int .i64 se, .int .i64 sb, .int .i64 sl, .int .i64 ss, .int .i64 sa, .int .i64 sr, .int .i64 sc, .int .i64 sv]) (U := (fun w' => w'.cell? ⟨q, 0, none⟩ = some (.int .i64 sg) ∧ w'.cell? ⟨q, 1, none⟩ = some (.int .i64 se) ∧ w'.cell? ⟨q, 2, none⟩ = some (.int .i64 sb) ∧ w'.cell? ⟨q, 3, none⟩ = some (.int .i64 sl) ∧ w'.cell? ⟨q, 4, none⟩ = some (.int .i64 ss) ∧ w'.cell? ⟨q, 5, none⟩ = some (.int .i64 sa) ∧ w'.cell? ⟨q, 6, none⟩ = some (.int .i64 sr) ∧ w'.cell? ⟨q, 7, none⟩ = some (.int .i64 sc) ∧ w'.cell? ⟨q, 8, none⟩ = some (.int .i64 sv))) rfl (by kernel_rfl) (by kernel_rfl) (by kernel_rfl) (by decide) (fun _ _ _ h => h) (.inl fun _ h => h) (.inr fun _ h => h) (.inl ⟨by rfl, fun w hw => ?zy⟩) hR0 hR0 (fun _ => trivial) ?_
  case zy => (dsimp only at hw; obtain ⟨z0, z1, z2, z3, z4, z5, z6, z7, z8⟩ := hw; go_simp)
  (try simp only [Act.put, List.getElem_toArray, List.getElem_cons_zero, List.getElem_cons_succ, List.setIfInBounds_toArray, List.set_cons_zero, List.set_cons_succ])
  refine wpAnyZ.takeN (i := 1) (v := .pointer (some ⟨r, 0, none⟩)) rfl (by kernel_rfl) (by kernel_rfl) (by kernel_rfl) (by decide) (fun _ _ _ h => h) (by rfl) (fun w => ?zy) hR0 (fun _ => trivial) ?_
  case zy => go_simp
  (try simp only [Act.put, List.getElem_toArray, List.getElem_cons_zero, List.getElem_cons_succ, List.setIfInBounds_toArray, List.set_cons_zero, List.set_cons_succ])
  refine wpAnyZ.oneK (i := 2) (E := False) (by kernel_rfl) rfl (by rfl) (fun K hK => ?_)
  go_simp
  refine (rf_Blocks h (HS2.out.drewN 1)).mono ?_
  rintro e w6 ⟨rfl, rfl⟩
  go_wp2_with fail
  refine hK.out _ _ ⟨⟨hR0, fun _ => trivial⟩, ?_⟩
  clear hK
  (try simp only [Act.put, List.getElem_toArray, List.getElem_cons_zero, List.getElem_cons_succ, List.setIfInBounds_toArray, List.set_cons_zero, List.set_cons_succ])
  refine wpAnyZ.oneK (i := 3) (E := False) (by kernel_rfl) rfl (by rfl) (fun K hK => ?_)
  go_simp
  refine (HV.out _).mono ?_
  rintro e w7 ⟨rfl, hB7⟩
  have HS7 := Lib.hid ((HS2.out.drewN 1).below hB7)
  have hR7 := HCB.out _ _ HS7.out (by simp)
  clear hB7
  go_wp2_with fail
  refine hK.out _ _ ⟨⟨hR7, fun _ => trivial⟩, ?_⟩
  clear hK hR0
  (try simp only [Act.put, List.getElem_toArray, List.getElem_cons_zero, List.getElem_cons_succ, List.setIfInBounds_toArray, List.set_cons_zero, List.set_cons_succ])
  refine wpAnyZ.takeN (i := 4) (v := .bool vb) rfl (by kernel_rfl) (by kernel_rfl) (by kernel_rfl) (by decide) (fun _ _ _ h => h) (by rfl) (fun w => ?zy) hR7 (fun _ => trivial) ?_
  case zy => go_simp
  (try simp only [Act.put, List.getElem_toArray, List.getElem_cons_zero, List.getElem_cons_succ, List.setIfInBounds_toArray, List.set_cons_zero, List.set_cons_succ])
  refine wpAnyZ.done (by kernel_rfl) ?_ _
  cases vb
  · have HD := Lib.hid (show AW = (1, D) by rw [HA.out, if_neg (of_decide_eq_false HVB.out.symm)])
    clear hR7
    go_wp2
    go_ret
    rw [HD.out]
    exact ⟨rfl, h, by omega, HS7.out.sub (List.Sublist.append (List.Sublist.refl _) (List.sublist_cons_self _ _))⟩
  have hv := of_decide_eq_true HVB.out.symm
  have hm1 := HEL.out hv
  have HE2 := Lib.hid (HEN.out hv)
  have HA2 := Lib.hid (show AW = (if (wrD D (sg % 2) EL).1 = 0 then (if (flD (wrD D (sg % 2) EL).2).1 = 0 then (0, (flD (wrD D (sg % 2) EL).2).2) else (6, (flD (wrD D (sg % 2) EL).2).2)) else (6, (wrD D (sg % 2) EL).2)) by rw [HA.out, if_pos hv])
  obtain ⟨m, hm⟩ : ∃ m, m = sg % 2 := ⟨_, rfl⟩
  rw [← hm] at hm1 HA2
  clear hm hv
  go_wp2_with fail
  refine (HE2.out _).mono ?_
  rintro e w8 ⟨g8, rfl, hO, hB8⟩
  obtain ⟨k8, c8, o8, hsl, hr8, hS8⟩ := HS7.out.newB hO hB8 (by omega)
  have HS8 := Lib.hid hS8.inT
  have hR8 := HCB.out _ _ HS8.out (by simp)
  have HWR := Lib.hid (rf_Write m (some ⟨k8, 0, none⟩) 512 c8 EL h HS8.out (fun W _ hW => hr8.rd (hW (k8, o8) (by simp)) (by omega)) HLL.out (by have := HCN.out; omega) (by have := HLW.out; omega))
  rw [← hsl] at HWR
  obtain ⟨E, hE⟩ : ∃ E, E = (wrD D m EL).1 := ⟨_, rfl⟩
  obtain ⟨D2, hD2⟩ : ∃ D2, D2 = (wrD D m EL).2 := ⟨_, rfl⟩
  rw [← hE, ← hD2] at HWR HA2
  have HB2 := Lib.hid (show D2.left < 9223372036854775808 ∧ D2.fl < 9000000000000000000 by rw [hD2]; have h9 := wr_bounds D m EL HLL.out HLQ.out HLF.out; exact ⟨h9.1, h9.2.2⟩)
  clear hO hB8 hsl hr8 hS8 hE hD2 hR7
  go_wp2_with fail
  refine HWR.out.mono ?_
  rintro e w9 ⟨rfl, h9, hl9, hc9, hS9⟩
  have HS9 := Lib.hid hS9
  have HL9 := Lib.hid (show h9.L.length = h.L.length ∧ h9.C.length ≤ h.C.length + 1 from ⟨hl9, hc9⟩)
  have HFL := Lib.hid (rf_Flush h9 hS9 HB2.out.1 (by have := HCN.out; omega) (by have := HLN.out; omega) (by have := HB2.out.2; omega))
  clear hS9 hR8 hl9 hc9
  by_cases hE0 : E = 0
  rotate_left
  · have hEb : (E == 0) = false := by simp [hE0]
    have hEc : (E != 0) = true := by simp [hE0]
    have HD := Lib.hid (show AW = (6, D2) by rw [HA2.out, if_neg hE0])
    go_wp2
    go_ret
    rw [HD.out]
    exact ⟨rfl, h9, by have := HL9.out; omega, HS9.out.sub (List.Sublist.append (List.Sublist.refl _) (((List.Sublist.refl T).cons _).cons _))⟩
  subst hE0
  rw [if_pos rfl] at HA2
  obtain ⟨F, hF⟩ : ∃ F, F = (flD D2).1 := ⟨_, rfl⟩
  obtain ⟨D3, hD3⟩ : ∃ D3, D3 = (flD D2).2 := ⟨_, rfl⟩
  rw [← hF, ← hD3] at HFL HA2
  clear hF hD3
  go_wp2_with fail
  refine HFL.out.mono ?_
  rintro e w10 ⟨rfl, h10, hl10, hS10⟩
  have HS10 := Lib.hid hS10
  have HL10 := Lib.hid hl10
  clear hS10 hl10
  by_cases hF0 : F = 0
  · have hFb : (F != 0) = false := by simp [hF0]
    have HD := Lib.hid (show AW = (0, D3) by rw [HA2.out, if_pos hF0])
    go_wp2
    go_ret
    rw [HD.out]
    exact ⟨rfl, h10, by have := HL9.out; have := HL10.out; omega, HS10.out.sub (List.Sublist.append (List.Sublist.refl _) (((List.Sublist.refl T).cons _).cons _))⟩
  · have hFb : (F != 0) = true := by simp [hF0]
    have HD := Lib.hid (show AW = (6, D3) by rw [HA2.out, if_neg hF0])
    go_wp2
    go_ret
    rw [HD.out]
    exact ⟨rfl, h10, by have := HL9.out; have := HL10.out; omega, HS10.out.sub (List.Sublist.append (List.Sublist.refl _) (((List.Sublist.refl T).cons _).cons _))⟩
end Go.Proofs.Ytggoaelbglhehaa
/- AnchorPlays: the steps in memory; calls with nil; numbers that stay small. -/
set_option linter.unusedVariables false
set_option linter.unusedSimpArgs false
set_option maxRecDepth 100000
namespace Go.Proofs.Ytggoaelbglhehaa
open Go.RowKit SumMath
structure OpA where
  kind : Int
  s : Sp
  num : Int
  at_ : Int
  B : List UInt8
  F : List Ft
instance : Inhabited OpA := ⟨⟨0, default, 0, 0, [], []⟩⟩
structure OpA.ok (x : OpA) : Prop where
  kind : -9223372036854775808 ≤ x.kind ∧ x.kind < 9223372036854775808
  s : x.s.ok
  num : -9223372036854775808 ≤ x.num ∧ x.num < 9223372036854775808
  at_ : -9223372036854775808 ≤ x.at_ ∧ x.at_ < 9223372036854775808
  B : x.B.length ≤ 140737488351232
  F : x.F.length ≤ 8796093022207
structure OpAAt (w : World) (b o : Nat) (x : OpA) : Prop where
  ok : x.ok
  c0 : w.cell? ⟨b, o, none⟩ = some (.int .i64 x.kind)
  c1 : w.cell? ⟨b, o + 1, none⟩ = some (.int .i64 x.s.gen)
  c2 : w.cell? ⟨b, o + 2, none⟩ = some (.int .i64 x.s.epoch)
  c3 : w.cell? ⟨b, o + 3, none⟩ = some (.int .i64 x.s.blocks)
  c4 : w.cell? ⟨b, o + 4, none⟩ = some (.int .i64 x.s.log)
  c5 : w.cell? ⟨b, o + 5, none⟩ = some (.int .i64 x.s.stamp)
  c6 : w.cell? ⟨b, o + 6, none⟩ = some (.int .i64 x.s.at_)
  c7 : w.cell? ⟨b, o + 7, none⟩ = some (.int .i64 x.s.root)
  c8 : w.cell? ⟨b, o + 8, none⟩ = some (.int .i64 x.s.count)
  c9 : w.cell? ⟨b, o + 9, none⟩ = some (.int .i64 x.s.version)
  c10 : w.cell? ⟨b, o + 10, none⟩ = some (.int .i64 x.num)
  c11 : w.cell? ⟨b, o + 11, none⟩ = some (.int .i64 x.at_)
  c12 : ∃ A n c, w.cell? ⟨b, o + 12, none⟩ = some (.slice A n c) ∧ Rd w A n c x.B
  c13 : ∃ A n c, w.cell? ⟨b, o + 13, none⟩ = some (.slice A n c) ∧ RdF w A n c x.F
structure RdOpA (w : World) (A : Option Addr) (n c : Nat) (l : List OpA) : Prop where
  len : l.length = n
  cap : n ≤ c
  max : n ≤ 140737488355328
  at_ : 0 < n → ∃ b o, A = some ⟨b, o, none⟩ ∧ ∀ j, j < n → OpAAt w b (o + j * 14) (l.getD j default)
theorem OpAAt.ext {w w' : World} {b o : Nat} {x : OpA} (h : OpAAt w b o x) (hb : Below w.heap.size w w') : OpAAt w' b o x := by
  obtain ⟨A6, n6, c6, h6, r6⟩ := h.c12
  obtain ⟨A7, n7, c7, h7, r7⟩ := h.c13
  exact ⟨h.ok, cell_ext hb h.c0, cell_ext hb h.c1, cell_ext hb h.c2, cell_ext hb h.c3, cell_ext hb h.c4, cell_ext hb h.c5, cell_ext hb h.c6, cell_ext hb h.c7, cell_ext hb h.c8, cell_ext hb h.c9, cell_ext hb h.c10, cell_ext hb h.c11, ⟨A6, n6, c6, cell_ext hb h6, r6.ext hb⟩, ⟨A7, n7, c7, cell_ext hb h7, r7.ext hb⟩⟩
theorem RdOpA.ext {w w' : World} {A : Option Addr} {n c : Nat} {l : List OpA} (h : RdOpA w A n c l) (hb : Below w.heap.size w w') : RdOpA w' A n c l :=
  ⟨h.len, h.cap, h.max, fun hn => by
    obtain ⟨b, o, e, hc⟩ := h.at_ hn
    exact ⟨b, o, e, fun j hj => (hc j hj).ext hb⟩⟩
def opaC (k : Int) (s : Sp) (m a : Int) (vB vF : Value) : Array Value := #[.int .i64 k, .int .i64 s.gen, .int .i64 s.epoch, .int .i64 s.blocks, .int .i64 s.log, .int .i64 s.stamp, .int .i64 s.at_, .int .i64 s.root, .int .i64 s.count, .int .i64 s.version, .int .i64 m, .int .i64 a, vB, vF]
theorem cell14 {W : World} {q : Nat} {s : Sp} {k m a : Int} {vB vF : Value} {t : TypeId} (h : W.heap[q]? = some (.cells (opaC k s m a vB vF) t (0, 0))) : W.cell? ⟨q, 0, none⟩ = some (.int .i64 k) ∧ W.cell? ⟨q, 1, none⟩ = some (.int .i64 s.gen) ∧ W.cell? ⟨q, 2, none⟩ = some (.int .i64 s.epoch) ∧ W.cell? ⟨q, 3, none⟩ = some (.int .i64 s.blocks) ∧ W.cell? ⟨q, 4, none⟩ = some (.int .i64 s.log) ∧ W.cell? ⟨q, 5, none⟩ = some (.int .i64 s.stamp) ∧ W.cell? ⟨q, 6, none⟩ = some (.int .i64 s.at_) ∧ W.cell? ⟨q, 7, none⟩ = some (.int .i64 s.root) ∧ W.cell? ⟨q, 8, none⟩ = some (.int .i64 s.count) ∧ W.cell? ⟨q, 9, none⟩ = some (.int .i64 s.version) ∧ W.cell? ⟨q, 10, none⟩ = some (.int .i64 m) ∧ W.cell? ⟨q, 11, none⟩ = some (.int .i64 a) ∧ W.cell? ⟨q, 12, none⟩ = some vB ∧ W.cell? ⟨q, 13, none⟩ = some vF :=
  ⟨cell_of_row W q 0 _ _ _ h, cell_of_row W q 1 _ _ _ h, cell_of_row W q 2 _ _ _ h, cell_of_row W q 3 _ _ _ h, cell_of_row W q 4 _ _ _ h, cell_of_row W q 5 _ _ _ h, cell_of_row W q 6 _ _ _ h, cell_of_row W q 7 _ _ _ h, cell_of_row W q 8 _ _ _ h, cell_of_row W q 9 _ _ _ h, cell_of_row W q 10 _ _ _ h, cell_of_row W q 11 _ _ _ h, cell_of_row W q 12 _ _ _ h, cell_of_row W q 13 _ _ _ h⟩
def cntO (D : DS) : Obj := .cells #[.int .i64 D.rd, .int .i64 D.wr, .int .i64 D.fl] 63 (0, 0)
theorem cell3 {W : World} {q : Nat} {x y z : Value} {t : TypeId} (h : W.heap[q]? = some (.cells #[x, y, z] t (0, 0))) : W.cell? ⟨q, 0, none⟩ = some x ∧ W.cell? ⟨q, 1, none⟩ = some y ∧ W.cell? ⟨q, 2, none⟩ = some z :=
  ⟨cell_of_row W q 0 _ _ _ h, cell_of_row W q 1 _ _ _ h, cell_of_row W q 2 _ _ _ h⟩
/-! ### nil -/
theorem an_Read_nil (w : World) : Calls Try.prog 21 #[.pointer none] w fun e w' => e = .returned (.tuple #[.agg (spC zSp), .int .i64 0, .int .i64 1]) ∧ Below w.heap.size w w' := by
  obtain ⟨q, hq0⟩ : ∃ q, q = w.heap.size := ⟨_, rfl⟩
  have hn0 := heap_alloc_new w (spO zSp)
  rw [← hq0] at hn0
  have HN := Lib.hid hn0
  have HQ := Lib.hid hq0
  have HB := Lib.hid ((Below.refl _ w).alloc (Nat.le_refl _) (spO zSp))
  clear hn0 hq0
  go_enter Try.func21, Try.ntmps21
  go_wp2
  (try simp only [Exit.inBlock, Exit.then])
  rw [← HQ.out]
  obtain ⟨W1, hW1⟩ : ∃ W1, W1 = w.alloc (spO zSp) := ⟨_, rfl⟩
  rw [← hW1] at HN HB
  unfold spO spC zSp at hW1
  dsimp only at hW1
  rw [← hW1]
  clear hW1
  exact bodyPost_ret (results_cr3 rfl _ _ q 25 (spC zSp) (0, 0) _ rfl HN.out Try.underlying25 rfl sz_sup) rfl ⟨rfl, by rw [HQ.out]; exact HB.out⟩
set_option maxHeartbeats 1000000 in
theorem an_Write_nil (s : Sp) (w : World) : Calls Try.prog 23 #[.pointer none, .agg (spC s)] w fun e w' => e = .returned (.int .i64 1) ∧ Below w.heap.size w w' := by
  have HB := Lib.hid ((Below.refl _ w).alloc (Nat.le_refl _) (spO s))
  obtain ⟨sg, se, sb, sl, ss, sa, sr, sc, sv⟩ := s
  unfold spO spC at HB
  unfold spC
  dsimp only at HB ⊢
  go_enter Try.func23, Try.ntmps23
  go_wp2_with fail
  obtain ⟨W1, hW1⟩ : ∃ W1, W1 = w.alloc (.cells #[.int .i64 sg, .int .i64 se, .int .i64 sb, .int .i64 sl, .int .i64 ss, .int .i64 sa, .int .i64 sr, .int .i64 sc, .int .i64 sv] 25) := ⟨_, rfl⟩
  rw [← hW1] at HB ⊢
  clear hW1
  go_quiet (fail)
  all_goals go_wp2
  go_ret
  exact ⟨rfl, below_drewN HB.out _⟩
/-! ### numbers -/
theorem DS.le.mono9 {D : DS} {m k : Nat} (h : D.le m) (hk : m ≤ k) : D.le k := ⟨h.left, by have := h.ca; omega, by have := h.wr; omega, by have := h.fl; omega, by have := h.rd; omega⟩
theorem actD_le {D : DS} {m : Nat} (h : D.le m) : (actD D).2.le m := by
  have hk := actD_keeps D
  exact ⟨Nat.lt_of_le_of_lt (act_left D) h.left, by rw [hk.1]; exact h.ca, by rw [hk.2.2.2.2.1]; exact h.wr, by rw [hk.2.2.2.2.2]; exact h.fl, by rw [hk.2.2.2.1]; exact h.rd⟩
theorem wrD_le {D : DS} {m : Nat} (h : D.le m) (k : Int) (L : List UInt8) : (wrD D k L).2.le (m + 1) := by
  have ha := actD_le h
  unfold wrD
  split
  · exact h.mono9 (by omega)
  · split
    · exact h.mono9 (by omega)
    · split
      · exact ⟨ha.left, by show ((actD D).2.C ++ [_]).length ≤ _; rw [List.length_append]; have := ha.ca; simp only [List.length_cons, List.length_nil]; omega, by show (actD D).2.wr + 1 ≤ _; have := ha.wr; omega, by show (actD D).2.fl ≤ _; have := ha.fl; omega, by show (actD D).2.rd ≤ _; have := ha.rd; omega⟩
      · exact ha.mono9 (by omega)
theorem flD_le9 {D : DS} {m : Nat} (h : D.le m) : (flD D).2.le (m + 1) := by
  have ha := actD_le h
  unfold flD
  split
  · exact ⟨ha.left, Nat.zero_le _, by show (actD D).2.wr ≤ _; have := ha.wr; omega, by show (actD D).2.fl + 1 ≤ _; have := ha.fl; omega, by show (actD D).2.rd ≤ _; have := ha.rd; omega⟩
  · exact ha.mono9 (by omega)
theorem anW_le2 {D : DS} {m : Nat} (h : D.le m) (s : Sp) : (anW D s).2.le (m + 2) := by
  have h1 := wrD_le h (s.gen % 2) (encL s)
  have h2 := flD_le9 h1
  unfold anW
  split
  · split
    · split
      · exact h2
      · exact h2
    · exact h1.mono9 (by omega)
  · exact h.mono9 (by omega)
theorem armD_le {D : DS} {m : Nat} (h : D.le m) (k : Int) (hk : k < 9223372036854775808) : (armD D k).2.le m := by
  unfold armD
  split
  · exact h
  · split
    · exact h
    · exact ⟨by show k.toNat < _; omega, h.ca, h.wr, h.fl, h.rd⟩
theorem crD_le9 {D : DS} {m : Nat} (h : D.le m) (F : List Ft) : (crD D F).le m := ⟨by show (0 : Nat) < _; omega, Nat.zero_le _, h.wr, h.fl, h.rd⟩
theorem edD_le {D : DS} {m : Nat} (h : D.le m) (k a : Int) (L : List UInt8) : (edD D k a L).2.le m := by
  unfold edD
  split
  · exact h
  · split
    · exact h
    · exact ⟨h.left, h.ca, h.wr, h.fl, h.rd⟩
theorem anR_le {D : DS} {m : Nat} (h : D.le m) : (anR D).2.2.2.le (m + 2) := by
  unfold anR
  split
  · exact h.mono9 (by omega)
  · split
    · exact ⟨h.left, by have := h.ca; show D.C.length ≤ _; omega, by have := h.wr; show D.wr ≤ _; omega, by have := h.fl; show D.fl ≤ _; omega, by have := h.rd; show D.rd + 2 ≤ _; omega⟩
    · exact ⟨h.left, by have := h.ca; show D.C.length ≤ _; omega, by have := h.wr; show D.wr ≤ _; omega, by have := h.fl; show D.fl ≤ _; omega, by have := h.rd; show D.rd + 2 ≤ _; omega⟩
end Go.Proofs.Ytggoaelbglhehaa
