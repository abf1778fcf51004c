/- The walk of PackReads. -/
import Derived.Test.YtclafljkeaekfaaPy4
import Derived.Test.YtclafljkeaekfaaPy5
import Derived.Test.YtclafljkeaekfaaPkL3
import Derived.Deep.QuietTactic
import Derived.BigQuiet
import Derived.Deep.DeepCutAuto
set_option linter.unusedVariables false
set_option linter.unusedSimpArgs false
set_option maxRecDepth 100000
namespace Go.Proofs.Ytclafljkeaekfaa
open Go.RowKit
/-- a step on a reader -/
structure OpR where
  kind : Int
  most : Int
  fin : Bool
  deriving Inhabited
structure RdOR (w : World) (A : Option Addr) (n c : Nat) (l : List OpR) : Prop where
  len : l.length = n
  cap : n ≤ c
  max : n ≤ 140737488355328
  ok : ∀ x ∈ l, -9223372036854775808 ≤ x.most ∧ x.most < 9223372036854775808
  at_ : 0 < n → ∃ b o, A = some ⟨b, o, none⟩ ∧ ∀ j, j < n → w.cell? ⟨b, o + j * 3, none⟩ = some (.int .i64 (l.getD j default).kind) ∧ w.cell? ⟨b, o + j * 3 + 1, none⟩ = some (.int .i64 (l.getD j default).most) ∧
    w.cell? ⟨b, o + j * 3 + 2, none⟩ = some (.bool (l.getD j default).fin)
theorem Rd.keep0 {w w' : World} {A : Option Addr} {n c : Nat} {L : List UInt8} {S : List Nat} (h : Rd w A n c L) (hw : Only S w w') (hs : 0 < n → ∀ p, A = some p → p.block ∉ S) : Rd w' A n c L := by
  rcases Nat.eq_zero_or_pos n with h0 | h0
  · exact ⟨h.len, h.cap, h.max, fun hp => by omega⟩
  · exact h.keep hw (hs h0)
theorem IsR.keep0 {w w' : World} {b n c at_ : Nat} {A : Option Addr} {L : List UInt8} {e : Int} {S : List Nat} (h : IsR w b A n c L at_ e) (hw : Only S w w') (hb : b ∉ S) (hs : 0 < n → ∀ p, A = some p → p.block ∉ S) : IsR w' b A n c L at_ e :=
  ⟨(hw.blk b (lt_of_block h.st) hb).trans h.st, h.rd.keep0 hw hs, h.ne, h.le⟩
theorem IsR.blk_lt {w : World} {b n c at_ : Nat} {A : Option Addr} {L : List UInt8} {e : Int} (h : IsR w b A n c L at_ e) (hn : 0 < n) : ∀ p, A = some p → p.block < w.heap.size := fun p hp => by
  obtain ⟨bb, oo, he, hc⟩ := h.rd.at_ hn
  have := World.block_lt_of_cell? w _ (hc 0 hn)
  rw [he] at hp; injection hp with hp; subst hp; exact this
/-- both readers, in the same state -/
structure RPair (w : World) (b y : Nat) (A1 A2 : Option Addr) (c1 c2 n : Nat) (D : List UInt8) (at_ : Nat) (e : Int) (wx : World) : Prop where
  r : IsR wx b A1 n c1 D at_ e
  s : IsY wx y A2 n c2 D at_ e
  ne : y ≠ b
  h1 : 0 < n → ∀ p, A1 = some p → p.block ≠ y
  h2 : ∀ p, A2 = some p → p.block ≠ b
  lb : w.heap.size ≤ b
  ly : w.heap.size ≤ y
  below : Below w.heap.size w wx
section
variable {w wx w1 w2 : World} {b y c1 c2 n at_ at' : Nat} {A1 A2 : Option Addr} {D : List UInt8} {e e' : Int}
theorem RPair.ext (h : RPair w b y A1 A2 c1 c2 n D at_ e wx) (hB : Below wx.heap.size wx w1) : RPair w b y A1 A2 c1 c2 n D at_ e w1 :=
  ⟨h.r.ext hB, h.s.ext hB, h.ne, h.h1, h.h2, h.lb, h.ly, h.below.trans (hB.mono h.below.size)⟩
theorem RPair.only (h : RPair w b y A1 A2 c1 c2 n D at_ e wx) (hB : Only [] wx w1) : RPair w b y A1 A2 c1 c2 n D at_ e w1 := h.ext (hB.below (Nat.le_refl _) (by simp))
theorem RPair.mid (h : RPair w b y A1 A2 c1 c2 n D at_ e wx) (hO : Only [b] wx w1) : IsY w1 y A2 n c2 D at_ e := h.s.keep hO (by simpa using h.ne) (fun p hp => by simpa using h.h2 p hp)
theorem RPair.step (h : RPair w b y A1 A2 c1 c2 n D at_ e wx) (hI : IsR w1 b A1 n c1 D at' e') (hO : Only [b] wx w1) (hJ : IsY w2 y A2 n c2 D at' e') (hP : Only [y] w1 w2) : RPair w b y A1 A2 c1 c2 n D at' e' w2 := by
  have hz := h.below.size
  refine ⟨hI.keep0 hP (by simpa using h.ne.symm) (fun h0 p hp => by simpa using h.h1 h0 p hp), hJ, h.ne, h.h1, h.h2, h.lb, h.ly, ?_⟩
  have hb := hO.below hz (by simpa using h.lb)
  exact (h.below.trans hb).trans (hP.below (Nat.le_trans hz hO.size) (by simpa using h.ly))
end
theorem not_u8 (x : UInt8) : bits .xor .u8 (if IntKind.u8.signed = true then -1 else IntKind.u8.max) (x.toNat : Int) = ((~~~x).toNat : Int) := by
  have h := x.toNat_lt
  have hm : (if IntKind.u8.signed = true then -1 else IntKind.u8.max) = 255 := by decide
  rw [hm]
  show IntKind.u8.wrap ((BitVec.ofInt 8 255 ^^^ BitVec.ofInt 8 (x.toNat : Int)).toNat : Nat) = _
  have e : BitVec.ofInt 8 255 = BitVec.allOnes 8 := by decide
  rw [e, BitVec.xor_comm, BitVec.xor_allOnes, u8_wrap, BitVec.toNat_not, BitVec.toNat_ofInt, UInt8.toNat_not]
  simp only [UInt8.size]
  omega
set_option maxHeartbeats 2000000 in
theorem walk_PackReads (A : Option Addr) (n c : Nat) (D : List UInt8) (A2 : Option Addr) (n2 c2 : Nat) (l : List OpR) (w : World) (hr : Rd w A n c D) (hz : n ≤ 140737488351232) (hr2 : RdOR w A2 n2 c2 l) :
    Calls Try.prog 7 #[.slice A n c, .slice A2 n2 c2] w fun e w' => e = .returned (.bool true) ∧ Below w.heap.size w w' := by
  have HR := Lib.hid hr
  have HR2 := Lib.hid hr2
  have hmx2 := hr2.max
  have hl2 := hr2.len
  have HL2 := Lib.hid hl2
  clear hr hr2 hl2
  go_enter Try.func7, Try.ntmps7
  go_wp2_with fail
  refine (l2_fixed w).mono ?_
  rintro e w1 ⟨rfl, hB1⟩
  have HB1 := Lib.hid hB1
  clear hB1
  go_wp2_with fail
  refine (l2_roomy A n c D w1 (HR.out.ext HB1.out) hz).mono ?_
  rintro e w2 ⟨u, rfl, hO, hB⟩
  obtain ⟨g, cg, rfl, hg1, hg2⟩ := hO.form (by omega)
  have HO := Lib.hid hO
  have HB2 := Lib.hid (HB1.out.trans (hB.mono HB1.out.size))
  have hcg : n + 64 ≤ cg := by
    obtain ⟨A', c', he, hR⟩ := hO.rd (by omega)
    injection he with _ _ he; subst he; exact hR.cap
  obtain ⟨A', c', he, hRf⟩ := hO.rd (by omega)
  injection he with he1 _ he3
  subst he1 he3
  have HRf := Lib.hid hRf
  have HRd := Lib.hid (show Rd w2 (some ⟨g, 0, none⟩) n cg D by
    have h := hRf.take n (by omega)
    have hDl : D.length = n := HR.out.len
    rwa [List.take_left' hDl] at h)
  have hct := cut_toB' (some ⟨g, 0, none⟩) (n + 64) cg n (by omega) hcg w2
  clear hO hB hRf
  go_wp2_with fail
  refine (pk_NewReader (some ⟨g, 0, none⟩) n cg D w2 HRd.out).mono ?_
  rintro e w3 ⟨b, A1, c1, rfl, hI, hb, hB, hA1⟩
  have hg3 : g < b := Nat.lt_of_lt_of_le hg2 hb
  have HI3 := Lib.hid hI
  have HB3 := Lib.hid (HB2.out.trans (hB.mono HB2.out.size))
  have HO3 := Lib.hid (HO.out.ext hB)
  have HA1 := Lib.hid (show ∀ p, A1 = some p → p.block ≠ g from fun p hp => by have := hA1 p hp; omega)
  clear hI hb hB hA1 hct
  go_wp2_with fail
  refine (l2_roomy A n c D w3 (HR.out.ext HB3.out) hz).mono ?_
  rintro e w4 ⟨u4, rfl, hO4, hB4⟩
  obtain ⟨A4, c4, rfl, hR4⟩ := hO4.rd (by omega)
  have hO34 := HO3.out.ext hB4
  have HR4 := Lib.hid hR4
  have HB4 := Lib.hid (HB3.out.trans (hB4.mono HB3.out.size))
  have HI4 := Lib.hid (HI3.out.ext hB4)
  have HO4 := Lib.hid hO34
  have HRf4 := Lib.hid (show Rd w4 (some ⟨g, 0, none⟩) (n + 64) cg (D ++ marks 64) by
    obtain ⟨A', c', he, hR⟩ := hO34.rd (by omega)
    injection he with he1 _ he3
    subst he1 he3
    exact hR)
  clear hO4 hB4 hR4 hO34
  go_wp2_with fail
  refine (l2_same (some ⟨g, 0, none⟩) A4 (n + 64) cg (n + 64) c4 (D ++ marks 64) (D ++ marks 64) w4 HRf4.out HR4.out).mono ?_
  rintro e w5 ⟨rfl, rfl⟩
  rw [decide_eq_true rfl]
  have hgw : w.heap.size ≤ g := Nat.le_trans HB1.out.size hg1
  go_wp2_with fail
  go_loopw [8] (fun x wx => ∃ (i : Nat) (l' : List UInt8), i ≤ n + 64 ∧ x = .int .i64 i ∧ Own wx w1.heap.size (.slice (some ⟨g, 0, none⟩) (n + 64) cg) (n + 64) l' ∧ Only [g] w5 wx) (fun x _ => n + 64 - (intOf x).toNat)
  case atStart => exact ⟨0, _, by omega, rfl, HO4.out, Only.refl _ _⟩
  case round =>
    obtain ⟨i, l', hi, rfl, hO, hP⟩ := hrel
    have HO := Lib.hid hO
    have HP := Lib.hid hP
    clear hO hP
    by_cases hin : i < n + 64
    · have hcl := HO.out.cell i hin
      have hfr := HO.out.free i
      obtain ⟨x, hx⟩ : ∃ x, x = l'.getD i 0 := ⟨_, rfl⟩
      rw [← hx] at hcl
      have hnx := not_u8 x
      obtain ⟨z, hzx⟩ : ∃ z, z = ~~~x := ⟨_, rfl⟩
      rw [← hzx] at hnx
      have HO2 := Lib.hid (HO.out.store i z)
      have HP2 := Lib.hid (HP.out.setCell (p := ⟨g, i, none⟩) (by simp) (.int .u8 (z.toNat : Int)))
      clear hzx
      have hini : (i : Int) < (n : Int) + 64 := by omega
      have hi0 : (0 : Int) ≤ (i : Int) := by omega
      clear hx
      go_wp2
      go_roundw
      case rel => exact ⟨i + 1, _, by omega, by go_num, by first | exact HO2.out | (rw [hnx]; exact HO2.out), by first | exact HP2.out | (rw [hnx]; exact HP2.out)⟩
      case measure => simp [intOf]; omega
    · obtain rfl : i = n + 64 := by omega
      have HB6 := Lib.hid (HB4.out.trans (HP.out.below HB4.out.size (by simpa using hgw)))
      have HI6 := Lib.hid (HI4.out.keep HP.out (by simp; omega) (fun p hp => by simpa using HA1.out p hp))
      go_wp2_with fail
      refine (py_NewReader A n c D wr (HR.out.ext HB6.out)).mono ?_
      rintro e w7 ⟨y, A2', c2', rfl, hJ, hy, hB7, hA2'⟩
      have HP7 := Lib.hid (show RPair w b y A1 A2' c1 c2' n D 0 0 w7 by
        have hlt := HI6.out.lt
        have hbl : w.heap.size ≤ b := by omega
        refine ⟨HI6.out.ext hB7, hJ, by omega, fun h0 p hp => ?_, fun p hp => ?_, hbl, Nat.le_trans HB6.out.size hy, HB6.out.trans (hB7.mono HB6.out.size)⟩
        · have := HI6.out.blk_lt h0 p hp; omega
        · have := hA2' p hp; omega)
      clear hJ hy hB7 hA2'
      go_wp2_with fail
      go_loopw [10, 11, 12, 13, 14, 15] (fun x _ _ _ _ _ wx => ∃ (i at_ : Nat) (e : Int), i ≤ n2 ∧ x = .int .i64 i ∧ RPair w b y A1 A2' c1 c2' n D at_ e wx) (fun x _ _ _ _ _ _ => n2 - (intOf x).toNat)
      case atStart => exact ⟨0, 0, 0, by omega, rfl, HP7.out⟩
      case round =>
        obtain ⟨i, at_, e, hi, rfl, hP⟩ := hrel
        have HP := Lib.hid hP
        clear hP
        by_cases hin : i < n2
        · obtain ⟨bb, oo, rfl, hc⟩ := HR2.out.at_ (by omega)
          obtain ⟨g0, g1, g2⟩ := hc i hin
          have hok := HR2.out.ok (l.getD i default) (by
            rw [List.getD_eq_getElem?_getD, List.getElem?_eq_getElem (by rw [HL2.out]; exact hin)]
            exact List.getElem_mem _)
          obtain ⟨o, ho⟩ : ∃ o, o = l.getD i default := ⟨_, rfl⟩
          rw [← ho] at g0 g1 g2 hok
          have d0 := cell_ext HP.out.below g0
          have d1 := cell_ext HP.out.below g1
          have d2 := cell_ext HP.out.below g2
          obtain ⟨kd, mo, fi⟩ := o
          dsimp only at d0 d1 d2 hok
          have HOK := Lib.hid hok
          clear hc ho g0 g1 g2 hok
          have HQ := Lib.hid (HP.out.ext ((Below.refl _ wr).alloc (Nat.le_refl _) (.cells #[.int .i64 kd, .int .i64 mo, .bool fi] 60)))
          rcases fi with _ | _
          · go_wp2_with fail
            refine (l2_takeA b A1 n c1 D at_ e kd mo HOK.out _ HQ.out.r).mono ?_
            rintro e1 w9 ⟨rfl, hI9, hO9⟩
            obtain ⟨v, hv⟩ : ∃ v, v = (tkA kd D at_ e mo).1 := ⟨_, rfl⟩
            obtain ⟨a9, ha9⟩ : ∃ a9, a9 = (tkA kd D at_ e mo).2.1 := ⟨_, rfl⟩
            obtain ⟨e9, he9⟩ : ∃ e9, e9 = (tkA kd D at_ e mo).2.2 := ⟨_, rfl⟩
            rw [← ha9, ← he9] at hI9
            rw [← hv]
            have hrow : w9.heap[wr.heap.size]? = some (.cells #[.int .i64 kd, .int .i64 mo, .bool false] 60 (0, 0)) := (hO9.blk _ (by simp) (by have := HP.out.r.lt; simp; omega)).trans (heap_alloc_new wr _)
            have hS9 := HQ.out.mid hO9
            have HI9 := Lib.hid hI9
            have HO9 := Lib.hid hO9
            have HS9 := Lib.hid (hS9.ext ((Below.refl _ w9).alloc (Nat.le_refl _) (.cells #[.int .i64 v.kind, .int .u64 v.u, .int .i64 v.i, .string v.s] 27)))
            have HI9a := Lib.hid (hI9.ext ((Below.refl _ w9).alloc (Nat.le_refl _) (.cells #[.int .i64 v.kind, .int .u64 v.u, .int .i64 v.i, .string v.s] 27)))
            have HO9a := Lib.hid (hO9.alloc (.cells #[.int .i64 v.kind, .int .u64 v.u, .int .i64 v.i, .string v.s] 27))
            have q0 : w9.cell? ⟨wr.heap.size, 0, none⟩ = some (.int .i64 kd) := by rw [cell_of_row _ _ _ _ _ _ hrow]; rfl
            have q1 : w9.cell? ⟨wr.heap.size, 1, none⟩ = some (.int .i64 mo) := by rw [cell_of_row _ _ _ _ _ _ hrow]; rfl
            have HV := Lib.hid (And.intro hv (And.intro ha9 he9))
            have hwr9 : wr.heap.size < w9.heap.size := lt_of_block hrow
            have hyl := HP.out.s.lt
            clear hI9 hO9 hS9 hrow hv ha9 he9
            unfold ValV.val
            dsimp only
            go_wp2_with fail
            refine (l2_takeRefA y A2' n c2' D at_ e kd mo HOK.out _ HS9.out).mono ?_
            rintro e1 w10 ⟨rfl, hJ10, hP10⟩
            rw [← HV.out.1]
            rw [← HV.out.2.1, ← HV.out.2.2] at hJ10
            have HP10 := Lib.hid (HQ.out.step HI9a.out HO9a.out hJ10 hP10)
            have hrow : w10.heap[w9.heap.size]? = some (.cells #[.int .i64 v.kind, .int .u64 v.u, .int .i64 v.i, .string v.s] 27 (0, 0)) := (hP10.blk _ (by simp) (by simp; omega)).trans (heap_alloc_new w9 _)
            have r0 : w10.cell? ⟨w9.heap.size, 0, none⟩ = some (.int .i64 v.kind) := by rw [cell_of_row _ _ _ _ _ _ hrow]; rfl
            have r1 : w10.cell? ⟨w9.heap.size, 1, none⟩ = some (.int .u64 v.u) := by rw [cell_of_row _ _ _ _ _ _ hrow]; rfl
            have r2 : w10.cell? ⟨w9.heap.size, 2, none⟩ = some (.int .i64 v.i) := by rw [cell_of_row _ _ _ _ _ _ hrow]; rfl
            have r3 : w10.cell? ⟨w9.heap.size, 3, none⟩ = some (.string v.s) := by rw [cell_of_row _ _ _ _ _ _ hrow]; rfl
            have hw10 : w9.heap.size < w10.heap.size := lt_of_block hrow
            clear hJ10 hP10 hrow q0 q1
            unfold ValV.val
            dsimp only
            have HP11 := Lib.hid (HP10.out.ext ((Below.refl _ w10).alloc (Nat.le_refl _) (.cells #[.int .i64 v.kind, .int .u64 v.u, .int .i64 v.i, .string v.s] 27)))
            go_wp2_with fail
            refine (pk_RLeft b A1 n c1 D a9 e9 _ HP11.out.r).mono ?_
            rintro e1 w12 ⟨rfl, hO12⟩
            have HP12 := Lib.hid (HP11.out.only hO12)
            clear hO12
            go_wp2_with fail
            refine (py_Left y A2' n c2' D a9 e9 _ HP12.out.s).mono ?_
            rintro e1 w13 ⟨rfl, hO13⟩
            have HP13 := Lib.hid (HP12.out.only hO13)
            clear hO13
            go_wp2_with fail
            refine (pk_RErr b A1 n c1 D a9 e9 _ HP13.out.r).mono ?_
            rintro e1 w14 ⟨rfl, rfl⟩
            go_wp2_with fail
            refine (py_Err y A2' n c2' D a9 e9 _ HP13.out.s).mono ?_
            rintro e1 w15 ⟨rfl, rfl⟩
            go_wp2
            go_roundw
            case rel => exact ⟨i + 1, a9, e9, by omega, by go_num, HP13.out⟩
            case measure => simp [intOf]; omega
          · go_wp2_with fail
            refine (pk_REnd b A1 n c1 D at_ e _ HQ.out.r).mono ?_
            rintro e1 w9 ⟨rfl, hI9, hO9⟩
            obtain ⟨e9, he9⟩ : ∃ e9, e9 = rE n at_ e := ⟨_, rfl⟩
            rw [← he9] at hI9 ⊢
            have HI9 := Lib.hid hI9
            have HO9 := Lib.hid hO9
            have HS9 := Lib.hid (HQ.out.mid hO9)
            have HE9 := Lib.hid he9
            clear hI9 hO9 he9
            go_wp2_with fail
            refine (py_End y A2' n c2' D at_ e _ HS9.out).mono ?_
            rintro e1 w10 ⟨rfl, hJ10, hP10⟩
            rw [← HE9.out] at hJ10 ⊢
            have HP11 := Lib.hid (HQ.out.step HI9.out HO9.out hJ10 hP10)
            clear hJ10 hP10
            go_wp2_with fail
            refine (pk_RLeft b A1 n c1 D at_ e9 _ HP11.out.r).mono ?_
            rintro e1 w12 ⟨rfl, hO12⟩
            have HP12 := Lib.hid (HP11.out.only hO12)
            clear hO12
            go_wp2_with fail
            refine (py_Left y A2' n c2' D at_ e9 _ HP12.out.s).mono ?_
            rintro e1 w13 ⟨rfl, hO13⟩
            have HP13 := Lib.hid (HP12.out.only hO13)
            clear hO13
            go_wp2_with fail
            refine (pk_RErr b A1 n c1 D at_ e9 _ HP13.out.r).mono ?_
            rintro e1 w14 ⟨rfl, rfl⟩
            go_wp2_with fail
            refine (py_Err y A2' n c2' D at_ e9 _ HP13.out.s).mono ?_
            rintro e1 w15 ⟨rfl, rfl⟩
            go_wp2
            go_roundw
            case rel => exact ⟨i + 1, at_, e9, by omega, by go_num, HP13.out⟩
            case measure => simp [intOf]; omega
        · obtain rfl : n2 = i := by omega
          go_wp2_with fail
          refine (pk_REnd b A1 n c1 D at_ e _ HP.out.r).mono ?_
          rintro e1 w9 ⟨rfl, hI9, hO9⟩
          obtain ⟨e9, he9⟩ : ∃ e9, e9 = rE n at_ e := ⟨_, rfl⟩
          rw [← he9] at hI9 ⊢
          have HI9 := Lib.hid hI9
          have HO9 := Lib.hid hO9
          have HS9 := Lib.hid (HP.out.mid hO9)
          have HE9 := Lib.hid he9
          clear hI9 hO9 he9
          go_wp2_with fail
          refine (py_End y A2' n c2' D at_ e _ HS9.out).mono ?_
          rintro e1 w10 ⟨rfl, hJ10, hP10⟩
          rw [← HE9.out] at hJ10 ⊢
          have HP11 := Lib.hid (HP.out.step HI9.out HO9.out hJ10 hP10)
          clear hJ10 hP10
          go_wp2_with fail
          refine (pk_RErr b A1 n c1 D at_ e9 _ HP11.out.r).mono ?_
          rintro e1 w11 ⟨rfl, rfl⟩
          go_wp2_with fail
          refine (py_Err y A2' n c2' D at_ e9 _ HP11.out.s).mono ?_
          rintro e1 w12 ⟨rfl, rfl⟩
          go_wp2
          go_ret
          exact ⟨by simp, HP11.out.below⟩
end Go.Proofs.Ytclafljkeaekfaa
