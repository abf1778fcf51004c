/- Pages, plain: what is written of a node that fits is read back. -/
import Derived.Test.YtlandlgjhnnaiaaPg17
set_option linter.unusedVariables false
set_option linter.unusedSimpArgs false
namespace Go.Proofs.Ytlandlgjhnnaiaa
open Go.RowKit SumMath
theorem lt_p4 {v : Nat} (h : v < 4096) : v < 256 ^ 4 := Nat.lt_of_lt_of_le h (by decide)
theorem strS_byS (s : ByteArray) : strS (byS s) = s := by cases s; rfl
theorem nxt_app (X Y Z : List UInt8) (h : X.length + Y.length ≤ 512) : nxt (X ++ Y ++ Z) X.length Y.length = (Y, X.length + Y.length) := by
  unfold nxt
  rw [if_pos (by omega)]
  unfold seg
  rw [List.append_assoc, List.drop_left, List.take_left]
theorem leN_leBn : ∀ (k : Nat) (v : Nat), v < 256 ^ k → leN (leB k (v : Int)) = v
  | 0, v, h => by have : v = 0 := by simpa using h
                  subst this; rfl
  | k + 1, v, h => by
    have h1 : ((v : Int) / 256) = ((v / 256 : Nat) : Int) := by omega
    rw [leB, leN, h1, leN_leBn k (v / 256) (by rw [Nat.pow_succ] at h; omega), UInt8.toNat_ofNat']
    omega
theorem num_app (X Z : List UInt8) (v k : Nat) (h : X.length + k ≤ 512) (hv : v < 256 ^ k) : num (X ++ leB k (v : Int) ++ Z) X.length k = (v, X.length + k) := by
  have h1 := nxt_app X (leB k v) Z (by rw [leB_len]; exact h)
  rw [leB_len] at h1
  unfold num
  rw [h1]
  dsimp only
  rw [leN_leBn k v hv]
theorem num1_app (X Z : List UInt8) (x : UInt8) (h : X.length + 1 ≤ 512) : num (X ++ (x :: Z)) X.length 1 = (x.toNat, X.length + 1) := by
  have h1 := nxt_app X [x] Z (by simpa using h)
  unfold num
  rw [List.append_assoc, List.singleton_append] at h1
  rw [show ([x] : List UInt8).length = 1 from rfl] at h1
  rw [h1]
  simp [leN]
theorem pEnt_app (X Z : List UInt8) (last : ByteArray) (e : En) (c : Int) (h : X.length + (entB e c).length ≤ 512) (ho : entOk last e c = true) :
    pEnt (X ++ entB e c ++ Z) X.length = (e, c, X.length + (entB e c).length) := by
  have hl := entB_len last e c ho
  have hk : e.key.size ≤ 120 ∧ e.val.size ≤ 64 := by
    simp only [entOk, keyOk, Bool.and_eq_true, decide_eq_true_eq] at ho
    exact ⟨ho.1.1.1.2, ho.2⟩
  by_cases hc : c = 0
  · subst hc
    have he : entB e 0 = b8 e.key.size :: b8 e.val.size :: (byS e.key ++ byS e.val) := by unfold entB; rw [if_neg (by simp)]
    rw [he] at h ⊢
    simp only [List.length_cons, List.length_append, byS_len] at h
    have e1 : num (X ++ (b8 e.key.size :: b8 e.val.size :: (byS e.key ++ byS e.val)) ++ Z) X.length 1 = (e.key.size, X.length + 1) := by
      rw [List.append_assoc, List.cons_append, num1_app _ _ _ (by omega), b8_lt _ (by omega)]
    have e2 : num (X ++ (b8 e.key.size :: b8 e.val.size :: (byS e.key ++ byS e.val)) ++ Z) (X.length + 1) 1 = (e.val.size, X.length + 2) := by
      have := num1_app (X ++ [b8 e.key.size]) ((byS e.key ++ byS e.val) ++ Z) (b8 e.val.size) (by simp; omega)
      rw [b8_lt _ (by omega)] at this
      simpa [List.append_assoc] using this
    have e3 : nxt (X ++ (b8 e.key.size :: b8 e.val.size :: (byS e.key ++ byS e.val)) ++ Z) (X.length + 2) e.key.size = (byS e.key, X.length + 2 + e.key.size) := by
      have := nxt_app (X ++ [b8 e.key.size, b8 e.val.size]) (byS e.key) (byS e.val ++ Z) (by simp [byS_len]; omega)
      rw [byS_len] at this
      simpa [List.append_assoc] using this
    have e4 : nxt (X ++ (b8 e.key.size :: b8 e.val.size :: (byS e.key ++ byS e.val)) ++ Z) (X.length + 2 + e.key.size) e.val.size = (byS e.val, X.length + 2 + e.key.size + e.val.size) := by
      have := nxt_app (X ++ [b8 e.key.size, b8 e.val.size] ++ byS e.key) (byS e.val) Z (by simp [byS_len]; omega)
      rw [byS_len] at this
      have h2 : (X ++ [b8 e.key.size, b8 e.val.size] ++ byS e.key).length = X.length + 2 + e.key.size := by simp only [List.length_append, List.length_cons, List.length_nil, byS_len]
      rw [h2] at this
      simpa [List.append_assoc] using this
    rw [pEnt_def _ _ _ _ _ rfl rfl rfl]
    rw [e1]
    dsimp only
    rw [e2]
    dsimp only
    rw [e3]
    dsimp only
    rw [if_neg (by omega), e4]
    simp only [strS_byS, List.length_cons, List.length_append, byS_len]
    congr 2
    omega
  · have he : entB e c = b8 e.key.size :: 255 :: (byS e.key ++ leB 4 c) := by unfold entB; rw [if_pos hc]
    have hv := leafGo_chain ho hc
    have hb : 0 ≤ c ∧ c < 4096 := by
      simp only [entOk, Bool.and_eq_true, Bool.not_eq_true', Bool.and_eq_false_iff, decide_eq_false_iff_not, Bool.or_eq_false_iff, Bool.not_eq_false', decide_eq_true_eq, ne_eq, Decidable.not_not] at ho
      rcases ho.1.2 with h9 | h9
      · exact absurd hc (by simpa using h9)
      · have := h9.1
        simp only [blkOk, Bool.and_eq_true, decide_eq_true_eq] at this
        omega
    obtain ⟨v, rfl⟩ : ∃ v : Nat, c = v := ⟨c.toNat, by omega⟩
    rw [he] at h ⊢
    simp only [List.length_cons, List.length_append, byS_len, leB_len] at h
    have e1 : num (X ++ (b8 e.key.size :: 255 :: (byS e.key ++ leB 4 v)) ++ Z) X.length 1 = (e.key.size, X.length + 1) := by
      rw [List.append_assoc, List.cons_append, num1_app _ _ _ (by omega), b8_lt _ (by omega)]
    have e2 : num (X ++ (b8 e.key.size :: 255 :: (byS e.key ++ leB 4 v)) ++ Z) (X.length + 1) 1 = (255, X.length + 2) := by
      have := num1_app (X ++ [b8 e.key.size]) ((byS e.key ++ leB 4 v) ++ Z) 255 (by simp; omega)
      simpa [List.append_assoc] using this
    have e3 : nxt (X ++ (b8 e.key.size :: 255 :: (byS e.key ++ leB 4 v)) ++ Z) (X.length + 2) e.key.size = (byS e.key, X.length + 2 + e.key.size) := by
      have := nxt_app (X ++ [b8 e.key.size, 255]) (byS e.key) (leB 4 v ++ Z) (by simp [byS_len]; omega)
      rw [byS_len] at this
      simpa [List.append_assoc] using this
    have e4 : num (X ++ (b8 e.key.size :: 255 :: (byS e.key ++ leB 4 v)) ++ Z) (X.length + 2 + e.key.size) 4 = (v, X.length + 2 + e.key.size + 4) := by
      have := num_app (X ++ [b8 e.key.size, 255] ++ byS e.key) Z v 4 (by simp [byS_len]; omega) (lt_p4 (by omega))
      have h2 : (X ++ [b8 e.key.size, 255] ++ byS e.key).length = X.length + 2 + e.key.size := by simp only [List.length_append, List.length_cons, List.length_nil, byS_len]
      rw [h2] at this
      simpa [List.append_assoc] using this
    rw [pEnt_def _ _ _ _ _ rfl rfl rfl]
    rw [e1]
    dsimp only
    rw [e2]
    dsimp only
    rw [e3]
    dsimp only
    rw [if_pos rfl, e4]
    simp only [strS_byS, List.length_cons, List.length_append, byS_len, leB_len]
    obtain ⟨key, val⟩ := e
    obtain rfl := size_eq hv
    congr 2
    omega
theorem pEnts_app : ∀ (es : List En) (cs : List Int) (last : ByteArray) (X Z : List UInt8), leafGo last es cs = true → cs.length = es.length → X.length + (entsB es cs).length ≤ 512 →
    pEnts (X ++ entsB es cs ++ Z) es.length X.length = (es, cs, X.length + (entsB es cs).length)
  | [], cs, _, X, Z, _, h, _ => by
    obtain rfl : cs = [] := List.eq_nil_of_length_eq_zero (by simpa using h)
    simp [pEnts, entsB]
  | e :: es, [], _, X, Z, _, h, _ => by simp at h
  | e :: es, c :: cs, last, X, Z, h, hl, hz => by
    simp only [leafGo, Bool.and_eq_true] at h
    have hl' : cs.length = es.length := by simpa using hl
    rw [entsB] at hz ⊢
    rw [List.length_append] at hz
    have h1 := pEnt_app X (entsB es cs ++ Z) last e c (by omega) h.1
    have h2 := pEnts_app es cs e.key (X ++ entB e c) Z h.2 hl' (by rw [List.length_append]; omega)
    have ha : X ++ (entB e c ++ entsB es cs) ++ Z = X ++ entB e c ++ (entsB es cs ++ Z) := by simp only [List.append_assoc]
    have hb : X ++ entB e c ++ (entsB es cs ++ Z) = X ++ entB e c ++ entsB es cs ++ Z := by simp only [List.append_assoc]
    rw [List.length_cons, pEnts, if_neg (by omega), ha, h1]
    dsimp only
    rw [hb, ← List.length_append, h2]
    simp only [List.length_append]
    congr 2
    omega
theorem pKey_app (X Z : List UInt8) (k : ByteArray) (v : Nat) (h : X.length + (1 + k.size + 4) ≤ 512) (hk : k.size ≤ 120) (hv : v < 4096) :
    pKey (X ++ (b8 k.size :: (byS k ++ leB 4 (v : Int))) ++ Z) X.length = (k, (v : Int), X.length + (1 + k.size + 4)) := by
  have e1 : num (X ++ (b8 k.size :: (byS k ++ leB 4 (v : Int))) ++ Z) X.length 1 = (k.size, X.length + 1) := by
    rw [List.append_assoc, List.cons_append, num1_app _ _ _ (by omega), b8_lt _ (by omega)]
  have e3 : nxt (X ++ (b8 k.size :: (byS k ++ leB 4 (v : Int))) ++ Z) (X.length + 1) k.size = (byS k, X.length + 1 + k.size) := by
    have := nxt_app (X ++ [b8 k.size]) (byS k) (leB 4 v ++ Z) (by simp [byS_len]; omega)
    rw [byS_len] at this
    simpa [List.append_assoc] using this
  have e4 : num (X ++ (b8 k.size :: (byS k ++ leB 4 (v : Int))) ++ Z) (X.length + 1 + k.size) 4 = (v, X.length + 1 + k.size + 4) := by
    have := num_app (X ++ [b8 k.size] ++ byS k) Z v 4 (by simp [byS_len]; omega) (lt_p4 (by omega))
    have h2 : (X ++ [b8 k.size] ++ byS k).length = X.length + 1 + k.size := by simp only [List.length_append, List.length_cons, List.length_nil, byS_len]
    rw [h2] at this
    simpa [List.append_assoc] using this
  unfold pKey
  dsimp only
  rw [e1]
  dsimp only
  rw [e3]
  dsimp only
  rw [e4]
  simp only [strS_byS]
  congr 2
  omega
theorem pKeys_app : ∀ (ks : List ByteArray) (cs : List Int) (X Z : List UInt8), (∀ k ∈ ks, k.size ≤ 120) → (∀ c ∈ cs, blkOk c = true) → cs.length = ks.length → X.length + (innB ks cs).length ≤ 512 →
    pKeys (X ++ innB ks cs ++ Z) ks.length X.length = (ks, cs, X.length + (innB ks cs).length)
  | [], cs, X, Z, _, _, h, _ => by
    obtain rfl : cs = [] := List.eq_nil_of_length_eq_zero (by simpa using h)
    simp [pKeys, innB]
  | k :: ks, [], X, Z, _, _, h, _ => by simp at h
  | k :: ks, c :: cs, X, Z, h, hc, hl, hz => by
    have hl' : cs.length = ks.length := by simpa using hl
    have hb := hc c (by simp)
    simp only [blkOk, Bool.and_eq_true, decide_eq_true_eq] at hb
    obtain ⟨v, rfl⟩ : ∃ v : Nat, c = v := ⟨c.toNat, by omega⟩
    rw [innB] at hz ⊢
    simp only [List.length_append, List.length_cons, byS_len, leB_len] at hz
    have h1 := pKey_app X (innB ks cs ++ Z) k v (by omega) (h k (by simp)) (by omega)
    have h2 := pKeys_app ks cs (X ++ (b8 k.size :: (byS k ++ leB 4 (v : Int)))) Z (fun k hk => h k (by simp [hk])) (fun c hk => hc c (by simp [hk])) hl' (by simp only [List.length_append, List.length_cons, byS_len, leB_len]; omega)
    have ha : X ++ (b8 k.size :: (byS k ++ leB 4 (v : Int)) ++ innB ks cs) ++ Z = X ++ (b8 k.size :: (byS k ++ leB 4 (v : Int))) ++ (innB ks cs ++ Z) := by simp only [List.append_assoc, List.cons_append]
    have hb' : X ++ (b8 k.size :: (byS k ++ leB 4 (v : Int))) ++ (innB ks cs ++ Z) = X ++ (b8 k.size :: (byS k ++ leB 4 (v : Int))) ++ innB ks cs ++ Z := by simp only [List.append_assoc, List.cons_append]
    have hlen : X.length + (1 + k.size + 4) = (X ++ (b8 k.size :: (byS k ++ leB 4 (v : Int)))).length := by simp only [List.length_append, List.length_cons, byS_len, leB_len]; omega
    rw [List.length_cons, pKeys, if_neg (by omega), ha, h1]
    dsimp only
    rw [hb', hlen, h2]
    simp only [List.length_append, List.length_cons, byS_len, leB_len]
    congr 2
    omega
/-- the block's bytes, part by part -/
def zrs (n : Nd) : List UInt8 := List.replicate (512 - (8 + (bodyN n).length)) 0
theorem headN_len (n : Nd) : (headN n).length = 4 := rfl
theorem rawN_eq (n : Nd) : rawN n = headN n ++ [0, 0, 0, 0] ++ (bodyN n ++ zrs n) := by
  unfold rawN padB zrs
  simp only [List.length_append, headN_len, List.append_assoc]
  rw [show 4 + (([0, 0, 0, 0] : List UInt8).length + (bodyN n).length) = 8 + (bodyN n).length from by rw [show ([0, 0, 0, 0] : List UInt8).length = 4 from rfl]; omega]
theorem splice_mid (A B C D : List UInt8) (h : B.length = D.length) : splice (A ++ B ++ C) A.length D = A ++ D ++ C := by
  unfold splice
  rw [List.append_assoc A B C, List.take_left, ← h, ← List.length_append, ← List.append_assoc A B C, List.drop_left, List.append_assoc]
theorem encN_eq (n : Nd) : encN n = headN n ++ leB 4 ((sealL (rawN n)).toNat : Nat) ++ (bodyN n ++ zrs n) := by
  unfold encN
  conv => lhs; rw [rawN_eq n]
  have := splice_mid (headN n) [0, 0, 0, 0] (bodyN n ++ zrs n) (leB 4 ((sealL (rawN n)).toNat : Nat)) (by rw [leB_len]; rfl)
  rw [headN_len] at this
  rw [rawN_eq n] at this ⊢
  exact this
theorem seal_enc (n : Nd) : sealL (encN n) = sealL (rawN n) := by
  conv => lhs; rw [encN_eq]
  conv => rhs; rw [rawN_eq]
  unfold sealL
  have h1 : ∀ Y : List UInt8, Y.length = 4 → (headN n ++ Y ++ (bodyN n ++ zrs n)).take 4 = headN n := fun Y hY => by
    rw [List.append_assoc]
    exact List.take_left' (headN_len n)
  have h2 : ∀ Y : List UInt8, Y.length = 4 → (headN n ++ Y ++ (bodyN n ++ zrs n)).drop 8 = bodyN n ++ zrs n := fun Y hY => by
    exact List.drop_left' (by rw [List.length_append, hY]; rfl)
  rw [h1 _ (leB_len _ _), h2 _ (leB_len _ _), h1 _ rfl, h2 _ rfl]
theorem b8_val_nat (n : Nat) : (b8 (n : Int)).toNat = n % 256 := by have := b8_val n; omega
theorem kids_blk : ∀ (S l : List Int), unlikeGo S l = true → ∀ c ∈ l, blkOk c = true
  | _, [], _, _, h => by simp at h
  | S, b :: l, h, c, hc => by
    simp only [unlikeGo, Bool.and_eq_true] at h
    rcases List.mem_cons.1 hc with rfl | hc
    · exact h.1.1
    · exact kids_blk (b :: S) l h.2 c hc
theorem enc_get0 (n : Nd) : (encN n).getD 0 0 = 181 := by rw [encN_eq]; rfl
theorem enc_get1 (n : Nd) : (encN n).getD 1 0 = b8 n.kind := by rw [encN_eq]; rfl
theorem enc_get2 (n : Nd) : (encN n).getD 2 0 = b8 (cntN n) := by rw [encN_eq]; rfl
theorem enc_get3 (n : Nd) : (encN n).getD 3 0 = b8 ((cntN n / 256 : Nat) : Int) := by rw [encN_eq]; rfl
/-- what is written of a node that fits is read back -/
theorem pNd_enc (n : Nd) (h : fitsN n = true) : pNd (encN n) = (n, 8 + (bodyN n).length) := by
  have hroom := fits_room n h
  have hcnt : cntN n ≤ 512 := fits_cnt h
  have hcL : cntL (encN n) = cntN n := by
    unfold cntL
    rw [enc_get2, enc_get3, b8_val_nat, b8_val_nat]; omega
  have hH : ∃ H, encN n = H ++ bodyN n ++ zrs n ∧ H.length = 8 := ⟨headN n ++ leB 4 ((sealL (rawN n)).toNat : Nat), by rw [encN_eq, List.append_assoc (headN n ++ _)], by rw [List.length_append, leB_len]; rfl⟩
  obtain ⟨H, hE, hHl⟩ := hH
  rcases fits_kind h with ⟨k1, h1, h2⟩ | ⟨k1, h1, h2⟩ | ⟨k1, h1, h2⟩
  · obtain ⟨p1, p2, p3, p4, p5, p6, p7⟩ := leaf_parts h1
    have hk : kindL (encN n) = 1 := by unfold kindL; rw [enc_get1, k1]; rfl
    have hb : bodyN n = entsB n.ents n.chs := by unfold bodyN; rw [if_pos k1]
    have hc : cntN n = n.ents.length := by unfold cntN; omega
    have h9 := pEnts_app n.ents n.chs noS H (zrs n) p7 p2 (by rw [← hb]; omega)
    rw [hHl, ← hb, ← hE] at h9
    unfold pNd
    rw [if_pos hk, hcL, hc, h9]
    obtain ⟨kind, ents, chs, keys, kids, next, data⟩ := n
    dsimp only at k1 p3 p4 p5 p6 ⊢
    obtain rfl : keys = [] := List.eq_nil_of_length_eq_zero p3
    obtain rfl : kids = [] := List.eq_nil_of_length_eq_zero p4
    subst p5 k1
    obtain rfl := size_eq p6
    rfl
  · obtain ⟨p1, p2, p3, p4, p5, p6, p7, p8⟩ := inner_parts h1
    have hk : kindL (encN n) = 2 := by unfold kindL; rw [enc_get1, k1]; rfl
    have hb : bodyN n = leB 4 (n.kids.getD 0 0) ++ innB n.keys (n.kids.drop 1) := by unfold bodyN; rw [if_neg (by omega), if_pos k1]
    have hc : cntN n = n.keys.length := by unfold cntN; omega
    have hkb := kids_blk [] n.kids p8
    have hk0 : blkOk (n.kids.getD 0 0) = true := hkb _ (by rw [List.getD_eq_getElem?_getD, List.getElem?_eq_getElem (by omega)]; exact List.getElem_mem _)
    have hk0' := hk0
    simp only [blkOk, Bool.and_eq_true, decide_eq_true_eq] at hk0'
    obtain ⟨v, hv⟩ : ∃ v : Nat, n.kids.getD 0 0 = v := ⟨(n.kids.getD 0 0).toNat, by omega⟩
    have h8 : num (encN n) 8 4 = (v, 12) := by
      have := num_app H (innB n.keys (n.kids.drop 1) ++ zrs n) v 4 (by omega) (lt_p4 (by omega))
      rw [hHl] at this
      rw [hE, hb, hv]
      simpa only [List.append_assoc] using this
    have h9 := pKeys_app n.keys (n.kids.drop 1) (H ++ leB 4 (v : Int)) (zrs n) (fun k hk => by
      obtain ⟨i, hi, rfl⟩ := List.getElem_of_mem hk
      have := riseGo_bnd n.keys noS p7 i hi
      rwa [List.getD_eq_getElem?_getD, List.getElem?_eq_getElem hi] at this) (fun c hc => hkb c (List.mem_of_mem_drop hc)) (by rw [List.length_drop]; omega) (by
        rw [List.length_append, leB_len]
        rw [hb, List.length_append, leB_len] at hroom
        omega)
    have hX : (H ++ leB 4 (v : Int)).length = 12 := by rw [List.length_append, leB_len, hHl]
    have hEE : H ++ leB 4 (v : Int) ++ innB n.keys (n.kids.drop 1) ++ zrs n = encN n := by rw [hE, hb, hv]; simp only [List.append_assoc]
    rw [hX, hEE] at h9
    unfold pNd
    rw [if_neg (by omega), if_pos hk, hcL, hc, h8]
    dsimp only
    rw [h9, hb, List.length_append, leB_len]
    obtain ⟨kind, ents, chs, keys, kids, next, data⟩ := n
    dsimp only at k1 p2 p3 p4 p5 p6 hv ⊢
    obtain rfl : ents = [] := List.eq_nil_of_length_eq_zero p3
    obtain rfl : chs = [] := List.eq_nil_of_length_eq_zero p4
    subst p5 k1
    obtain rfl := size_eq p6
    cases kids with
    | nil => simp at p2
    | cons c cs =>
      have : c = v := hv
      subst this
      simp only [List.drop_one, List.tail_cons]
      congr 1
      omega
  · obtain ⟨p1, p2, p3, p4, p5, p6⟩ := chain_parts h1
    have hk : kindL (encN n) = 3 := by unfold kindL; rw [enc_get1, k1]; rfl
    have hb : bodyN n = leB 4 n.next ++ byS n.data := by unfold bodyN; rw [if_neg (by omega), if_neg (by omega), if_pos k1]
    have hc : cntN n = n.data.size := by unfold cntN; omega
    have hnx : 0 ≤ n.next ∧ n.next < 4096 := by
      simp only [isChainN, Bool.and_eq_true, Bool.or_eq_true, decide_eq_true_eq, blkOk] at h1
      rcases h1.2 with h9 | h9 <;> omega
    obtain ⟨v, hv⟩ : ∃ v : Nat, n.next = v := ⟨n.next.toNat, by omega⟩
    have h8 : num (encN n) 8 4 = (v, 12) := by
      have := num_app H (byS n.data ++ zrs n) v 4 (by omega) (lt_p4 (by omega))
      rw [hHl] at this
      rw [hE, hb, hv]
      simpa only [List.append_assoc] using this
    have hX : (H ++ leB 4 (v : Int)).length = 12 := by rw [List.length_append, leB_len, hHl]
    have h9 := nxt_app (H ++ leB 4 (v : Int)) (byS n.data) (zrs n) (by rw [hX, byS_len]; omega)
    have hEE : H ++ leB 4 (v : Int) ++ byS n.data ++ zrs n = encN n := by rw [hE, hb, hv]; simp only [List.append_assoc]
    rw [hX, hEE, byS_len] at h9
    unfold pNd
    rw [if_neg (by omega), if_neg (by omega), if_pos hk, hcL, hc, h8]
    dsimp only
    rw [h9, hb, List.length_append, leB_len, byS_len]
    obtain ⟨kind, ents, chs, keys, kids, next, data⟩ := n
    dsimp only at k1 p1 p2 p3 p4 hv ⊢
    obtain rfl : ents = [] := List.eq_nil_of_length_eq_zero p1
    obtain rfl : chs = [] := List.eq_nil_of_length_eq_zero p2
    obtain rfl : keys = [] := List.eq_nil_of_length_eq_zero p3
    obtain rfl : kids = [] := List.eq_nil_of_length_eq_zero p4
    subst hv k1
    rw [strS_byS]
    congr 1
    omega
theorem enc_blank (n : Nd) : blankL (encN n) (8 + (bodyN n).length) = true := by
  unfold blankL
  rw [encN_eq, ← List.append_assoc, List.drop_left' (by simp only [List.length_append, leB_len, headN_len])]
  unfold zrs
  rw [List.all_eq_true]
  intro x hx
  rw [List.eq_of_mem_replicate hx]; rfl
theorem enc_sum (n : Nd) : num (encN n) 4 4 = ((sealL (encN n)).toNat, 8) := by
  have h9 := num_app (headN n) (bodyN n ++ zrs n) (sealL (rawN n)).toNat 4 (by rw [headN_len]; decide) (sealL (rawN n)).isLt
  rw [headN_len] at h9
  rw [seal_enc]
  rw [← encN_eq] at h9
  exact h9
/-- what the program asks of a block before it takes it for a page -/
theorem pageL_iff (L : List UInt8) : pageL L ↔ (L.getD 0 0 = 181 ∧ (num L 4 4).1 = (sealL L).toNat ∧ (pNd L).2 ≤ 512 ∧ blankL L (pNd L).2 = true ∧ fitsN (pNd L).1 = true ∧ encN (pNd L).1 = L) := by
  constructor
  · rintro ⟨h1, h2, h3⟩
    have h4 := pNd_enc _ h2
    refine ⟨?_, ?_, h1, ?_, h2, h3⟩
    · conv => lhs; rw [← h3]
      exact enc_get0 _
    · conv => lhs; rw [← h3]
      rw [enc_sum, h3]
    · rw [h3] at h4
      have h5 := enc_blank (pNd L).1
      rw [h3] at h5
      rw [show (pNd L).2 = 8 + (bodyN (pNd L).1).length from by rw [h4]]
      rw [h4] at h5
      rw [h4]
      exact h5
  · rintro ⟨_, _, h1, _, h2, h3⟩
    exact ⟨h1, h2, h3⟩
theorem pageL_enc (n : Nd) (h : fitsN n = true) : pageL (encN n) := by
  unfold pageL
  rw [pNd_enc n h]
  exact ⟨fits_room n h, h, rfl⟩
instance (L : List UInt8) : Decidable (pageL L) := by
  unfold pageL
  exact if h : (pNd L).2 ≤ 512 ∧ fitsN (pNd L).1 = true ∧ encN (pNd L).1 = L then .isTrue h else .isFalse h
/-- what Decode answers -/
def decN (L : List UInt8) : Nd × Int := if pageL L then ((pNd L).1, 0) else (zNd, 2)
end Go.Proofs.Ytlandlgjhnnaiaa
