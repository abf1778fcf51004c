/- A page: what is one, its size, its bytes, what bytes say. No Go in this text. -/
import Derived.Test.YtlandlgjhnnaiaaAnMath
import Derived.Test.YtlandlgjhnnaiaaOwnE
set_option linter.unusedVariables false
set_option linter.unusedSimpArgs false
namespace Go.Proofs.Ytlandlgjhnnaiaa
open Go.RowKit SumMath
structure Nd where
  kind : Int
  ents : List En
  chs : List Int
  keys : List ByteArray
  kids : List Int
  next : Int
  data : ByteArray
def zNd : Nd := ⟨0, [], [], [], [], 0, ⟨#[]⟩⟩
def noS : ByteArray := ⟨#[]⟩
/-- the bytes of a text -/
def byS (s : ByteArray) : List UInt8 := s.data.toList
theorem byS_len (s : ByteArray) : (byS s).length = s.size := rfl
def blkOk (n : Int) : Bool := decide (1 ≤ n) && decide (n < 4096)
def keyOk (k : ByteArray) : Bool := decide (1 ≤ k.size) && decide (k.size ≤ 120)
def leS (a b : ByteArray) : Bool := Op.bytesLess a.toList b.toList || a.toList == b.toList
def entOk (last : ByteArray) (e : En) (c : Int) : Bool := keyOk e.key && !leS e.key last && !(decide (c ≠ 0) && (!blkOk c || decide (e.val.size ≠ 0))) && decide (e.val.size ≤ 64)
def leafGo : ByteArray → List En → List Int → Bool
  | _, [], _ => true
  | last, e :: es, c :: cs => entOk last e c && leafGo e.key es cs
  | _, _ :: _, [] => false
def riseGo : ByteArray → List ByteArray → Bool
  | _, [] => true
  | last, k :: ks => keyOk k && !leS k last && riseGo k ks
/-- are they blocks, no two alike, and none of those seen? -/
def unlikeGo : List Int → List Int → Bool
  | _, [] => true
  | S, b :: l => blkOk b && !S.contains b && unlikeGo (b :: S) l
def isLeafN (n : Nd) : Bool := decide (n.ents.length ≠ 0) && decide (n.chs.length = n.ents.length) && decide (n.keys.length = 0) && decide (n.kids.length = 0) && decide (n.next = 0) && decide (n.data.size = 0) && leafGo noS n.ents n.chs
def isInnerN (n : Nd) : Bool := decide (n.keys.length ≠ 0) && decide (n.kids.length = n.keys.length + 1) && decide (n.ents.length = 0) && decide (n.chs.length = 0) && decide (n.next = 0) && decide (n.data.size = 0) && riseGo noS n.keys && unlikeGo [] n.kids
def isChainN (n : Nd) : Bool := decide (n.ents.length + n.chs.length + n.keys.length + n.kids.length = 0) && decide (1 ≤ n.data.size) && decide (n.data.size ≤ 500) && (decide (n.next = 0) || blkOk n.next)
def entsZ : List En → List Int → Nat
  | e :: es, c :: cs => 2 + e.key.size + e.val.size + (if c ≠ 0 then 4 else 0) + entsZ es cs
  | _, _ => 0
def keysZ : List ByteArray → Nat
  | [] => 0
  | k :: ks => 5 + k.size + keysZ ks
def sizeN (n : Nd) : Int :=
  if n.kind = 1 ∧ isLeafN n = true then ((8 + entsZ n.ents n.chs : Nat) : Int)
  else if n.kind = 2 ∧ isInnerN n = true then ((12 + keysZ n.keys : Nat) : Int)
  else if n.kind = 3 ∧ isChainN n = true then ((12 + n.data.size : Nat) : Int)
  else -1
def fitsN (n : Nd) : Bool := decide (0 ≤ sizeN n) && decide (sizeN n ≤ 512)
/-! ### its bytes -/
def b8 (n : Int) : UInt8 := UInt8.ofNat (n % 256).toNat
theorem leB_one (n : Int) : leB 1 n = [b8 n] := rfl
def entB (e : En) (c : Int) : List UInt8 :=
  if c ≠ 0 then b8 e.key.size :: 255 :: (byS e.key ++ leB 4 c) else b8 e.key.size :: b8 e.val.size :: (byS e.key ++ byS e.val)
def entsB : List En → List Int → List UInt8
  | e :: es, c :: cs => entB e c ++ entsB es cs
  | _, _ => []
def innB : List ByteArray → List Int → List UInt8
  | k :: ks, c :: cs => b8 k.size :: (byS k ++ leB 4 c) ++ innB ks cs
  | _, _ => []
def bodyN (n : Nd) : List UInt8 :=
  if n.kind = 1 then entsB n.ents n.chs else if n.kind = 2 then leB 4 (n.kids.getD 0 0) ++ innB n.keys (n.kids.drop 1) else if n.kind = 3 then leB 4 n.next ++ byS n.data else []
def cntN (n : Nd) : Nat := n.ents.length + n.keys.length + n.data.size
/-- a block of which the first bytes are laid -/
def padB (P : List UInt8) : List UInt8 := P ++ List.replicate (512 - P.length) 0
def headN (n : Nd) : List UInt8 := [181, b8 n.kind, b8 (cntN n), b8 ((cntN n / 256 : Nat) : Int)]
def rawN (n : Nd) : List UInt8 := padB (headN n ++ [0, 0, 0, 0] ++ bodyN n)
def sealL (L : List UInt8) : BitVec 32 := crc (crc 0#32 (L.take 4)) (L.drop 8)
def encN (n : Nd) : List UInt8 := splice (rawN n) 4 (leB 4 ((sealL (rawN n)).toNat : Nat))
theorem padB_len (P : List UInt8) (h : P.length ≤ 512) : (padB P).length = 512 := by unfold padB; rw [List.length_append, List.length_replicate]; omega
/-- more bytes are laid behind -/
theorem padB_more (P X : List UInt8) (h : P.length + X.length ≤ 512) : splice (padB P) P.length X = padB (P ++ X) := by
  have hl := padB_len P (by omega)
  apply List.ext_getElem?
  intro i
  rw [spl_get _ _ _ _ (by omega)]
  unfold padB
  rw [List.length_append]
  by_cases h1 : i < P.length
  · rw [if_neg (by omega), List.getElem?_append_left (by omega), List.getElem?_append_left (by rw [List.length_append]; omega), List.getElem?_append_left (by omega)]
  · by_cases h2 : i < P.length + X.length
    · rw [if_pos (by omega), List.getElem?_append_left (by rw [List.length_append]; omega), List.getElem?_append_right (by omega)]
    · rw [if_neg (by omega), List.getElem?_append_right (by omega), List.getElem?_append_right (by rw [List.length_append]; omega), List.getElem?_replicate, List.getElem?_replicate, List.length_append]
      by_cases h3 : i < 512
      · rw [if_pos (by omega), if_pos (by omega)]
      · rw [if_neg (by omega), if_neg (by omega)]
theorem b8_lt (n : Nat) (h : n < 256) : (b8 n).toNat = n := by unfold b8; rw [UInt8.toNat_ofNat']; omega
theorem entB_len (last : ByteArray) (e : En) (c : Int) (h : entOk last e c = true) : (entB e c).length = 2 + e.key.size + e.val.size + (if c ≠ 0 then 4 else 0) := by
  unfold entB
  split
  · rename_i hc
    simp only [entOk, Bool.and_eq_true, Bool.not_eq_true', Bool.and_eq_false_iff, decide_eq_false_iff_not, Bool.or_eq_false_iff, Bool.not_eq_false', decide_eq_true_eq, ne_eq, Decidable.not_not] at h
    have hv : e.val.size = 0 := by
      rcases h.1.2 with h | h
      · exact absurd hc (by simpa using h)
      · exact h.2
    simp only [List.length_cons, List.length_append, leB_len, byS_len, hv]; omega
  · simp only [List.length_cons, List.length_append, byS_len]; omega
theorem entsB_len : ∀ (es : List En) (cs : List Int) (last : ByteArray), leafGo last es cs = true → (entsB es cs).length = entsZ es cs
  | [], cs, last, _ => by cases cs <;> rfl
  | e :: es, [], last, h => by cases h
  | e :: es, c :: cs, last, h => by
    simp only [leafGo, Bool.and_eq_true] at h
    rw [entsB, entsZ, List.length_append, entB_len last e c h.1, entsB_len es cs e.key h.2]
theorem innB_len : ∀ (ks : List ByteArray) (cs : List Int), cs.length = ks.length → (innB ks cs).length = keysZ ks
  | [], cs, _ => by cases cs <;> rfl
  | k :: ks, [], h => by simp at h
  | k :: ks, c :: cs, h => by
    rw [innB, keysZ, List.length_append, innB_len ks cs (by simpa using h)]
    simp only [List.length_cons, List.length_append, leB_len, byS_len]; omega
theorem sizeN_body (n : Nd) (h : 0 ≤ sizeN n) : sizeN n = ((8 + (bodyN n).length : Nat) : Int) := by
  unfold sizeN at h ⊢
  split
  · rename_i h1
    have h2 := h1.2
    simp only [isLeafN, Bool.and_eq_true] at h2
    rw [bodyN, if_pos h1.1, entsB_len _ _ noS h2.2]
  · split
    · rename_i h0 h1
      have h2 := h1.2
      simp only [isInnerN, Bool.and_eq_true, decide_eq_true_eq] at h2
      rw [bodyN, if_neg (by omega), if_pos h1.1, List.length_append, leB_len, innB_len _ _ (by rw [List.length_drop]; omega)]
      congr 1; omega
    · split
      · rename_i h0 h1 h2
        rw [bodyN, if_neg (by omega), if_neg (by omega), if_pos h2.1, List.length_append, leB_len, byS_len]
        congr 1; omega
      · rename_i h0 h1 h2
        rw [if_neg h0, if_neg h1, if_neg h2] at h
        omega
theorem fits_room (n : Nd) (h : fitsN n = true) : 8 + (bodyN n).length ≤ 512 := by
  simp only [fitsN, Bool.and_eq_true, decide_eq_true_eq] at h
  have := sizeN_body n h.1
  omega
theorem rawN_len (n : Nd) (h : fitsN n = true) : (rawN n).length = 512 := by
  have := fits_room n h
  unfold rawN
  exact padB_len _ (by simp only [headN, List.length_append, List.length_cons, List.length_nil]; omega)
theorem encN_len (n : Nd) (h : fitsN n = true) : (encN n).length = 512 := by
  unfold encN
  rw [spl_len _ _ _ (by rw [rawN_len n h, leB_len]; omega), rawN_len n h]
/-! ### what bytes say -/
/-- the next k bytes from a place on, and the place behind; 513: they end too early -/
def nxt (L : List UInt8) (a k : Nat) : List UInt8 × Nat := if k + a ≤ 512 then (seg L a k, a + k) else ([], 513)
def num (L : List UInt8) (a k : Nat) : Nat × Nat := (leN (nxt L a k).1, (nxt L a k).2)
def strS (l : List UInt8) : ByteArray := ⟨l.toArray⟩
def pEnt (L : List UInt8) (a : Nat) : En × Int × Nat :=
  let k := num L a 1
  let v := num L k.2 1
  let s := nxt L v.2 k.1
  if v.1 = 255 then (⟨strS s.1, noS⟩, ((num L s.2 4).1 : Nat), (num L s.2 4).2) else (⟨strS s.1, strS (nxt L s.2 v.1).1⟩, 0, (nxt L s.2 v.1).2)
def pEnts (L : List UInt8) : Nat → Nat → List En × List Int × Nat
  | 0, a => ([], [], a)
  | k + 1, a => if 512 < a then ([], [], a) else ((pEnt L a).1 :: (pEnts L k (pEnt L a).2.2).1, (pEnt L a).2.1 :: (pEnts L k (pEnt L a).2.2).2.1, (pEnts L k (pEnt L a).2.2).2.2)
def pKey (L : List UInt8) (a : Nat) : ByteArray × Int × Nat :=
  let k := num L a 1
  let s := nxt L k.2 k.1
  (strS s.1, ((num L s.2 4).1 : Nat), (num L s.2 4).2)
def pKeys (L : List UInt8) : Nat → Nat → List ByteArray × List Int × Nat
  | 0, a => ([], [], a)
  | k + 1, a => if 512 < a then ([], [], a) else ((pKey L a).1 :: (pKeys L k (pKey L a).2.2).1, (pKey L a).2.1 :: (pKeys L k (pKey L a).2.2).2.1, (pKeys L k (pKey L a).2.2).2.2)
def kindL (L : List UInt8) : Nat := (L.getD 1 0).toNat
def cntL (L : List UInt8) : Nat := (L.getD 2 0).toNat + 256 * (L.getD 3 0).toNat
/-- the node that the bytes speak of, and the place behind it -/
def pNd (L : List UInt8) : Nd × Nat :=
  if kindL L = 1 then (⟨1, (pEnts L (cntL L) 8).1, (pEnts L (cntL L) 8).2.1, [], [], 0, noS⟩, (pEnts L (cntL L) 8).2.2)
  else if kindL L = 2 then (⟨2, [], [], (pKeys L (cntL L) (num L 8 4).2).1, ((num L 8 4).1 : Nat) :: (pKeys L (cntL L) (num L 8 4).2).2.1, 0, noS⟩, (pKeys L (cntL L) (num L 8 4).2).2.2)
  else if kindL L = 3 then (⟨3, [], [], [], [], ((num L 8 4).1 : Nat), strS (nxt L (num L 8 4).2 (cntL L)).1⟩, (nxt L (num L 8 4).2 (cntL L)).2)
  else (⟨kindL L, [], [], [], [], 0, noS⟩, 8)
/-- a block is a page just if its page's bytes are it -/
def pageL (L : List UInt8) : Prop := (pNd L).2 ≤ 512 ∧ fitsN (pNd L).1 = true ∧ encN (pNd L).1 = L
end Go.Proofs.Ytlandlgjhnnaiaa
