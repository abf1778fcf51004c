/- PageBack, its plain part, and Decode's and Encode's contracts in one form. -/
import Derived.Test.YtlandlgjhnnaiaaPg23
import Derived.Test.YtlandlgjhnnaiaaPgTw
set_option linter.unusedVariables false
set_option linter.unusedSimpArgs false
set_option maxRecDepth 100000
namespace Go.Proofs.Ytlandlgjhnnaiaa
open Go.RowKit SumMath
theorem seal_body (y : List UInt8) : sealL y = crc 0#32 (bodyL 4 y) := by unfold sealL bodyL; rw [crc_append]
theorem enc_good (n : Nd) : Good 4 (encN n) := by
  unfold Good
  rw [← seal_body, seal_enc]
  conv => lhs; rw [encN_eq]
  unfold seg
  rw [List.append_assoc, List.drop_left' (headN_len n), List.take_left' (leB_len _ _)]
theorem page_good {L : List UInt8} (h : pageL L) : Good 4 L := by rw [← h.2.2]; exact enc_good _
/-- what Decode answers, whatever the length -/
def decA (L : List UInt8) : Nd × Int := if L.length = 512 then decN L else (zNd, 61)
theorem decA_cases (L : List UInt8) : (L.length ≠ 512 ∧ decA L = (zNd, 61)) ∨ (L.length = 512 ∧ ¬ pageL L ∧ decA L = (zNd, 2)) ∨ (L.length = 512 ∧ pageL L ∧ decA L = ((pNd L).1, 0)) := by
  unfold decA decN
  by_cases h1 : L.length = 512
  · by_cases h2 : pageL L
    · exact .inr (.inr ⟨h1, h2, by rw [if_pos h1, if_pos h2]⟩)
    · exact .inr (.inl ⟨h1, h2, by rw [if_pos h1, if_neg h2]⟩)
  · exact .inl ⟨h1, by rw [if_neg h1]⟩
theorem fits_len {n : Nd} (h : fitsN n = true) : n.ents.length ≤ 600 ∧ n.chs.length ≤ 600 ∧ n.keys.length ≤ 600 ∧ n.kids.length ≤ 600 := by
  have hc := fits_cnt h
  rcases fits_kind h with ⟨_, h1, h2⟩ | ⟨_, h1, h2⟩ | ⟨_, h1, h2⟩
  · obtain ⟨_, h3, h4, h5, _, _, _⟩ := leaf_parts h1; omega
  · obtain ⟨_, h5, h3, h4, _, _, _⟩ := inner_parts h1; omega
  · obtain ⟨h3, h4, h5, h6, _, _⟩ := chain_parts h1; omega
theorem decA_len (L : List UInt8) : (decA L).1.ents.length ≤ 600 ∧ (decA L).1.chs.length ≤ 600 ∧ (decA L).1.keys.length ≤ 600 ∧ (decA L).1.kids.length ≤ 600 := by
  rcases decA_cases L with ⟨_, h⟩ | ⟨_, _, h⟩ | ⟨_, hp, h⟩
  · rw [h]; exact ⟨by decide, by decide, by decide, by decide⟩
  · rw [h]; exact ⟨by decide, by decide, by decide, by decide⟩
  · rw [h]; exact fits_len hp.2.1
theorem pg_DecodeA (A : Option Addr) (m c : Nat) (L : List UInt8) (w : World) (hr : Rd w A m c L) :
    Calls Try.prog 23 #[.slice A m c] w fun e w' => ∃ AE cE AC cC AK cK AD cD, e = .returned (.tuple #[.agg (ndC (decA L).1 (.slice AE (decA L).1.ents.length cE) (.slice AC (decA L).1.chs.length cC) (.slice AK (decA L).1.keys.length cK) (.slice AD (decA L).1.kids.length cD)), .int .i64 (decA L).2]) ∧
      NdO w' w.heap.size (decA L).1 (.slice AE (decA L).1.ents.length cE) (.slice AC (decA L).1.chs.length cC) (.slice AK (decA L).1.keys.length cK) (.slice AD (decA L).1.kids.length cD) ∧ Below w.heap.size w w' := by
  have hl := hr.len
  by_cases hm : m = 512
  · subst hm
    refine (pg_Decode A c L w hr).mono ?_
    rintro e w' ⟨vE, vC, vK, vD, rfl, hN, hb⟩
    have hd : decA L = decN L := by unfold decA; rw [if_pos hl]
    rw [← hd] at hN ⊢
    obtain ⟨AE, cE, rfl⟩ := hN.e.slice
    obtain ⟨AC, cC, rfl⟩ := hN.c.slice
    obtain ⟨AK, cK, rfl⟩ := hN.k.slice
    obtain ⟨AD, cD, rfl⟩ := hN.d.slice
    exact ⟨AE, cE, AC, cC, AK, cK, AD, cD, rfl, hN, hb⟩
  · refine (pg_Decode_size A m c w hm hr.max).mono ?_
    rintro e w' ⟨rfl, hb⟩
    have hd : decA L = (zNd, 61) := by unfold decA; rw [if_neg (by omega)]
    rw [hd]
    exact ⟨none, 0, none, 0, none, 0, none, 0, rfl, NdO.zero _ _, hb⟩
theorem NdO.rdS {w : World} {base : Nat} {n : Nd} {vE vC vK vD : Value} (h : NdO w base n vE vC vK vD) (hl : n.ents.length ≤ 600 ∧ n.chs.length ≤ 600 ∧ n.keys.length ≤ 600 ∧ n.kids.length ≤ 600) : NdR w n vE vC vK vD :=
  h.rd (by omega) (by omega) (by omega) (by omega)
theorem NdO.rdB {w : World} {base : Nat} {n : Nd} {vE vC vK vD : Value} (h : NdO w base n vE vC vK vD) (hl : NdB n) : NdR w n vE vC vK vD := by
  unfold NdB at hl
  exact h.rd (by omega) (by omega) (by omega) (by omega)
/-- the burst is told -/
theorem page_told (n : Nd) (hf : fitsN n = true) (at_ : Nat) (mask : BitVec 32) (h : 0 < tuN 4 512 at_ mask 32) : decA (tuB 4 at_ mask (encN n) 32) = (zNd, 2) := by
  have hl : (tuB 4 at_ mask (encN n) 32).length = 512 := by rw [tuB_len, encN_len n hf]
  have hn : ¬ Good 4 (tuB 4 at_ mask (encN n) 32) := tu_told 4 at_ mask (encN n) (by decide) (by rw [encN_len n hf]; decide) (enc_good n) (by rw [encN_len n hf]; exact h)
  rcases decA_cases (tuB 4 at_ mask (encN n) 32) with ⟨h1, _⟩ | ⟨_, _, h⟩ | ⟨_, hp, _⟩
  · exact absurd hl h1
  · exact h
  · exact absurd (page_good hp) hn
theorem decA_enc (n : Nd) (hf : fitsN n = true) : decA (encN n) = (n, 0) := by
  unfold decA decN
  rw [if_pos (encN_len n hf), if_pos (pageL_enc n hf), pNd_enc n hf]
end Go.Proofs.Ytlandlgjhnnaiaa
