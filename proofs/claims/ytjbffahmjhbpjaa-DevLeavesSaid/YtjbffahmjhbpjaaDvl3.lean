/- The laws' own helpers over the device: lives. -/
import Derived.Test.YtjbffahmjhbpjaaDvl2
set_option linter.unusedVariables false
set_option linter.unusedSimpArgs false
set_option maxRecDepth 100000
namespace Go.Proofs.Ytjbffahmjhbpjaa
open Go.RowKit
def newD (n : Nat) : DS := ⟨n, List.replicate (n * 512) 0, [], 0, false, false, 0, 0, 0⟩
theorem IsV.ofNew {w : World} {b g n : Nat} (h : IsDev w b g n (List.replicate (n * 512) 0) (.slice none 0 0) 0 false false 0 0 0) : IsV w b g (.slice none 0 0) (newD n) :=
  ⟨h, ⟨PdOk.nil _, World.ownsRow_nil _ _ _ _⟩, fun k hk => by cases hk⟩
def fiveL : List UInt8 := List.replicate 512 5
theorem fiveL_len : fiveL.length = 512 := List.length_replicate
def zM : List UInt8 := List.replicate (64 * 512) 0
theorem zM_len : zM.length = 64 * 512 := List.length_replicate
def liveM : List UInt8 := splice zM (63 * 512) fiveL
def newD64 : DS := ⟨64, zM, [], 0, false, false, 0, 0, 0⟩
def wrD64 : DS := ⟨64, zM, [⟨63, fiveL⟩], 0, false, false, 0, 1, 0⟩
def liveD : DS := ⟨64, liveM, [], 0, false, false, 0, 1, 1⟩
theorem newD_64 : newD 64 = newD64 := rfl
theorem live_wr : wrD newD64 63 fiveL = (0, wrD64) := by
  unfold wrD
  rw [if_neg (by show ¬ ¬ ((0 : Int) ≤ 63 ∧ (63 : Int) < ((64 : Nat) : Int)); decide), if_neg (fun h => h fiveL_len)]
  rfl
theorem live_fl : flD wrD64 = (0, liveD) := by
  have h : fiveL.take 512 = fiveL := List.take_of_length_le (by rw [fiveL_len]; exact Nat.le_refl _)
  have h2 : layA (fun _ => 512) 0 [⟨63, fiveL⟩] zM = liveM := by
    show splice zM (63 * 512) (fiveL.take 512) = _
    rw [h]; rfl
  unfold flD
  rw [show actD wrD64 = (true, wrD64) from rfl, if_pos rfl]
  show (0, (⟨64, layA (fun _ => 512) 0 [⟨63, fiveL⟩] zM, [], 0, false, false, 0, 1, 1⟩ : DS)) = _
  rw [h2]; rfl
theorem live_raw : blkM liveM 63 = fiveL := by
  unfold blkM liveM splice
  rw [List.drop_left' (by rw [List.length_take, zM_len]; decide), List.take_left' fiveL_len]
end Go.Proofs.Ytjbffahmjhbpjaa
