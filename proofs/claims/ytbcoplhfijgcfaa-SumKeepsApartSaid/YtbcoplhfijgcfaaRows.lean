/-
  No cell of these rows narrows 'for every input' (looked for: loops, veiled, ifaces, maps, wideKeys, modest, calm, conditions, laid).
  DERIVED. THE GIVEN ROWS OF THIS SEAT. 10 by the template 'for every input the law returns true; each argument reads behind the call as it read before'; 0 by the template 'total and deterministic' (their statements: YtbcoplhfijgcfaaTotals.lean).
  GIVEN WITH THE SEED: the statements are not yours to turn. If you find one false, say at which input.
  Laid BY PROGRAM, IN A SANDBOX (cutbox-rows.mjs): the forced cells as the released guide's own fill.sh prints them over the translation 157d1d5a0aab76fc… (all of the seat's roots in one cut). By AI agents, Wed Nov 11 2026. No macro, syntax, notation, axiom, sorry.
-/
import Derived.Test.YtbcoplhfijgcfaaChecked
import GoSem.Claim
import GoSem.ClaimJoined
import GoSem.ClaimMapViews
import Derived.JoinedTies
import Derived.KernelRfl
namespace Go.Proofs.Ytbcoplhfijgcfaa
/- THE CELL 'sum', in the pinned program and in every row, IS THE sha256 OF THE DUMP (.gsa) THAT YtbcoplhfijgcfaaProg.lean LOADS. Nothing in Lean hashes anything: it is a label: what it is worth is what the hold of that sum in a sandbox is worth. -/
noncomputable def Try.pinned : Pinned := { name := "ytbcoplhfijgcfaa", sum := "157d1d5a0aab76fcb6c05ac9e5920c52334a7f3310a5df142381f1b4ffe76b96", checked := Try.checked }
namespace Rows
def none {H : Type} : Left H := { results := [], args := [] }

/-- 'bursarlaw01.SumParts': WHATEVER THE INPUT: true; the input reads as it did. -/
def sumPartsSpec : ChangeSpec := { name := "sumParts", fn := fun _ => fun
  | [d] => { results := [.lit (.bool true)], args := [d] }
  | _ => none }
def sumPartsRow : OpenClaim := { program := "ytbcoplhfijgcfaa", sum := "157d1d5a0aab76fcb6c05ac9e5920c52334a7f3310a5df142381f1b4ffe76b96", func := "bursar/bursarlaw01.SumParts", spec := "sumParts", apart := false }
def SumPartsSaid : Prop := sumPartsRow.holds Try.pinned (OpenSpec.ofChange sumPartsSpec)

/-- ITS FALSE NEIGHBOUR: 'it returns false'. Refute it at one input. -/
def sumPartsWrong : ChangeSpec := { name := "sumParts", fn := fun _ => fun
  | [d] => { results := [.lit (.bool false)], args := [d] }
  | _ => none }
def SumPartsWrongFalsely : Prop := sumPartsRow.holds Try.pinned (OpenSpec.ofChange sumPartsWrong)

/-- 'bursarlaw01.SumSeals': WHATEVER THE INPUT: true; the input reads as it did. -/
def sumSealsSpec : ChangeSpec := { name := "sumSeals", fn := fun _ => fun
  | [d] => { results := [.lit (.bool true)], args := [d] }
  | _ => none }
def sumSealsRow : OpenClaim := { program := "ytbcoplhfijgcfaa", sum := "157d1d5a0aab76fcb6c05ac9e5920c52334a7f3310a5df142381f1b4ffe76b96", func := "bursar/bursarlaw01.SumSeals", spec := "sumSeals", apart := false }
def SumSealsSaid : Prop := sumSealsRow.holds Try.pinned (OpenSpec.ofChange sumSealsSpec)

/-- ITS FALSE NEIGHBOUR: 'it returns false'. Refute it at one input. -/
def sumSealsWrong : ChangeSpec := { name := "sumSeals", fn := fun _ => fun
  | [d] => { results := [.lit (.bool false)], args := [d] }
  | _ => none }
def SumSealsWrongFalsely : Prop := sumSealsRow.holds Try.pinned (OpenSpec.ofChange sumSealsWrong)

/-- 'bursarlaw01.SumTellsBursts': WHATEVER THE INPUT: true; the input reads as it did. -/
def sumTellsBurstsSpec : ChangeSpec := { name := "sumTellsBursts", fn := fun _ => fun
  | [d1, d2, d3] => { results := [.lit (.bool true)], args := [d1, d2, d3] }
  | _ => none }
def sumTellsBurstsRow : OpenClaim := { program := "ytbcoplhfijgcfaa", sum := "157d1d5a0aab76fcb6c05ac9e5920c52334a7f3310a5df142381f1b4ffe76b96", func := "bursar/bursarlaw01.SumTellsBursts", spec := "sumTellsBursts", apart := false }
def SumTellsBurstsSaid : Prop := sumTellsBurstsRow.holds Try.pinned (OpenSpec.ofChange sumTellsBurstsSpec)

/-- ITS FALSE NEIGHBOUR: 'it returns false'. Refute it at one input. -/
def sumTellsBurstsWrong : ChangeSpec := { name := "sumTellsBursts", fn := fun _ => fun
  | [d1, d2, d3] => { results := [.lit (.bool false)], args := [d1, d2, d3] }
  | _ => none }
def SumTellsBurstsWrongFalsely : Prop := sumTellsBurstsRow.holds Try.pinned (OpenSpec.ofChange sumTellsBurstsWrong)

/-- 'bursarlaw01.SumOpensBack': WHATEVER THE INPUT: true; the input reads as it did. -/
def sumOpensBackSpec : ChangeSpec := { name := "sumOpensBack", fn := fun _ => fun
  | [d] => { results := [.lit (.bool true)], args := [d] }
  | _ => none }
def sumOpensBackRow : OpenClaim := { program := "ytbcoplhfijgcfaa", sum := "157d1d5a0aab76fcb6c05ac9e5920c52334a7f3310a5df142381f1b4ffe76b96", func := "bursar/bursarlaw01.SumOpensBack", spec := "sumOpensBack", apart := false }
def SumOpensBackSaid : Prop := sumOpensBackRow.holds Try.pinned (OpenSpec.ofChange sumOpensBackSpec)

/-- ITS FALSE NEIGHBOUR: 'it returns false'. Refute it at one input. -/
def sumOpensBackWrong : ChangeSpec := { name := "sumOpensBack", fn := fun _ => fun
  | [d] => { results := [.lit (.bool false)], args := [d] }
  | _ => none }
def SumOpensBackWrongFalsely : Prop := sumOpensBackRow.holds Try.pinned (OpenSpec.ofChange sumOpensBackWrong)

/-- 'bursarlaw01.SumSums': WHATEVER THE INPUT: true; the input reads as it did. -/
def sumSumsSpec : ChangeSpec := { name := "sumSums", fn := fun _ => fun
  | [d1, d2, d3, d4] => { results := [.lit (.bool true)], args := [d1, d2, d3, d4] }
  | _ => none }
def sumSumsRow : OpenClaim := { program := "ytbcoplhfijgcfaa", sum := "157d1d5a0aab76fcb6c05ac9e5920c52334a7f3310a5df142381f1b4ffe76b96", func := "bursar/bursarlaw01.SumSums", spec := "sumSums", apart := false }
def SumSumsSaid : Prop := sumSumsRow.holds Try.pinned (OpenSpec.ofChange sumSumsSpec)

/-- ITS FALSE NEIGHBOUR: 'it returns false'. Refute it at one input. -/
def sumSumsWrong : ChangeSpec := { name := "sumSums", fn := fun _ => fun
  | [d1, d2, d3, d4] => { results := [.lit (.bool false)], args := [d1, d2, d3, d4] }
  | _ => none }
def SumSumsWrongFalsely : Prop := sumSumsRow.holds Try.pinned (OpenSpec.ofChange sumSumsWrong)

/-- 'bursarlaw01.SumJoinsThree': WHATEVER THE INPUT: true; the input reads as it did. -/
def sumJoinsThreeSpec : ChangeSpec := { name := "sumJoinsThree", fn := fun _ => fun
  | [d1, d2, d3, d4, d5] => { results := [.lit (.bool true)], args := [d1, d2, d3, d4, d5] }
  | _ => none }
def sumJoinsThreeRow : OpenClaim := { program := "ytbcoplhfijgcfaa", sum := "157d1d5a0aab76fcb6c05ac9e5920c52334a7f3310a5df142381f1b4ffe76b96", func := "bursar/bursarlaw01.SumJoinsThree", spec := "sumJoinsThree", apart := false }
def SumJoinsThreeSaid : Prop := sumJoinsThreeRow.holds Try.pinned (OpenSpec.ofChange sumJoinsThreeSpec)

/-- ITS FALSE NEIGHBOUR: 'it returns false'. Refute it at one input. -/
def sumJoinsThreeWrong : ChangeSpec := { name := "sumJoinsThree", fn := fun _ => fun
  | [d1, d2, d3, d4, d5] => { results := [.lit (.bool false)], args := [d1, d2, d3, d4, d5] }
  | _ => none }
def SumJoinsThreeWrongFalsely : Prop := sumJoinsThreeRow.holds Try.pinned (OpenSpec.ofChange sumJoinsThreeWrong)

/-- 'bursarlaw01.SumKeepsApart': WHATEVER THE INPUT: true; the input reads as it did. -/
def sumKeepsApartSpec : ChangeSpec := { name := "sumKeepsApart", fn := fun _ => fun
  | [d1, d2] => { results := [.lit (.bool true)], args := [d1, d2] }
  | _ => none }
def sumKeepsApartRow : OpenClaim := { program := "ytbcoplhfijgcfaa", sum := "157d1d5a0aab76fcb6c05ac9e5920c52334a7f3310a5df142381f1b4ffe76b96", func := "bursar/bursarlaw01.SumKeepsApart", spec := "sumKeepsApart", apart := false }
def SumKeepsApartSaid : Prop := sumKeepsApartRow.holds Try.pinned (OpenSpec.ofChange sumKeepsApartSpec)

/-- ITS FALSE NEIGHBOUR: 'it returns false'. Refute it at one input. -/
def sumKeepsApartWrong : ChangeSpec := { name := "sumKeepsApart", fn := fun _ => fun
  | [d1, d2] => { results := [.lit (.bool false)], args := [d1, d2] }
  | _ => none }
def SumKeepsApartWrongFalsely : Prop := sumKeepsApartRow.holds Try.pinned (OpenSpec.ofChange sumKeepsApartWrong)

/-- 'bursarlaw01.SumPatches': WHATEVER THE INPUT: true; the input reads as it did. -/
def sumPatchesSpec : ChangeSpec := { name := "sumPatches", fn := fun _ => fun
  | [d1, d2, d3, d4, d5] => { results := [.lit (.bool true)], args := [d1, d2, d3, d4, d5] }
  | _ => none }
def sumPatchesRow : OpenClaim := { program := "ytbcoplhfijgcfaa", sum := "157d1d5a0aab76fcb6c05ac9e5920c52334a7f3310a5df142381f1b4ffe76b96", func := "bursar/bursarlaw01.SumPatches", spec := "sumPatches", apart := false }
def SumPatchesSaid : Prop := sumPatchesRow.holds Try.pinned (OpenSpec.ofChange sumPatchesSpec)

/-- ITS FALSE NEIGHBOUR: 'it returns false'. Refute it at one input. -/
def sumPatchesWrong : ChangeSpec := { name := "sumPatches", fn := fun _ => fun
  | [d1, d2, d3, d4, d5] => { results := [.lit (.bool false)], args := [d1, d2, d3, d4, d5] }
  | _ => none }
def SumPatchesWrongFalsely : Prop := sumPatchesRow.holds Try.pinned (OpenSpec.ofChange sumPatchesWrong)

/-- 'bursarlaw01.SumPatchesTrue': WHATEVER THE INPUT: true; the input reads as it did. -/
def sumPatchesTrueSpec : ChangeSpec := { name := "sumPatchesTrue", fn := fun _ => fun
  | [d1, d2, d3] => { results := [.lit (.bool true)], args := [d1, d2, d3] }
  | _ => none }
def sumPatchesTrueRow : OpenClaim := { program := "ytbcoplhfijgcfaa", sum := "157d1d5a0aab76fcb6c05ac9e5920c52334a7f3310a5df142381f1b4ffe76b96", func := "bursar/bursarlaw01.SumPatchesTrue", spec := "sumPatchesTrue", apart := false }
def SumPatchesTrueSaid : Prop := sumPatchesTrueRow.holds Try.pinned (OpenSpec.ofChange sumPatchesTrueSpec)

/-- ITS FALSE NEIGHBOUR: 'it returns false'. Refute it at one input. -/
def sumPatchesTrueWrong : ChangeSpec := { name := "sumPatchesTrue", fn := fun _ => fun
  | [d1, d2, d3] => { results := [.lit (.bool false)], args := [d1, d2, d3] }
  | _ => none }
def SumPatchesTrueWrongFalsely : Prop := sumPatchesTrueRow.holds Try.pinned (OpenSpec.ofChange sumPatchesTrueWrong)

/-- 'bursarlaw01.SumJoins': WHATEVER THE INPUT: true; the input reads as it did. -/
def sumJoinsSpec : ChangeSpec := { name := "sumJoins", fn := fun _ => fun
  | [d1, d2] => { results := [.lit (.bool true)], args := [d1, d2] }
  | _ => none }
def sumJoinsRow : OpenClaim := { program := "ytbcoplhfijgcfaa", sum := "157d1d5a0aab76fcb6c05ac9e5920c52334a7f3310a5df142381f1b4ffe76b96", func := "bursar/bursarlaw01.SumJoins", spec := "sumJoins", apart := false }
def SumJoinsSaid : Prop := sumJoinsRow.holds Try.pinned (OpenSpec.ofChange sumJoinsSpec)

/-- ITS FALSE NEIGHBOUR: 'it returns false'. Refute it at one input. -/
def sumJoinsWrong : ChangeSpec := { name := "sumJoins", fn := fun _ => fun
  | [d1, d2] => { results := [.lit (.bool false)], args := [d1, d2] }
  | _ => none }
def SumJoinsWrongFalsely : Prop := sumJoinsRow.holds Try.pinned (OpenSpec.ofChange sumJoinsWrong)

/- THE SECOND FORM. 'bulk': how many values and letters a reading holds, each counted each time it is reached (what is shared counts as often as it is met; a slice's spare places count too). A statement '..UptoSaid' is the law's where the arguments, and the package variables that the reading takes, are together of bulk at most 1048576: NARROWER than '..Said'. Prove '..Said' where nothing that the law and all that it calls make is longer than what came in: it says more and counts as full. Else prove '..UptoSaid'. A law counts once. -/
mutual
def uptoBulk {H : Type} : DataW H → Nat
  | .lit (.string bytes) => bytes.length + 1
  | .lit _ => 1
  | .nil => 1
  | .ptr d => uptoBulk d + 1
  | .slice elems spare => uptoBulkAll elems + uptoBulkAll spare + 1
  | .agg parts => uptoBulkAll parts + 1
  | .iface _ d => uptoBulk d + 1
  | .map entries => uptoBulkEntries entries + 1
  | .held _ => 1
def uptoBulkAll {H : Type} : List (DataW H) → Nat
  | [] => 0
  | d :: r => uptoBulk d + uptoBulkAll r
def uptoBulkEntries {H : Type} : List (Lit × DataW H) → Nat
  | [] => 0
  | x :: r => uptoBulkEntry x + uptoBulkEntries r
def uptoBulkEntry {H : Type} : Lit × DataW H → Nat
  | (.string bytes, d) => bytes.length + uptoBulk d + 1
  | (_, d) => uptoBulk d + 1
 end
def uptoSmall : (H : Type) → List (DataW H) → Bool := fun _ ds => decide (uptoBulkAll ds ≤ 1048576)
def OpenSpec.upto (s : _root_.Go.ChangeSpec) : _root_.Go.OpenSpec := { _root_.Go.OpenSpec.ofChange s with cond := some uptoSmall }

/-- 'bursarlaw01.SumParts', WHERE WHAT IT READS IS OF BULK AT MOST 1048576: true; the input reads as it did. -/
def sumPartsUptoRow : OpenClaim := { program := "ytbcoplhfijgcfaa", sum := "157d1d5a0aab76fcb6c05ac9e5920c52334a7f3310a5df142381f1b4ffe76b96", func := "bursar/bursarlaw01.SumParts", spec := "sumParts", apart := false, narrowed := true }
def SumPartsUptoSaid : Prop := sumPartsUptoRow.holds Try.pinned (OpenSpec.upto sumPartsSpec)

/-- 'bursarlaw01.SumSeals', WHERE WHAT IT READS IS OF BULK AT MOST 1048576: true; the input reads as it did. -/
def sumSealsUptoRow : OpenClaim := { program := "ytbcoplhfijgcfaa", sum := "157d1d5a0aab76fcb6c05ac9e5920c52334a7f3310a5df142381f1b4ffe76b96", func := "bursar/bursarlaw01.SumSeals", spec := "sumSeals", apart := false, narrowed := true }
def SumSealsUptoSaid : Prop := sumSealsUptoRow.holds Try.pinned (OpenSpec.upto sumSealsSpec)

/-- 'bursarlaw01.SumTellsBursts', WHERE WHAT IT READS IS OF BULK AT MOST 1048576: true; the input reads as it did. -/
def sumTellsBurstsUptoRow : OpenClaim := { program := "ytbcoplhfijgcfaa", sum := "157d1d5a0aab76fcb6c05ac9e5920c52334a7f3310a5df142381f1b4ffe76b96", func := "bursar/bursarlaw01.SumTellsBursts", spec := "sumTellsBursts", apart := false, narrowed := true }
def SumTellsBurstsUptoSaid : Prop := sumTellsBurstsUptoRow.holds Try.pinned (OpenSpec.upto sumTellsBurstsSpec)

/-- 'bursarlaw01.SumOpensBack', WHERE WHAT IT READS IS OF BULK AT MOST 1048576: true; the input reads as it did. -/
def sumOpensBackUptoRow : OpenClaim := { program := "ytbcoplhfijgcfaa", sum := "157d1d5a0aab76fcb6c05ac9e5920c52334a7f3310a5df142381f1b4ffe76b96", func := "bursar/bursarlaw01.SumOpensBack", spec := "sumOpensBack", apart := false, narrowed := true }
def SumOpensBackUptoSaid : Prop := sumOpensBackUptoRow.holds Try.pinned (OpenSpec.upto sumOpensBackSpec)

/-- 'bursarlaw01.SumSums', WHERE WHAT IT READS IS OF BULK AT MOST 1048576: true; the input reads as it did. -/
def sumSumsUptoRow : OpenClaim := { program := "ytbcoplhfijgcfaa", sum := "157d1d5a0aab76fcb6c05ac9e5920c52334a7f3310a5df142381f1b4ffe76b96", func := "bursar/bursarlaw01.SumSums", spec := "sumSums", apart := false, narrowed := true }
def SumSumsUptoSaid : Prop := sumSumsUptoRow.holds Try.pinned (OpenSpec.upto sumSumsSpec)

/-- 'bursarlaw01.SumJoinsThree', WHERE WHAT IT READS IS OF BULK AT MOST 1048576: true; the input reads as it did. -/
def sumJoinsThreeUptoRow : OpenClaim := { program := "ytbcoplhfijgcfaa", sum := "157d1d5a0aab76fcb6c05ac9e5920c52334a7f3310a5df142381f1b4ffe76b96", func := "bursar/bursarlaw01.SumJoinsThree", spec := "sumJoinsThree", apart := false, narrowed := true }
def SumJoinsThreeUptoSaid : Prop := sumJoinsThreeUptoRow.holds Try.pinned (OpenSpec.upto sumJoinsThreeSpec)

/-- 'bursarlaw01.SumKeepsApart', WHERE WHAT IT READS IS OF BULK AT MOST 1048576: true; the input reads as it did. -/
def sumKeepsApartUptoRow : OpenClaim := { program := "ytbcoplhfijgcfaa", sum := "157d1d5a0aab76fcb6c05ac9e5920c52334a7f3310a5df142381f1b4ffe76b96", func := "bursar/bursarlaw01.SumKeepsApart", spec := "sumKeepsApart", apart := false, narrowed := true }
def SumKeepsApartUptoSaid : Prop := sumKeepsApartUptoRow.holds Try.pinned (OpenSpec.upto sumKeepsApartSpec)

/-- 'bursarlaw01.SumPatches', WHERE WHAT IT READS IS OF BULK AT MOST 1048576: true; the input reads as it did. -/
def sumPatchesUptoRow : OpenClaim := { program := "ytbcoplhfijgcfaa", sum := "157d1d5a0aab76fcb6c05ac9e5920c52334a7f3310a5df142381f1b4ffe76b96", func := "bursar/bursarlaw01.SumPatches", spec := "sumPatches", apart := false, narrowed := true }
def SumPatchesUptoSaid : Prop := sumPatchesUptoRow.holds Try.pinned (OpenSpec.upto sumPatchesSpec)

/-- 'bursarlaw01.SumPatchesTrue', WHERE WHAT IT READS IS OF BULK AT MOST 1048576: true; the input reads as it did. -/
def sumPatchesTrueUptoRow : OpenClaim := { program := "ytbcoplhfijgcfaa", sum := "157d1d5a0aab76fcb6c05ac9e5920c52334a7f3310a5df142381f1b4ffe76b96", func := "bursar/bursarlaw01.SumPatchesTrue", spec := "sumPatchesTrue", apart := false, narrowed := true }
def SumPatchesTrueUptoSaid : Prop := sumPatchesTrueUptoRow.holds Try.pinned (OpenSpec.upto sumPatchesTrueSpec)

/-- 'bursarlaw01.SumJoins', WHERE WHAT IT READS IS OF BULK AT MOST 1048576: true; the input reads as it did. -/
def sumJoinsUptoRow : OpenClaim := { program := "ytbcoplhfijgcfaa", sum := "157d1d5a0aab76fcb6c05ac9e5920c52334a7f3310a5df142381f1b4ffe76b96", func := "bursar/bursarlaw01.SumJoins", spec := "sumJoins", apart := false, narrowed := true }
def SumJoinsUptoSaid : Prop := sumJoinsUptoRow.holds Try.pinned (OpenSpec.upto sumJoinsSpec)

end Rows
end Go.Proofs.Ytbcoplhfijgcfaa
