/-
  No cell of these rows narrows 'for every input' (looked for: loops, veiled, ifaces, maps, wideKeys, modest, calm, conditions, laid).
  DERIVED. THE GIVEN ROWS OF THIS SEAT. 10 by the template 'for every input the law returns true; each argument reads behind the call as it read before'; 0 by the template 'total and deterministic' (their statements: YtclafljkeaekfaaTotals.lean).
  GIVEN WITH THE SEED: the statements are not yours to turn. If you find one false, say at which input.
  Laid BY PROGRAM, IN A SANDBOX (cutbox-rows.mjs): the forced cells as the released guide's own fill.sh prints them over the translation 808726fa0af1d4fd… (all of the seat's roots in one cut). By AI agents, Wed Nov 11 2026. No macro, syntax, notation, axiom, sorry.
-/
import Derived.Test.YtclafljkeaekfaaChecked
import GoSem.Claim
import GoSem.ClaimJoined
import GoSem.ClaimMapViews
import Derived.JoinedTies
import Derived.KernelRfl
namespace Go.Proofs.Ytclafljkeaekfaa
/- THE CELL 'sum', in the pinned program and in every row, IS THE sha256 OF THE DUMP (.gsa) THAT YtclafljkeaekfaaProg.lean LOADS. Nothing in Lean hashes anything: it is a label: what it is worth is what the hold of that sum in a sandbox is worth. -/
noncomputable def Try.pinned : Pinned := { name := "ytclafljkeaekfaa", sum := "808726fa0af1d4fd63e9d66845597eb717de1ccde9b5900e4ddbc6bbf98455a4", checked := Try.checked }
namespace Rows
def none {H : Type} : Left H := { results := [], args := [] }

/-- 'bursarlaw02.PackParts': WHATEVER THE INPUT: true; the input reads as it did. -/
def packPartsSpec : ChangeSpec := { name := "packParts", fn := fun _ => fun
  | [d1, d2] => { results := [.lit (.bool true)], args := [d1, d2] }
  | _ => none }
def packPartsRow : OpenClaim := { program := "ytclafljkeaekfaa", sum := "808726fa0af1d4fd63e9d66845597eb717de1ccde9b5900e4ddbc6bbf98455a4", func := "bursar/bursarlaw02.PackParts", spec := "packParts", apart := false }
def PackPartsSaid : Prop := packPartsRow.holds Try.pinned (OpenSpec.ofChange packPartsSpec)

/-- ITS FALSE NEIGHBOUR: 'it returns false'. Refute it at one input. -/
def packPartsWrong : ChangeSpec := { name := "packParts", fn := fun _ => fun
  | [d1, d2] => { results := [.lit (.bool false)], args := [d1, d2] }
  | _ => none }
def PackPartsWrongFalsely : Prop := packPartsRow.holds Try.pinned (OpenSpec.ofChange packPartsWrong)

/-- 'bursarlaw02.PackCounts': WHATEVER THE INPUT: true; the input reads as it did. -/
def packCountsSpec : ChangeSpec := { name := "packCounts", fn := fun _ => fun
  | [d1, d2, d3] => { results := [.lit (.bool true)], args := [d1, d2, d3] }
  | _ => none }
def packCountsRow : OpenClaim := { program := "ytclafljkeaekfaa", sum := "808726fa0af1d4fd63e9d66845597eb717de1ccde9b5900e4ddbc6bbf98455a4", func := "bursar/bursarlaw02.PackCounts", spec := "packCounts", apart := false }
def PackCountsSaid : Prop := packCountsRow.holds Try.pinned (OpenSpec.ofChange packCountsSpec)

/-- ITS FALSE NEIGHBOUR: 'it returns false'. Refute it at one input. -/
def packCountsWrong : ChangeSpec := { name := "packCounts", fn := fun _ => fun
  | [d1, d2, d3] => { results := [.lit (.bool false)], args := [d1, d2, d3] }
  | _ => none }
def PackCountsWrongFalsely : Prop := packCountsRow.holds Try.pinned (OpenSpec.ofChange packCountsWrong)

/-- 'bursarlaw02.PackWrites': WHATEVER THE INPUT: true; the input reads as it did. -/
def packWritesSpec : ChangeSpec := { name := "packWrites", fn := fun _ => fun
  | [d1, d2, d3] => { results := [.lit (.bool true)], args := [d1, d2, d3] }
  | _ => none }
def packWritesRow : OpenClaim := { program := "ytclafljkeaekfaa", sum := "808726fa0af1d4fd63e9d66845597eb717de1ccde9b5900e4ddbc6bbf98455a4", func := "bursar/bursarlaw02.PackWrites", spec := "packWrites", apart := false }
def PackWritesSaid : Prop := packWritesRow.holds Try.pinned (OpenSpec.ofChange packWritesSpec)

/-- ITS FALSE NEIGHBOUR: 'it returns false'. Refute it at one input. -/
def packWritesWrong : ChangeSpec := { name := "packWrites", fn := fun _ => fun
  | [d1, d2, d3] => { results := [.lit (.bool false)], args := [d1, d2, d3] }
  | _ => none }
def PackWritesWrongFalsely : Prop := packWritesRow.holds Try.pinned (OpenSpec.ofChange packWritesWrong)

/-- 'bursarlaw02.PackSticks': WHATEVER THE INPUT: true; the input reads as it did. -/
def packSticksSpec : ChangeSpec := { name := "packSticks", fn := fun _ => fun
  | [d1, d2] => { results := [.lit (.bool true)], args := [d1, d2] }
  | _ => none }
def packSticksRow : OpenClaim := { program := "ytclafljkeaekfaa", sum := "808726fa0af1d4fd63e9d66845597eb717de1ccde9b5900e4ddbc6bbf98455a4", func := "bursar/bursarlaw02.PackSticks", spec := "packSticks", apart := false }
def PackSticksSaid : Prop := packSticksRow.holds Try.pinned (OpenSpec.ofChange packSticksSpec)

/-- ITS FALSE NEIGHBOUR: 'it returns false'. Refute it at one input. -/
def packSticksWrong : ChangeSpec := { name := "packSticks", fn := fun _ => fun
  | [d1, d2] => { results := [.lit (.bool false)], args := [d1, d2] }
  | _ => none }
def PackSticksWrongFalsely : Prop := packSticksRow.holds Try.pinned (OpenSpec.ofChange packSticksWrong)

/-- 'bursarlaw02.PackReads': WHATEVER THE INPUT: true; the input reads as it did. -/
def packReadsSpec : ChangeSpec := { name := "packReads", fn := fun _ => fun
  | [d1, d2] => { results := [.lit (.bool true)], args := [d1, d2] }
  | _ => none }
def packReadsRow : OpenClaim := { program := "ytclafljkeaekfaa", sum := "808726fa0af1d4fd63e9d66845597eb717de1ccde9b5900e4ddbc6bbf98455a4", func := "bursar/bursarlaw02.PackReads", spec := "packReads", apart := false }
def PackReadsSaid : Prop := packReadsRow.holds Try.pinned (OpenSpec.ofChange packReadsSpec)

/-- ITS FALSE NEIGHBOUR: 'it returns false'. Refute it at one input. -/
def packReadsWrong : ChangeSpec := { name := "packReads", fn := fun _ => fun
  | [d1, d2] => { results := [.lit (.bool false)], args := [d1, d2] }
  | _ => none }
def PackReadsWrongFalsely : Prop := packReadsRow.holds Try.pinned (OpenSpec.ofChange packReadsWrong)

/-- 'bursarlaw02.PackTexts': WHATEVER THE INPUT: true; the input reads as it did. -/
def packTextsSpec : ChangeSpec := { name := "packTexts", fn := fun _ => fun
  | [d1, d2] => { results := [.lit (.bool true)], args := [d1, d2] }
  | _ => none }
def packTextsRow : OpenClaim := { program := "ytclafljkeaekfaa", sum := "808726fa0af1d4fd63e9d66845597eb717de1ccde9b5900e4ddbc6bbf98455a4", func := "bursar/bursarlaw02.PackTexts", spec := "packTexts", apart := false }
def PackTextsSaid : Prop := packTextsRow.holds Try.pinned (OpenSpec.ofChange packTextsSpec)

/-- ITS FALSE NEIGHBOUR: 'it returns false'. Refute it at one input. -/
def packTextsWrong : ChangeSpec := { name := "packTexts", fn := fun _ => fun
  | [d1, d2] => { results := [.lit (.bool false)], args := [d1, d2] }
  | _ => none }
def PackTextsWrongFalsely : Prop := packTextsRow.holds Try.pinned (OpenSpec.ofChange packTextsWrong)

/-- 'bursarlaw02.PackLists': WHATEVER THE INPUT: true; the input reads as it did. -/
def packListsSpec : ChangeSpec := { name := "packLists", fn := fun _ => fun
  | [d1, d2, d3] => { results := [.lit (.bool true)], args := [d1, d2, d3] }
  | _ => none }
def packListsRow : OpenClaim := { program := "ytclafljkeaekfaa", sum := "808726fa0af1d4fd63e9d66845597eb717de1ccde9b5900e4ddbc6bbf98455a4", func := "bursar/bursarlaw02.PackLists", spec := "packLists", apart := false }
def PackListsSaid : Prop := packListsRow.holds Try.pinned (OpenSpec.ofChange packListsSpec)

/-- ITS FALSE NEIGHBOUR: 'it returns false'. Refute it at one input. -/
def packListsWrong : ChangeSpec := { name := "packLists", fn := fun _ => fun
  | [d1, d2, d3] => { results := [.lit (.bool false)], args := [d1, d2, d3] }
  | _ => none }
def PackListsWrongFalsely : Prop := packListsRow.holds Try.pinned (OpenSpec.ofChange packListsWrong)

/-- 'bursarlaw02.PackBack': WHATEVER THE INPUT: true; the input reads as it did. -/
def packBackSpec : ChangeSpec := { name := "packBack", fn := fun _ => fun
  | [d1, d2] => { results := [.lit (.bool true)], args := [d1, d2] }
  | _ => none }
def packBackRow : OpenClaim := { program := "ytclafljkeaekfaa", sum := "808726fa0af1d4fd63e9d66845597eb717de1ccde9b5900e4ddbc6bbf98455a4", func := "bursar/bursarlaw02.PackBack", spec := "packBack", apart := false }
def PackBackSaid : Prop := packBackRow.holds Try.pinned (OpenSpec.ofChange packBackSpec)

/-- ITS FALSE NEIGHBOUR: 'it returns false'. Refute it at one input. -/
def packBackWrong : ChangeSpec := { name := "packBack", fn := fun _ => fun
  | [d1, d2] => { results := [.lit (.bool false)], args := [d1, d2] }
  | _ => none }
def PackBackWrongFalsely : Prop := packBackRow.holds Try.pinned (OpenSpec.ofChange packBackWrong)

/-- 'bursarlaw02.PackOneForm': WHATEVER THE INPUT: true; the input reads as it did. -/
def packOneFormSpec : ChangeSpec := { name := "packOneForm", fn := fun _ => fun
  | [d1, d2] => { results := [.lit (.bool true)], args := [d1, d2] }
  | _ => none }
def packOneFormRow : OpenClaim := { program := "ytclafljkeaekfaa", sum := "808726fa0af1d4fd63e9d66845597eb717de1ccde9b5900e4ddbc6bbf98455a4", func := "bursar/bursarlaw02.PackOneForm", spec := "packOneForm", apart := false }
def PackOneFormSaid : Prop := packOneFormRow.holds Try.pinned (OpenSpec.ofChange packOneFormSpec)

/-- ITS FALSE NEIGHBOUR: 'it returns false'. Refute it at one input. -/
def packOneFormWrong : ChangeSpec := { name := "packOneForm", fn := fun _ => fun
  | [d1, d2] => { results := [.lit (.bool false)], args := [d1, d2] }
  | _ => none }
def PackOneFormWrongFalsely : Prop := packOneFormRow.holds Try.pinned (OpenSpec.ofChange packOneFormWrong)

/-- 'bursarlaw02.PackMemory': WHATEVER THE INPUT: true; the input reads as it did. -/
def packMemorySpec : ChangeSpec := { name := "packMemory", fn := fun _ => fun
  | [d1, d2] => { results := [.lit (.bool true)], args := [d1, d2] }
  | _ => none }
def packMemoryRow : OpenClaim := { program := "ytclafljkeaekfaa", sum := "808726fa0af1d4fd63e9d66845597eb717de1ccde9b5900e4ddbc6bbf98455a4", func := "bursar/bursarlaw02.PackMemory", spec := "packMemory", apart := false }
def PackMemorySaid : Prop := packMemoryRow.holds Try.pinned (OpenSpec.ofChange packMemorySpec)

/-- ITS FALSE NEIGHBOUR: 'it returns false'. Refute it at one input. -/
def packMemoryWrong : ChangeSpec := { name := "packMemory", fn := fun _ => fun
  | [d1, d2] => { results := [.lit (.bool false)], args := [d1, d2] }
  | _ => none }
def PackMemoryWrongFalsely : Prop := packMemoryRow.holds Try.pinned (OpenSpec.ofChange packMemoryWrong)

/- THE SECOND FORM. 'bulk': how many values and letters a reading holds, each counted each time it is reached (what is shared counts as often as it is met; a slice's spare places count too). A statement '..UptoSaid' is the law's where the arguments, and the package variables that the reading takes, are together of bulk at most 1048576: NARROWER than '..Said'. Prove '..Said' where nothing that the law and all that it calls make is longer than what came in: it says more and counts as full. Else prove '..UptoSaid'. A law counts once. -/
mutual
def uptoBulk {H : Type} : DataW H → Nat
  | .lit (.string bytes) => bytes.length + 1
  | .lit _ => 1
  | .nil => 1
  | .ptr d => uptoBulk d + 1
  | .slice elems spare => uptoBulkAll elems + uptoBulkAll spare + 1
  | .agg parts => uptoBulkAll parts + 1
  | .iface _ d => uptoBulk d + 1
  | .map entries => uptoBulkEntries entries + 1
  | .held _ => 1
def uptoBulkAll {H : Type} : List (DataW H) → Nat
  | [] => 0
  | d :: r => uptoBulk d + uptoBulkAll r
def uptoBulkEntries {H : Type} : List (Lit × DataW H) → Nat
  | [] => 0
  | x :: r => uptoBulkEntry x + uptoBulkEntries r
def uptoBulkEntry {H : Type} : Lit × DataW H → Nat
  | (.string bytes, d) => bytes.length + uptoBulk d + 1
  | (_, d) => uptoBulk d + 1
 end
def uptoSmall : (H : Type) → List (DataW H) → Bool := fun _ ds => decide (uptoBulkAll ds ≤ 1048576)
def OpenSpec.upto (s : _root_.Go.ChangeSpec) : _root_.Go.OpenSpec := { _root_.Go.OpenSpec.ofChange s with cond := some uptoSmall }

/-- 'bursarlaw02.PackParts', WHERE WHAT IT READS IS OF BULK AT MOST 1048576: true; the input reads as it did. -/
def packPartsUptoRow : OpenClaim := { program := "ytclafljkeaekfaa", sum := "808726fa0af1d4fd63e9d66845597eb717de1ccde9b5900e4ddbc6bbf98455a4", func := "bursar/bursarlaw02.PackParts", spec := "packParts", apart := false, narrowed := true }
def PackPartsUptoSaid : Prop := packPartsUptoRow.holds Try.pinned (OpenSpec.upto packPartsSpec)

/-- 'bursarlaw02.PackCounts', WHERE WHAT IT READS IS OF BULK AT MOST 1048576: true; the input reads as it did. -/
def packCountsUptoRow : OpenClaim := { program := "ytclafljkeaekfaa", sum := "808726fa0af1d4fd63e9d66845597eb717de1ccde9b5900e4ddbc6bbf98455a4", func := "bursar/bursarlaw02.PackCounts", spec := "packCounts", apart := false, narrowed := true }
def PackCountsUptoSaid : Prop := packCountsUptoRow.holds Try.pinned (OpenSpec.upto packCountsSpec)

/-- 'bursarlaw02.PackWrites', WHERE WHAT IT READS IS OF BULK AT MOST 1048576: true; the input reads as it did. -/
def packWritesUptoRow : OpenClaim := { program := "ytclafljkeaekfaa", sum := "808726fa0af1d4fd63e9d66845597eb717de1ccde9b5900e4ddbc6bbf98455a4", func := "bursar/bursarlaw02.PackWrites", spec := "packWrites", apart := false, narrowed := true }
def PackWritesUptoSaid : Prop := packWritesUptoRow.holds Try.pinned (OpenSpec.upto packWritesSpec)

/-- 'bursarlaw02.PackSticks', WHERE WHAT IT READS IS OF BULK AT MOST 1048576: true; the input reads as it did. -/
def packSticksUptoRow : OpenClaim := { program := "ytclafljkeaekfaa", sum := "808726fa0af1d4fd63e9d66845597eb717de1ccde9b5900e4ddbc6bbf98455a4", func := "bursar/bursarlaw02.PackSticks", spec := "packSticks", apart := false, narrowed := true }
def PackSticksUptoSaid : Prop := packSticksUptoRow.holds Try.pinned (OpenSpec.upto packSticksSpec)

/-- 'bursarlaw02.PackReads', WHERE WHAT IT READS IS OF BULK AT MOST 1048576: true; the input reads as it did. -/
def packReadsUptoRow : OpenClaim := { program := "ytclafljkeaekfaa", sum := "808726fa0af1d4fd63e9d66845597eb717de1ccde9b5900e4ddbc6bbf98455a4", func := "bursar/bursarlaw02.PackReads", spec := "packReads", apart := false, narrowed := true }
def PackReadsUptoSaid : Prop := packReadsUptoRow.holds Try.pinned (OpenSpec.upto packReadsSpec)

/-- 'bursarlaw02.PackTexts', WHERE WHAT IT READS IS OF BULK AT MOST 1048576: true; the input reads as it did. -/
def packTextsUptoRow : OpenClaim := { program := "ytclafljkeaekfaa", sum := "808726fa0af1d4fd63e9d66845597eb717de1ccde9b5900e4ddbc6bbf98455a4", func := "bursar/bursarlaw02.PackTexts", spec := "packTexts", apart := false, narrowed := true }
def PackTextsUptoSaid : Prop := packTextsUptoRow.holds Try.pinned (OpenSpec.upto packTextsSpec)

/-- 'bursarlaw02.PackLists', WHERE WHAT IT READS IS OF BULK AT MOST 1048576: true; the input reads as it did. -/
def packListsUptoRow : OpenClaim := { program := "ytclafljkeaekfaa", sum := "808726fa0af1d4fd63e9d66845597eb717de1ccde9b5900e4ddbc6bbf98455a4", func := "bursar/bursarlaw02.PackLists", spec := "packLists", apart := false, narrowed := true }
def PackListsUptoSaid : Prop := packListsUptoRow.holds Try.pinned (OpenSpec.upto packListsSpec)

/-- 'bursarlaw02.PackBack', WHERE WHAT IT READS IS OF BULK AT MOST 1048576: true; the input reads as it did. -/
def packBackUptoRow : OpenClaim := { program := "ytclafljkeaekfaa", sum := "808726fa0af1d4fd63e9d66845597eb717de1ccde9b5900e4ddbc6bbf98455a4", func := "bursar/bursarlaw02.PackBack", spec := "packBack", apart := false, narrowed := true }
def PackBackUptoSaid : Prop := packBackUptoRow.holds Try.pinned (OpenSpec.upto packBackSpec)

/-- 'bursarlaw02.PackOneForm', WHERE WHAT IT READS IS OF BULK AT MOST 1048576: true; the input reads as it did. -/
def packOneFormUptoRow : OpenClaim := { program := "ytclafljkeaekfaa", sum := "808726fa0af1d4fd63e9d66845597eb717de1ccde9b5900e4ddbc6bbf98455a4", func := "bursar/bursarlaw02.PackOneForm", spec := "packOneForm", apart := false, narrowed := true }
def PackOneFormUptoSaid : Prop := packOneFormUptoRow.holds Try.pinned (OpenSpec.upto packOneFormSpec)

/-- 'bursarlaw02.PackMemory', WHERE WHAT IT READS IS OF BULK AT MOST 1048576: true; the input reads as it did. -/
def packMemoryUptoRow : OpenClaim := { program := "ytclafljkeaekfaa", sum := "808726fa0af1d4fd63e9d66845597eb717de1ccde9b5900e4ddbc6bbf98455a4", func := "bursar/bursarlaw02.PackMemory", spec := "packMemory", apart := false, narrowed := true }
def PackMemoryUptoSaid : Prop := packMemoryUptoRow.holds Try.pinned (OpenSpec.upto packMemorySpec)

end Rows
end Go.Proofs.Ytclafljkeaekfaa
