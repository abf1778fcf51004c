/-
  No cell of these rows narrows 'for every input' (looked for: loops, veiled, ifaces, maps, wideKeys, modest, calm, conditions, laid).
  DERIVED. THE GIVEN ROWS OF THIS SEAT. 7 by the template 'for every input the law returns true; each argument reads behind the call as it read before'; 0 by the template 'total and deterministic' (their statements: YtlandlgjhnnaiaaTotals.lean).
  GIVEN WITH THE SEED: the statements are not yours to turn. If you find one false, say at which input.
  Laid BY PROGRAM, IN A SANDBOX (cutbox-rows.mjs): the forced cells as the released guide's own fill.sh prints them over the translation 616078fd085517c9… (all of the seat's roots in one cut). By AI agents, Wed Nov 11 2026. No macro, syntax, notation, axiom, sorry.
-/
import Derived.Test.YtlandlgjhnnaiaaChecked
import GoSem.Claim
import GoSem.ClaimJoined
import GoSem.ClaimMapViews
import Derived.JoinedTies
import Derived.KernelRfl
namespace Go.Proofs.Ytlandlgjhnnaiaa
/- THE CELL 'sum', in the pinned program and in every row, IS THE sha256 OF THE DUMP (.gsa) THAT YtlandlgjhnnaiaaProg.lean LOADS. Nothing in Lean hashes anything: it is a label: what it is worth is what the hold of that sum in a sandbox is worth. -/
noncomputable def Try.pinned : Pinned := { name := "ytlandlgjhnnaiaa", sum := "616078fd085517c945a008b4d335ff50387cf646666649550653be6cf690d23c", checked := Try.checked }
namespace Rows
def none {H : Type} : Left H := { results := [], args := [] }

/-- 'bursarlaw09.PageCodes': WHATEVER THE INPUT: true; the input reads as it did. -/
def pageCodesSpec : ChangeSpec := { name := "pageCodes", fn := fun _ => fun
  | [d] => { results := [.lit (.bool true)], args := [d] }
  | _ => none }
def pageCodesRow : OpenClaim := { program := "ytlandlgjhnnaiaa", sum := "616078fd085517c945a008b4d335ff50387cf646666649550653be6cf690d23c", func := "bursar/bursarlaw09.PageCodes", spec := "pageCodes", apart := false }
def PageCodesSaid : Prop := pageCodesRow.holds Try.pinned (OpenSpec.ofChange pageCodesSpec)

/-- ITS FALSE NEIGHBOUR: 'it returns false'. Refute it at one input. -/
def pageCodesWrong : ChangeSpec := { name := "pageCodes", fn := fun _ => fun
  | [d] => { results := [.lit (.bool false)], args := [d] }
  | _ => none }
def PageCodesWrongFalsely : Prop := pageCodesRow.holds Try.pinned (OpenSpec.ofChange pageCodesWrong)

/-- 'bursarlaw09.PageReads': WHATEVER THE INPUT: true; the input reads as it did. -/
def pageReadsSpec : ChangeSpec := { name := "pageReads", fn := fun _ => fun
  | [d] => { results := [.lit (.bool true)], args := [d] }
  | _ => none }
def pageReadsRow : OpenClaim := { program := "ytlandlgjhnnaiaa", sum := "616078fd085517c945a008b4d335ff50387cf646666649550653be6cf690d23c", func := "bursar/bursarlaw09.PageReads", spec := "pageReads", apart := false }
def PageReadsSaid : Prop := pageReadsRow.holds Try.pinned (OpenSpec.ofChange pageReadsSpec)

/-- ITS FALSE NEIGHBOUR: 'it returns false'. Refute it at one input. -/
def pageReadsWrong : ChangeSpec := { name := "pageReads", fn := fun _ => fun
  | [d] => { results := [.lit (.bool false)], args := [d] }
  | _ => none }
def PageReadsWrongFalsely : Prop := pageReadsRow.holds Try.pinned (OpenSpec.ofChange pageReadsWrong)

/-- 'bursarlaw09.PageBack': WHATEVER THE INPUT: true; the input reads as it did. -/
def pageBackSpec : ChangeSpec := { name := "pageBack", fn := fun _ => fun
  | [d1, d2, d3, d4] => { results := [.lit (.bool true)], args := [d1, d2, d3, d4] }
  | _ => none }
def pageBackRow : OpenClaim := { program := "ytlandlgjhnnaiaa", sum := "616078fd085517c945a008b4d335ff50387cf646666649550653be6cf690d23c", func := "bursar/bursarlaw09.PageBack", spec := "pageBack", apart := false }
def PageBackSaid : Prop := pageBackRow.holds Try.pinned (OpenSpec.ofChange pageBackSpec)

/-- ITS FALSE NEIGHBOUR: 'it returns false'. Refute it at one input. -/
def pageBackWrong : ChangeSpec := { name := "pageBack", fn := fun _ => fun
  | [d1, d2, d3, d4] => { results := [.lit (.bool false)], args := [d1, d2, d3, d4] }
  | _ => none }
def PageBackWrongFalsely : Prop := pageBackRow.holds Try.pinned (OpenSpec.ofChange pageBackWrong)

/-- 'bursarlaw09.PageSizes': WHATEVER THE INPUT: true; the input reads as it did. -/
def pageSizesSpec : ChangeSpec := { name := "pageSizes", fn := fun _ => fun
  | [d1, d2, d3, d4] => { results := [.lit (.bool true)], args := [d1, d2, d3, d4] }
  | _ => none }
def pageSizesRow : OpenClaim := { program := "ytlandlgjhnnaiaa", sum := "616078fd085517c945a008b4d335ff50387cf646666649550653be6cf690d23c", func := "bursar/bursarlaw09.PageSizes", spec := "pageSizes", apart := false }
def PageSizesSaid : Prop := pageSizesRow.holds Try.pinned (OpenSpec.ofChange pageSizesSpec)

/-- ITS FALSE NEIGHBOUR: 'it returns false'. Refute it at one input. -/
def pageSizesWrong : ChangeSpec := { name := "pageSizes", fn := fun _ => fun
  | [d1, d2, d3, d4] => { results := [.lit (.bool false)], args := [d1, d2, d3, d4] }
  | _ => none }
def PageSizesWrongFalsely : Prop := pageSizesRow.holds Try.pinned (OpenSpec.ofChange pageSizesWrong)

/-- 'bursarlaw09.PageMemory': WHATEVER THE INPUT: true; the input reads as it did. -/
def pageMemorySpec : ChangeSpec := { name := "pageMemory", fn := fun _ => fun
  | [d] => { results := [.lit (.bool true)], args := [d] }
  | _ => none }
def pageMemoryRow : OpenClaim := { program := "ytlandlgjhnnaiaa", sum := "616078fd085517c945a008b4d335ff50387cf646666649550653be6cf690d23c", func := "bursar/bursarlaw09.PageMemory", spec := "pageMemory", apart := false }
def PageMemorySaid : Prop := pageMemoryRow.holds Try.pinned (OpenSpec.ofChange pageMemorySpec)

/-- ITS FALSE NEIGHBOUR: 'it returns false'. Refute it at one input. -/
def pageMemoryWrong : ChangeSpec := { name := "pageMemory", fn := fun _ => fun
  | [d] => { results := [.lit (.bool false)], args := [d] }
  | _ => none }
def PageMemoryWrongFalsely : Prop := pageMemoryRow.holds Try.pinned (OpenSpec.ofChange pageMemoryWrong)

/-- 'bursarlaw09.PageChains': WHATEVER THE INPUT: true; the input reads as it did. -/
def pageChainsSpec : ChangeSpec := { name := "pageChains", fn := fun _ => fun
  | [d1, d2] => { results := [.lit (.bool true)], args := [d1, d2] }
  | _ => none }
def pageChainsRow : OpenClaim := { program := "ytlandlgjhnnaiaa", sum := "616078fd085517c945a008b4d335ff50387cf646666649550653be6cf690d23c", func := "bursar/bursarlaw09.PageChains", spec := "pageChains", apart := false }
def PageChainsSaid : Prop := pageChainsRow.holds Try.pinned (OpenSpec.ofChange pageChainsSpec)

/-- ITS FALSE NEIGHBOUR: 'it returns false'. Refute it at one input. -/
def pageChainsWrong : ChangeSpec := { name := "pageChains", fn := fun _ => fun
  | [d1, d2] => { results := [.lit (.bool false)], args := [d1, d2] }
  | _ => none }
def PageChainsWrongFalsely : Prop := pageChainsRow.holds Try.pinned (OpenSpec.ofChange pageChainsWrong)

/-- 'bursarlaw09.PageChainsBack': WHATEVER THE INPUT: true; the input reads as it did. -/
def pageChainsBackSpec : ChangeSpec := { name := "pageChainsBack", fn := fun _ => fun
  | [d1, d2, d3] => { results := [.lit (.bool true)], args := [d1, d2, d3] }
  | _ => none }
def pageChainsBackRow : OpenClaim := { program := "ytlandlgjhnnaiaa", sum := "616078fd085517c945a008b4d335ff50387cf646666649550653be6cf690d23c", func := "bursar/bursarlaw09.PageChainsBack", spec := "pageChainsBack", apart := false }
def PageChainsBackSaid : Prop := pageChainsBackRow.holds Try.pinned (OpenSpec.ofChange pageChainsBackSpec)

/-- ITS FALSE NEIGHBOUR: 'it returns false'. Refute it at one input. -/
def pageChainsBackWrong : ChangeSpec := { name := "pageChainsBack", fn := fun _ => fun
  | [d1, d2, d3] => { results := [.lit (.bool false)], args := [d1, d2, d3] }
  | _ => none }
def PageChainsBackWrongFalsely : Prop := pageChainsBackRow.holds Try.pinned (OpenSpec.ofChange pageChainsBackWrong)

/- THE SECOND FORM. 'bulk': how many values and letters a reading holds, each counted each time it is reached (what is shared counts as often as it is met; a slice's spare places count too). A statement '..UptoSaid' is the law's where the arguments, and the package variables that the reading takes, are together of bulk at most 1048576: NARROWER than '..Said'. Prove '..Said' where nothing that the law and all that it calls make is longer than what came in: it says more and counts as full. Else prove '..UptoSaid'. A law counts once. -/
mutual
def uptoBulk {H : Type} : DataW H → Nat
  | .lit (.string bytes) => bytes.length + 1
  | .lit _ => 1
  | .nil => 1
  | .ptr d => uptoBulk d + 1
  | .slice elems spare => uptoBulkAll elems + uptoBulkAll spare + 1
  | .agg parts => uptoBulkAll parts + 1
  | .iface _ d => uptoBulk d + 1
  | .map entries => uptoBulkEntries entries + 1
  | .held _ => 1
def uptoBulkAll {H : Type} : List (DataW H) → Nat
  | [] => 0
  | d :: r => uptoBulk d + uptoBulkAll r
def uptoBulkEntries {H : Type} : List (Lit × DataW H) → Nat
  | [] => 0
  | x :: r => uptoBulkEntry x + uptoBulkEntries r
def uptoBulkEntry {H : Type} : Lit × DataW H → Nat
  | (.string bytes, d) => bytes.length + uptoBulk d + 1
  | (_, d) => uptoBulk d + 1
 end
def uptoSmall : (H : Type) → List (DataW H) → Bool := fun _ ds => decide (uptoBulkAll ds ≤ 1048576)
def OpenSpec.upto (s : _root_.Go.ChangeSpec) : _root_.Go.OpenSpec := { _root_.Go.OpenSpec.ofChange s with cond := some uptoSmall }

/-- 'bursarlaw09.PageCodes', WHERE WHAT IT READS IS OF BULK AT MOST 1048576: true; the input reads as it did. -/
def pageCodesUptoRow : OpenClaim := { program := "ytlandlgjhnnaiaa", sum := "616078fd085517c945a008b4d335ff50387cf646666649550653be6cf690d23c", func := "bursar/bursarlaw09.PageCodes", spec := "pageCodes", apart := false, narrowed := true }
def PageCodesUptoSaid : Prop := pageCodesUptoRow.holds Try.pinned (OpenSpec.upto pageCodesSpec)

/-- 'bursarlaw09.PageReads', WHERE WHAT IT READS IS OF BULK AT MOST 1048576: true; the input reads as it did. -/
def pageReadsUptoRow : OpenClaim := { program := "ytlandlgjhnnaiaa", sum := "616078fd085517c945a008b4d335ff50387cf646666649550653be6cf690d23c", func := "bursar/bursarlaw09.PageReads", spec := "pageReads", apart := false, narrowed := true }
def PageReadsUptoSaid : Prop := pageReadsUptoRow.holds Try.pinned (OpenSpec.upto pageReadsSpec)

/-- 'bursarlaw09.PageBack', WHERE WHAT IT READS IS OF BULK AT MOST 1048576: true; the input reads as it did. -/
def pageBackUptoRow : OpenClaim := { program := "ytlandlgjhnnaiaa", sum := "616078fd085517c945a008b4d335ff50387cf646666649550653be6cf690d23c", func := "bursar/bursarlaw09.PageBack", spec := "pageBack", apart := false, narrowed := true }
def PageBackUptoSaid : Prop := pageBackUptoRow.holds Try.pinned (OpenSpec.upto pageBackSpec)

/-- 'bursarlaw09.PageSizes', WHERE WHAT IT READS IS OF BULK AT MOST 1048576: true; the input reads as it did. -/
def pageSizesUptoRow : OpenClaim := { program := "ytlandlgjhnnaiaa", sum := "616078fd085517c945a008b4d335ff50387cf646666649550653be6cf690d23c", func := "bursar/bursarlaw09.PageSizes", spec := "pageSizes", apart := false, narrowed := true }
def PageSizesUptoSaid : Prop := pageSizesUptoRow.holds Try.pinned (OpenSpec.upto pageSizesSpec)

/-- 'bursarlaw09.PageMemory', WHERE WHAT IT READS IS OF BULK AT MOST 1048576: true; the input reads as it did. -/
def pageMemoryUptoRow : OpenClaim := { program := "ytlandlgjhnnaiaa", sum := "616078fd085517c945a008b4d335ff50387cf646666649550653be6cf690d23c", func := "bursar/bursarlaw09.PageMemory", spec := "pageMemory", apart := false, narrowed := true }
def PageMemoryUptoSaid : Prop := pageMemoryUptoRow.holds Try.pinned (OpenSpec.upto pageMemorySpec)

/-- 'bursarlaw09.PageChains', WHERE WHAT IT READS IS OF BULK AT MOST 1048576: true; the input reads as it did. -/
def pageChainsUptoRow : OpenClaim := { program := "ytlandlgjhnnaiaa", sum := "616078fd085517c945a008b4d335ff50387cf646666649550653be6cf690d23c", func := "bursar/bursarlaw09.PageChains", spec := "pageChains", apart := false, narrowed := true }
def PageChainsUptoSaid : Prop := pageChainsUptoRow.holds Try.pinned (OpenSpec.upto pageChainsSpec)

/-- 'bursarlaw09.PageChainsBack', WHERE WHAT IT READS IS OF BULK AT MOST 1048576: true; the input reads as it did. -/
def pageChainsBackUptoRow : OpenClaim := { program := "ytlandlgjhnnaiaa", sum := "616078fd085517c945a008b4d335ff50387cf646666649550653be6cf690d23c", func := "bursar/bursarlaw09.PageChainsBack", spec := "pageChainsBack", apart := false, narrowed := true }
def PageChainsBackUptoSaid : Prop := pageChainsBackUptoRow.holds Try.pinned (OpenSpec.upto pageChainsBackSpec)

end Rows
end Go.Proofs.Ytlandlgjhnnaiaa
