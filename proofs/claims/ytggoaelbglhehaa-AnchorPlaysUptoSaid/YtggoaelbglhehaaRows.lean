/-
  No cell of these rows narrows 'for every input' (looked for: loops, veiled, ifaces, maps, wideKeys, modest, calm, conditions, laid).
  DERIVED. THE GIVEN ROWS OF THIS SEAT. 5 by the template 'for every input the law returns true; each argument reads behind the call as it read before'; 0 by the template 'total and deterministic' (their statements: YtggoaelbglhehaaTotals.lean).
  GIVEN WITH THE SEED: the statements are not yours to turn. If you find one false, say at which input.
  Laid BY PROGRAM, IN A SANDBOX (cutbox-rows.mjs): the forced cells as the released guide's own fill.sh prints them over the translation a43557244c8c6f64… (all of the seat's roots in one cut). By AI agents, Wed Nov 11 2026. No macro, syntax, notation, axiom, sorry.
-/
import Derived.Test.YtggoaelbglhehaaChecked
import GoSem.Claim
import GoSem.ClaimJoined
import GoSem.ClaimMapViews
import Derived.JoinedTies
import Derived.KernelRfl
namespace Go.Proofs.Ytggoaelbglhehaa
/- THE CELL 'sum', in the pinned program and in every row, IS THE sha256 OF THE DUMP (.gsa) THAT YtggoaelbglhehaaProg.lean LOADS. Nothing in Lean hashes anything: it is a label: what it is worth is what the hold of that sum in a sandbox is worth. -/
noncomputable def Try.pinned : Pinned := { name := "ytggoaelbglhehaa", sum := "a43557244c8c6f643f084f812bc72b821cacb7bca5b75ac6e3c07351a0c9bc60", checked := Try.checked }
namespace Rows
def none {H : Type} : Left H := { results := [], args := [] }

/-- 'bursarlaw11.AnchorCodes': WHATEVER THE INPUT: true; the input reads as it did. -/
def anchorCodesSpec : ChangeSpec := { name := "anchorCodes", fn := fun _ => fun
  | [d1, d2, d3] => { results := [.lit (.bool true)], args := [d1, d2, d3] }
  | _ => none }
def anchorCodesRow : OpenClaim := { program := "ytggoaelbglhehaa", sum := "a43557244c8c6f643f084f812bc72b821cacb7bca5b75ac6e3c07351a0c9bc60", func := "bursar/bursarlaw11.AnchorCodes", spec := "anchorCodes", unfollowed := true, recurses := true, apart := false }
def AnchorCodesSaid : Prop := anchorCodesRow.holds Try.pinned (OpenSpec.ofChange anchorCodesSpec)

/-- ITS FALSE NEIGHBOUR: 'it returns false'. Refute it at one input. -/
def anchorCodesWrong : ChangeSpec := { name := "anchorCodes", fn := fun _ => fun
  | [d1, d2, d3] => { results := [.lit (.bool false)], args := [d1, d2, d3] }
  | _ => none }
def AnchorCodesWrongFalsely : Prop := anchorCodesRow.holds Try.pinned (OpenSpec.ofChange anchorCodesWrong)

/-- 'bursarlaw11.AnchorBack': WHATEVER THE INPUT: true; the input reads as it did. -/
def anchorBackSpec : ChangeSpec := { name := "anchorBack", fn := fun _ => fun
  | [d1, d2, d3, d4] => { results := [.lit (.bool true)], args := [d1, d2, d3, d4] }
  | _ => none }
def anchorBackRow : OpenClaim := { program := "ytggoaelbglhehaa", sum := "a43557244c8c6f643f084f812bc72b821cacb7bca5b75ac6e3c07351a0c9bc60", func := "bursar/bursarlaw11.AnchorBack", spec := "anchorBack", unfollowed := true, recurses := true, apart := false }
def AnchorBackSaid : Prop := anchorBackRow.holds Try.pinned (OpenSpec.ofChange anchorBackSpec)

/-- ITS FALSE NEIGHBOUR: 'it returns false'. Refute it at one input. -/
def anchorBackWrong : ChangeSpec := { name := "anchorBack", fn := fun _ => fun
  | [d1, d2, d3, d4] => { results := [.lit (.bool false)], args := [d1, d2, d3, d4] }
  | _ => none }
def AnchorBackWrongFalsely : Prop := anchorBackRow.holds Try.pinned (OpenSpec.ofChange anchorBackWrong)

/-- 'bursarlaw11.AnchorCounts': WHATEVER THE INPUT: true; the input reads as it did. -/
def anchorCountsSpec : ChangeSpec := { name := "anchorCounts", fn := fun _ => fun
  | [d1, d2, d3, d4, d5] => { results := [.lit (.bool true)], args := [d1, d2, d3, d4, d5] }
  | _ => none }
def anchorCountsRow : OpenClaim := { program := "ytggoaelbglhehaa", sum := "a43557244c8c6f643f084f812bc72b821cacb7bca5b75ac6e3c07351a0c9bc60", func := "bursar/bursarlaw11.AnchorCounts", spec := "anchorCounts", unfollowed := true, recurses := true, apart := false }
def AnchorCountsSaid : Prop := anchorCountsRow.holds Try.pinned (OpenSpec.ofChange anchorCountsSpec)

/-- ITS FALSE NEIGHBOUR: 'it returns false'. Refute it at one input. -/
def anchorCountsWrong : ChangeSpec := { name := "anchorCounts", fn := fun _ => fun
  | [d1, d2, d3, d4, d5] => { results := [.lit (.bool false)], args := [d1, d2, d3, d4, d5] }
  | _ => none }
def AnchorCountsWrongFalsely : Prop := anchorCountsRow.holds Try.pinned (OpenSpec.ofChange anchorCountsWrong)

/-- 'bursarlaw11.AnchorPlays': WHATEVER THE INPUT: true; the input reads as it did. -/
def anchorPlaysSpec : ChangeSpec := { name := "anchorPlays", fn := fun _ => fun
  | [d1, d2] => { results := [.lit (.bool true)], args := [d1, d2] }
  | _ => none }
def anchorPlaysRow : OpenClaim := { program := "ytggoaelbglhehaa", sum := "a43557244c8c6f643f084f812bc72b821cacb7bca5b75ac6e3c07351a0c9bc60", func := "bursar/bursarlaw11.AnchorPlays", spec := "anchorPlays", unfollowed := true, recurses := true, apart := false }
def AnchorPlaysSaid : Prop := anchorPlaysRow.holds Try.pinned (OpenSpec.ofChange anchorPlaysSpec)

/-- ITS FALSE NEIGHBOUR: 'it returns false'. Refute it at one input. -/
def anchorPlaysWrong : ChangeSpec := { name := "anchorPlays", fn := fun _ => fun
  | [d1, d2] => { results := [.lit (.bool false)], args := [d1, d2] }
  | _ => none }
def AnchorPlaysWrongFalsely : Prop := anchorPlaysRow.holds Try.pinned (OpenSpec.ofChange anchorPlaysWrong)

/-- 'bursarlaw11.AnchorWhole': WHATEVER THE INPUT: true; the input reads as it did. -/
def anchorWholeSpec : ChangeSpec := { name := "anchorWhole", fn := fun _ => fun
  | [d] => { results := [.lit (.bool true)], args := [d] }
  | _ => none }
def anchorWholeRow : OpenClaim := { program := "ytggoaelbglhehaa", sum := "a43557244c8c6f643f084f812bc72b821cacb7bca5b75ac6e3c07351a0c9bc60", func := "bursar/bursarlaw11.AnchorWhole", spec := "anchorWhole", unfollowed := true, recurses := true, apart := false }
def AnchorWholeSaid : Prop := anchorWholeRow.holds Try.pinned (OpenSpec.ofChange anchorWholeSpec)

/-- ITS FALSE NEIGHBOUR: 'it returns false'. Refute it at one input. -/
def anchorWholeWrong : ChangeSpec := { name := "anchorWhole", fn := fun _ => fun
  | [d] => { results := [.lit (.bool false)], args := [d] }
  | _ => none }
def AnchorWholeWrongFalsely : Prop := anchorWholeRow.holds Try.pinned (OpenSpec.ofChange anchorWholeWrong)

/- THE SECOND FORM. 'bulk': how many values and letters a reading holds, each counted each time it is reached (what is shared counts as often as it is met; a slice's spare places count too). A statement '..UptoSaid' is the law's where the arguments, and the package variables that the reading takes, are together of bulk at most 1048576: NARROWER than '..Said'. Prove '..Said' where nothing that the law and all that it calls make is longer than what came in: it says more and counts as full. Else prove '..UptoSaid'. A law counts once. -/
mutual
def uptoBulk {H : Type} : DataW H → Nat
  | .lit (.string bytes) => bytes.length + 1
  | .lit _ => 1
  | .nil => 1
  | .ptr d => uptoBulk d + 1
  | .slice elems spare => uptoBulkAll elems + uptoBulkAll spare + 1
  | .agg parts => uptoBulkAll parts + 1
  | .iface _ d => uptoBulk d + 1
  | .map entries => uptoBulkEntries entries + 1
  | .held _ => 1
def uptoBulkAll {H : Type} : List (DataW H) → Nat
  | [] => 0
  | d :: r => uptoBulk d + uptoBulkAll r
def uptoBulkEntries {H : Type} : List (Lit × DataW H) → Nat
  | [] => 0
  | x :: r => uptoBulkEntry x + uptoBulkEntries r
def uptoBulkEntry {H : Type} : Lit × DataW H → Nat
  | (.string bytes, d) => bytes.length + uptoBulk d + 1
  | (_, d) => uptoBulk d + 1
 end
def uptoSmall : (H : Type) → List (DataW H) → Bool := fun _ ds => decide (uptoBulkAll ds ≤ 1048576)
def OpenSpec.upto (s : _root_.Go.ChangeSpec) : _root_.Go.OpenSpec := { _root_.Go.OpenSpec.ofChange s with cond := some uptoSmall }

/-- 'bursarlaw11.AnchorCodes', WHERE WHAT IT READS IS OF BULK AT MOST 1048576: true; the input reads as it did. -/
def anchorCodesUptoRow : OpenClaim := { program := "ytggoaelbglhehaa", sum := "a43557244c8c6f643f084f812bc72b821cacb7bca5b75ac6e3c07351a0c9bc60", func := "bursar/bursarlaw11.AnchorCodes", spec := "anchorCodes", unfollowed := true, recurses := true, apart := false, narrowed := true }
def AnchorCodesUptoSaid : Prop := anchorCodesUptoRow.holds Try.pinned (OpenSpec.upto anchorCodesSpec)

/-- 'bursarlaw11.AnchorBack', WHERE WHAT IT READS IS OF BULK AT MOST 1048576: true; the input reads as it did. -/
def anchorBackUptoRow : OpenClaim := { program := "ytggoaelbglhehaa", sum := "a43557244c8c6f643f084f812bc72b821cacb7bca5b75ac6e3c07351a0c9bc60", func := "bursar/bursarlaw11.AnchorBack", spec := "anchorBack", unfollowed := true, recurses := true, apart := false, narrowed := true }
def AnchorBackUptoSaid : Prop := anchorBackUptoRow.holds Try.pinned (OpenSpec.upto anchorBackSpec)

/-- 'bursarlaw11.AnchorCounts', WHERE WHAT IT READS IS OF BULK AT MOST 1048576: true; the input reads as it did. -/
def anchorCountsUptoRow : OpenClaim := { program := "ytggoaelbglhehaa", sum := "a43557244c8c6f643f084f812bc72b821cacb7bca5b75ac6e3c07351a0c9bc60", func := "bursar/bursarlaw11.AnchorCounts", spec := "anchorCounts", unfollowed := true, recurses := true, apart := false, narrowed := true }
def AnchorCountsUptoSaid : Prop := anchorCountsUptoRow.holds Try.pinned (OpenSpec.upto anchorCountsSpec)

/-- 'bursarlaw11.AnchorPlays', WHERE WHAT IT READS IS OF BULK AT MOST 1048576: true; the input reads as it did. -/
def anchorPlaysUptoRow : OpenClaim := { program := "ytggoaelbglhehaa", sum := "a43557244c8c6f643f084f812bc72b821cacb7bca5b75ac6e3c07351a0c9bc60", func := "bursar/bursarlaw11.AnchorPlays", spec := "anchorPlays", unfollowed := true, recurses := true, apart := false, narrowed := true }
def AnchorPlaysUptoSaid : Prop := anchorPlaysUptoRow.holds Try.pinned (OpenSpec.upto anchorPlaysSpec)

/-- 'bursarlaw11.AnchorWhole', WHERE WHAT IT READS IS OF BULK AT MOST 1048576: true; the input reads as it did. -/
def anchorWholeUptoRow : OpenClaim := { program := "ytggoaelbglhehaa", sum := "a43557244c8c6f643f084f812bc72b821cacb7bca5b75ac6e3c07351a0c9bc60", func := "bursar/bursarlaw11.AnchorWhole", spec := "anchorWhole", unfollowed := true, recurses := true, apart := false, narrowed := true }
def AnchorWholeUptoSaid : Prop := anchorWholeUptoRow.holds Try.pinned (OpenSpec.upto anchorWholeSpec)

end Rows
end Go.Proofs.Ytggoaelbglhehaa
