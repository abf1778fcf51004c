/-
  No cell of these rows narrows 'for every input' (looked for: loops, veiled, ifaces, maps, wideKeys, modest, calm, conditions, laid).
  DERIVED. THE GIVEN ROWS OF THIS SEAT. 5 by the template 'for every input the law returns true; each argument reads behind the call as it read before'; 0 by the template 'total and deterministic' (their statements: YtodondpggkohjaaTotals.lean).
  GIVEN WITH THE SEED: the statements are not yours to turn. If you find one false, say at which input.
  Laid BY PROGRAM, IN A SANDBOX (cutbox-rows.mjs): the forced cells as the released guide's own fill.sh prints them over the translation dc659e6afdb74b1b… (all of the seat's roots in one cut). By AI agents, Wed Nov 11 2026. No macro, syntax, notation, axiom, sorry.
-/
import Derived.Test.YtodondpggkohjaaChecked
import GoSem.Claim
import GoSem.ClaimJoined
import GoSem.ClaimMapViews
import Derived.JoinedTies
import Derived.KernelRfl
namespace Go.Proofs.Ytodondpggkohjaa
/- THE CELL 'sum', in the pinned program and in every row, IS THE sha256 OF THE DUMP (.gsa) THAT YtodondpggkohjaaProg.lean LOADS. Nothing in Lean hashes anything: it is a label: what it is worth is what the hold of that sum in a sandbox is worth. -/
noncomputable def Try.pinned : Pinned := { name := "ytodondpggkohjaa", sum := "dc659e6afdb74b1b5459343bff522dc1084426bd216120c2192045110853649f", checked := Try.checked }
namespace Rows
def none {H : Type} : Left H := { results := [], args := [] }

/-- 'bursarlaw08.SpaceApart': WHATEVER THE INPUT: true; the input reads as it did. -/
def spaceApartSpec : ChangeSpec := { name := "spaceApart", fn := fun _ => fun
  | [d1, d2] => { results := [.lit (.bool true)], args := [d1, d2] }
  | _ => none }
def spaceApartRow : OpenClaim := { program := "ytodondpggkohjaa", sum := "dc659e6afdb74b1b5459343bff522dc1084426bd216120c2192045110853649f", func := "bursar/bursarlaw08.SpaceApart", spec := "spaceApart", unfollowed := true, recurses := true, apart := false }
def SpaceApartSaid : Prop := spaceApartRow.holds Try.pinned (OpenSpec.ofChange spaceApartSpec)

/-- ITS FALSE NEIGHBOUR: 'it returns false'. Refute it at one input. -/
def spaceApartWrong : ChangeSpec := { name := "spaceApart", fn := fun _ => fun
  | [d1, d2] => { results := [.lit (.bool false)], args := [d1, d2] }
  | _ => none }
def SpaceApartWrongFalsely : Prop := spaceApartRow.holds Try.pinned (OpenSpec.ofChange spaceApartWrong)

/-- 'bursarlaw08.SpacePlays': WHATEVER THE INPUT: true; the input reads as it did. -/
def spacePlaysSpec : ChangeSpec := { name := "spacePlays", fn := fun _ => fun
  | [d1, d2, d3] => { results := [.lit (.bool true)], args := [d1, d2, d3] }
  | _ => none }
def spacePlaysRow : OpenClaim := { program := "ytodondpggkohjaa", sum := "dc659e6afdb74b1b5459343bff522dc1084426bd216120c2192045110853649f", func := "bursar/bursarlaw08.SpacePlays", spec := "spacePlays", unfollowed := true, recurses := true, apart := false }
def SpacePlaysSaid : Prop := spacePlaysRow.holds Try.pinned (OpenSpec.ofChange spacePlaysSpec)

/-- ITS FALSE NEIGHBOUR: 'it returns false'. Refute it at one input. -/
def spacePlaysWrong : ChangeSpec := { name := "spacePlays", fn := fun _ => fun
  | [d1, d2, d3] => { results := [.lit (.bool false)], args := [d1, d2, d3] }
  | _ => none }
def SpacePlaysWrongFalsely : Prop := spacePlaysRow.holds Try.pinned (OpenSpec.ofChange spacePlaysWrong)

/-- 'bursarlaw08.SpaceAddsUp': WHATEVER THE INPUT: true; the input reads as it did. -/
def spaceAddsUpSpec : ChangeSpec := { name := "spaceAddsUp", fn := fun _ => fun
  | [d1, d2, d3] => { results := [.lit (.bool true)], args := [d1, d2, d3] }
  | _ => none }
def spaceAddsUpRow : OpenClaim := { program := "ytodondpggkohjaa", sum := "dc659e6afdb74b1b5459343bff522dc1084426bd216120c2192045110853649f", func := "bursar/bursarlaw08.SpaceAddsUp", spec := "spaceAddsUp", unfollowed := true, recurses := true, apart := false }
def SpaceAddsUpSaid : Prop := spaceAddsUpRow.holds Try.pinned (OpenSpec.ofChange spaceAddsUpSpec)

/-- ITS FALSE NEIGHBOUR: 'it returns false'. Refute it at one input. -/
def spaceAddsUpWrong : ChangeSpec := { name := "spaceAddsUp", fn := fun _ => fun
  | [d1, d2, d3] => { results := [.lit (.bool false)], args := [d1, d2, d3] }
  | _ => none }
def SpaceAddsUpWrongFalsely : Prop := spaceAddsUpRow.holds Try.pinned (OpenSpec.ofChange spaceAddsUpWrong)

/-- 'bursarlaw08.SpaceKeepsOld': WHATEVER THE INPUT: true; the input reads as it did. -/
def spaceKeepsOldSpec : ChangeSpec := { name := "spaceKeepsOld", fn := fun _ => fun
  | [d1, d2, d3, d4] => { results := [.lit (.bool true)], args := [d1, d2, d3, d4] }
  | _ => none }
def spaceKeepsOldRow : OpenClaim := { program := "ytodondpggkohjaa", sum := "dc659e6afdb74b1b5459343bff522dc1084426bd216120c2192045110853649f", func := "bursar/bursarlaw08.SpaceKeepsOld", spec := "spaceKeepsOld", unfollowed := true, recurses := true, apart := false }
def SpaceKeepsOldSaid : Prop := spaceKeepsOldRow.holds Try.pinned (OpenSpec.ofChange spaceKeepsOldSpec)

/-- ITS FALSE NEIGHBOUR: 'it returns false'. Refute it at one input. -/
def spaceKeepsOldWrong : ChangeSpec := { name := "spaceKeepsOld", fn := fun _ => fun
  | [d1, d2, d3, d4] => { results := [.lit (.bool false)], args := [d1, d2, d3, d4] }
  | _ => none }
def SpaceKeepsOldWrongFalsely : Prop := spaceKeepsOldRow.holds Try.pinned (OpenSpec.ofChange spaceKeepsOldWrong)

/-- 'bursarlaw08.SpaceGoesAgain': WHATEVER THE INPUT: true; the input reads as it did. -/
def spaceGoesAgainSpec : ChangeSpec := { name := "spaceGoesAgain", fn := fun _ => fun
  | [d1, d2, d3, d4] => { results := [.lit (.bool true)], args := [d1, d2, d3, d4] }
  | _ => none }
def spaceGoesAgainRow : OpenClaim := { program := "ytodondpggkohjaa", sum := "dc659e6afdb74b1b5459343bff522dc1084426bd216120c2192045110853649f", func := "bursar/bursarlaw08.SpaceGoesAgain", spec := "spaceGoesAgain", unfollowed := true, recurses := true, apart := false }
def SpaceGoesAgainSaid : Prop := spaceGoesAgainRow.holds Try.pinned (OpenSpec.ofChange spaceGoesAgainSpec)

/-- ITS FALSE NEIGHBOUR: 'it returns false'. Refute it at one input. -/
def spaceGoesAgainWrong : ChangeSpec := { name := "spaceGoesAgain", fn := fun _ => fun
  | [d1, d2, d3, d4] => { results := [.lit (.bool false)], args := [d1, d2, d3, d4] }
  | _ => none }
def SpaceGoesAgainWrongFalsely : Prop := spaceGoesAgainRow.holds Try.pinned (OpenSpec.ofChange spaceGoesAgainWrong)

/- THE SECOND FORM. 'bulk': how many values and letters a reading holds, each counted each time it is reached (what is shared counts as often as it is met; a slice's spare places count too). A statement '..UptoSaid' is the law's where the arguments, and the package variables that the reading takes, are together of bulk at most 1048576: NARROWER than '..Said'. Prove '..Said' where nothing that the law and all that it calls make is longer than what came in: it says more and counts as full. Else prove '..UptoSaid'. A law counts once. -/
mutual
def uptoBulk {H : Type} : DataW H → Nat
  | .lit (.string bytes) => bytes.length + 1
  | .lit _ => 1
  | .nil => 1
  | .ptr d => uptoBulk d + 1
  | .slice elems spare => uptoBulkAll elems + uptoBulkAll spare + 1
  | .agg parts => uptoBulkAll parts + 1
  | .iface _ d => uptoBulk d + 1
  | .map entries => uptoBulkEntries entries + 1
  | .held _ => 1
def uptoBulkAll {H : Type} : List (DataW H) → Nat
  | [] => 0
  | d :: r => uptoBulk d + uptoBulkAll r
def uptoBulkEntries {H : Type} : List (Lit × DataW H) → Nat
  | [] => 0
  | x :: r => uptoBulkEntry x + uptoBulkEntries r
def uptoBulkEntry {H : Type} : Lit × DataW H → Nat
  | (.string bytes, d) => bytes.length + uptoBulk d + 1
  | (_, d) => uptoBulk d + 1
 end
def uptoSmall : (H : Type) → List (DataW H) → Bool := fun _ ds => decide (uptoBulkAll ds ≤ 1048576)
def OpenSpec.upto (s : _root_.Go.ChangeSpec) : _root_.Go.OpenSpec := { _root_.Go.OpenSpec.ofChange s with cond := some uptoSmall }

/-- 'bursarlaw08.SpaceApart', WHERE WHAT IT READS IS OF BULK AT MOST 1048576: true; the input reads as it did. -/
def spaceApartUptoRow : OpenClaim := { program := "ytodondpggkohjaa", sum := "dc659e6afdb74b1b5459343bff522dc1084426bd216120c2192045110853649f", func := "bursar/bursarlaw08.SpaceApart", spec := "spaceApart", unfollowed := true, recurses := true, apart := false, narrowed := true }
def SpaceApartUptoSaid : Prop := spaceApartUptoRow.holds Try.pinned (OpenSpec.upto spaceApartSpec)

/-- 'bursarlaw08.SpacePlays', WHERE WHAT IT READS IS OF BULK AT MOST 1048576: true; the input reads as it did. -/
def spacePlaysUptoRow : OpenClaim := { program := "ytodondpggkohjaa", sum := "dc659e6afdb74b1b5459343bff522dc1084426bd216120c2192045110853649f", func := "bursar/bursarlaw08.SpacePlays", spec := "spacePlays", unfollowed := true, recurses := true, apart := false, narrowed := true }
def SpacePlaysUptoSaid : Prop := spacePlaysUptoRow.holds Try.pinned (OpenSpec.upto spacePlaysSpec)

/-- 'bursarlaw08.SpaceAddsUp', WHERE WHAT IT READS IS OF BULK AT MOST 1048576: true; the input reads as it did. -/
def spaceAddsUpUptoRow : OpenClaim := { program := "ytodondpggkohjaa", sum := "dc659e6afdb74b1b5459343bff522dc1084426bd216120c2192045110853649f", func := "bursar/bursarlaw08.SpaceAddsUp", spec := "spaceAddsUp", unfollowed := true, recurses := true, apart := false, narrowed := true }
def SpaceAddsUpUptoSaid : Prop := spaceAddsUpUptoRow.holds Try.pinned (OpenSpec.upto spaceAddsUpSpec)

/-- 'bursarlaw08.SpaceKeepsOld', WHERE WHAT IT READS IS OF BULK AT MOST 1048576: true; the input reads as it did. -/
def spaceKeepsOldUptoRow : OpenClaim := { program := "ytodondpggkohjaa", sum := "dc659e6afdb74b1b5459343bff522dc1084426bd216120c2192045110853649f", func := "bursar/bursarlaw08.SpaceKeepsOld", spec := "spaceKeepsOld", unfollowed := true, recurses := true, apart := false, narrowed := true }
def SpaceKeepsOldUptoSaid : Prop := spaceKeepsOldUptoRow.holds Try.pinned (OpenSpec.upto spaceKeepsOldSpec)

/-- 'bursarlaw08.SpaceGoesAgain', WHERE WHAT IT READS IS OF BULK AT MOST 1048576: true; the input reads as it did. -/
def spaceGoesAgainUptoRow : OpenClaim := { program := "ytodondpggkohjaa", sum := "dc659e6afdb74b1b5459343bff522dc1084426bd216120c2192045110853649f", func := "bursar/bursarlaw08.SpaceGoesAgain", spec := "spaceGoesAgain", unfollowed := true, recurses := true, apart := false, narrowed := true }
def SpaceGoesAgainUptoSaid : Prop := spaceGoesAgainUptoRow.holds Try.pinned (OpenSpec.upto spaceGoesAgainSpec)

end Rows
end Go.Proofs.Ytodondpggkohjaa
