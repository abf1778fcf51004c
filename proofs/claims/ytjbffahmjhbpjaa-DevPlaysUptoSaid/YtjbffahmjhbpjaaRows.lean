/-
  No cell of these rows narrows 'for every input' (looked for: loops, veiled, ifaces, maps, wideKeys, modest, calm, conditions, laid).
  DERIVED. THE GIVEN ROWS OF THIS SEAT. 8 by the template 'for every input the law returns true; each argument reads behind the call as it read before'; 0 by the template 'total and deterministic' (their statements: YtjbffahmjhbpjaaTotals.lean).
  GIVEN WITH THE SEED: the statements are not yours to turn. If you find one false, say at which input.
  Laid BY PROGRAM, IN A SANDBOX (cutbox-rows.mjs): the forced cells as the released guide's own fill.sh prints them over the translation 58fc4cb7d72bf856… (all of the seat's roots in one cut). By AI agents, Wed Nov 11 2026. No macro, syntax, notation, axiom, sorry.
-/
import Derived.Test.YtjbffahmjhbpjaaChecked
import GoSem.Claim
import GoSem.ClaimJoined
import GoSem.ClaimMapViews
import Derived.JoinedTies
import Derived.KernelRfl
namespace Go.Proofs.Ytjbffahmjhbpjaa
/- THE CELL 'sum', in the pinned program and in every row, IS THE sha256 OF THE DUMP (.gsa) THAT YtjbffahmjhbpjaaProg.lean LOADS. Nothing in Lean hashes anything: it is a label: what it is worth is what the hold of that sum in a sandbox is worth. -/
noncomputable def Try.pinned : Pinned := { name := "ytjbffahmjhbpjaa", sum := "58fc4cb7d72bf856758982b4534dceb9f93daf2ecdcc1f19cd85c1cd185791fc", checked := Try.checked }
namespace Rows
def none {H : Type} : Left H := { results := [], args := [] }

/-- 'bursarlaw06.DevSizes': WHATEVER THE INPUT: true; the input reads as it did. -/
def devSizesSpec : ChangeSpec := { name := "devSizes", fn := fun _ => fun
  | [d] => { results := [.lit (.bool true)], args := [d] }
  | _ => none }
def devSizesRow : OpenClaim := { program := "ytjbffahmjhbpjaa", sum := "58fc4cb7d72bf856758982b4534dceb9f93daf2ecdcc1f19cd85c1cd185791fc", func := "bursar/bursarlaw06.DevSizes", spec := "devSizes", apart := false }
def DevSizesSaid : Prop := devSizesRow.holds Try.pinned (OpenSpec.ofChange devSizesSpec)

/-- ITS FALSE NEIGHBOUR: 'it returns false'. Refute it at one input. -/
def devSizesWrong : ChangeSpec := { name := "devSizes", fn := fun _ => fun
  | [d] => { results := [.lit (.bool false)], args := [d] }
  | _ => none }
def DevSizesWrongFalsely : Prop := devSizesRow.holds Try.pinned (OpenSpec.ofChange devSizesWrong)

/-- 'bursarlaw06.DevApart': WHATEVER THE INPUT: true; the input reads as it did. -/
def devApartSpec : ChangeSpec := { name := "devApart", fn := fun _ => fun
  | [d1, d2] => { results := [.lit (.bool true)], args := [d1, d2] }
  | _ => none }
def devApartRow : OpenClaim := { program := "ytjbffahmjhbpjaa", sum := "58fc4cb7d72bf856758982b4534dceb9f93daf2ecdcc1f19cd85c1cd185791fc", func := "bursar/bursarlaw06.DevApart", spec := "devApart", unfollowed := true, recurses := true, apart := false }
def DevApartSaid : Prop := devApartRow.holds Try.pinned (OpenSpec.ofChange devApartSpec)

/-- ITS FALSE NEIGHBOUR: 'it returns false'. Refute it at one input. -/
def devApartWrong : ChangeSpec := { name := "devApart", fn := fun _ => fun
  | [d1, d2] => { results := [.lit (.bool false)], args := [d1, d2] }
  | _ => none }
def DevApartWrongFalsely : Prop := devApartRow.holds Try.pinned (OpenSpec.ofChange devApartWrong)

/-- 'bursarlaw06.DevLeaves': WHATEVER THE INPUT: true; the input reads as it did. -/
def devLeavesSpec : ChangeSpec := { name := "devLeaves", fn := fun _ => fun
  | [d1, d2, d3] => { results := [.lit (.bool true)], args := [d1, d2, d3] }
  | _ => none }
def devLeavesRow : OpenClaim := { program := "ytjbffahmjhbpjaa", sum := "58fc4cb7d72bf856758982b4534dceb9f93daf2ecdcc1f19cd85c1cd185791fc", func := "bursar/bursarlaw06.DevLeaves", spec := "devLeaves", unfollowed := true, recurses := true, apart := false }
def DevLeavesSaid : Prop := devLeavesRow.holds Try.pinned (OpenSpec.ofChange devLeavesSpec)

/-- ITS FALSE NEIGHBOUR: 'it returns false'. Refute it at one input. -/
def devLeavesWrong : ChangeSpec := { name := "devLeaves", fn := fun _ => fun
  | [d1, d2, d3] => { results := [.lit (.bool false)], args := [d1, d2, d3] }
  | _ => none }
def DevLeavesWrongFalsely : Prop := devLeavesRow.holds Try.pinned (OpenSpec.ofChange devLeavesWrong)

/-- 'bursarlaw06.DevRefuses': WHATEVER THE INPUT: true; the input reads as it did. -/
def devRefusesSpec : ChangeSpec := { name := "devRefuses", fn := fun _ => fun
  | [d] => { results := [.lit (.bool true)], args := [d] }
  | _ => none }
def devRefusesRow : OpenClaim := { program := "ytjbffahmjhbpjaa", sum := "58fc4cb7d72bf856758982b4534dceb9f93daf2ecdcc1f19cd85c1cd185791fc", func := "bursar/bursarlaw06.DevRefuses", spec := "devRefuses", unfollowed := true, recurses := true, apart := false }
def DevRefusesSaid : Prop := devRefusesRow.holds Try.pinned (OpenSpec.ofChange devRefusesSpec)

/-- ITS FALSE NEIGHBOUR: 'it returns false'. Refute it at one input. -/
def devRefusesWrong : ChangeSpec := { name := "devRefuses", fn := fun _ => fun
  | [d] => { results := [.lit (.bool false)], args := [d] }
  | _ => none }
def DevRefusesWrongFalsely : Prop := devRefusesRow.holds Try.pinned (OpenSpec.ofChange devRefusesWrong)

/-- 'bursarlaw06.DevStays': WHATEVER THE INPUT: true; the input reads as it did. -/
def devStaysSpec : ChangeSpec := { name := "devStays", fn := fun _ => fun
  | [d1, d2, d3] => { results := [.lit (.bool true)], args := [d1, d2, d3] }
  | _ => none }
def devStaysRow : OpenClaim := { program := "ytjbffahmjhbpjaa", sum := "58fc4cb7d72bf856758982b4534dceb9f93daf2ecdcc1f19cd85c1cd185791fc", func := "bursar/bursarlaw06.DevStays", spec := "devStays", unfollowed := true, recurses := true, apart := false }
def DevStaysSaid : Prop := devStaysRow.holds Try.pinned (OpenSpec.ofChange devStaysSpec)

/-- ITS FALSE NEIGHBOUR: 'it returns false'. Refute it at one input. -/
def devStaysWrong : ChangeSpec := { name := "devStays", fn := fun _ => fun
  | [d1, d2, d3] => { results := [.lit (.bool false)], args := [d1, d2, d3] }
  | _ => none }
def DevStaysWrongFalsely : Prop := devStaysRow.holds Try.pinned (OpenSpec.ofChange devStaysWrong)

/-- 'bursarlaw06.DevArmed': WHATEVER THE INPUT: true; the input reads as it did. -/
def devArmedSpec : ChangeSpec := { name := "devArmed", fn := fun _ => fun
  | [d1, d2] => { results := [.lit (.bool true)], args := [d1, d2] }
  | _ => none }
def devArmedRow : OpenClaim := { program := "ytjbffahmjhbpjaa", sum := "58fc4cb7d72bf856758982b4534dceb9f93daf2ecdcc1f19cd85c1cd185791fc", func := "bursar/bursarlaw06.DevArmed", spec := "devArmed", unfollowed := true, recurses := true, apart := false }
def DevArmedSaid : Prop := devArmedRow.holds Try.pinned (OpenSpec.ofChange devArmedSpec)

/-- ITS FALSE NEIGHBOUR: 'it returns false'. Refute it at one input. -/
def devArmedWrong : ChangeSpec := { name := "devArmed", fn := fun _ => fun
  | [d1, d2] => { results := [.lit (.bool false)], args := [d1, d2] }
  | _ => none }
def DevArmedWrongFalsely : Prop := devArmedRow.holds Try.pinned (OpenSpec.ofChange devArmedWrong)

/-- 'bursarlaw06.DevPlays': WHATEVER THE INPUT: true; the input reads as it did. -/
def devPlaysSpec : ChangeSpec := { name := "devPlays", fn := fun _ => fun
  | [d1, d2, d3] => { results := [.lit (.bool true)], args := [d1, d2, d3] }
  | _ => none }
def devPlaysRow : OpenClaim := { program := "ytjbffahmjhbpjaa", sum := "58fc4cb7d72bf856758982b4534dceb9f93daf2ecdcc1f19cd85c1cd185791fc", func := "bursar/bursarlaw06.DevPlays", spec := "devPlays", unfollowed := true, recurses := true, apart := false }
def DevPlaysSaid : Prop := devPlaysRow.holds Try.pinned (OpenSpec.ofChange devPlaysSpec)

/-- ITS FALSE NEIGHBOUR: 'it returns false'. Refute it at one input. -/
def devPlaysWrong : ChangeSpec := { name := "devPlays", fn := fun _ => fun
  | [d1, d2, d3] => { results := [.lit (.bool false)], args := [d1, d2, d3] }
  | _ => none }
def DevPlaysWrongFalsely : Prop := devPlaysRow.holds Try.pinned (OpenSpec.ofChange devPlaysWrong)

/-- 'bursarlaw06.DevCarried': WHATEVER THE INPUT: true; the input reads as it did. -/
def devCarriedSpec : ChangeSpec := { name := "devCarried", fn := fun _ => fun
  | [d1, d2] => { results := [.lit (.bool true)], args := [d1, d2] }
  | _ => none }
def devCarriedRow : OpenClaim := { program := "ytjbffahmjhbpjaa", sum := "58fc4cb7d72bf856758982b4534dceb9f93daf2ecdcc1f19cd85c1cd185791fc", func := "bursar/bursarlaw06.DevCarried", spec := "devCarried", unfollowed := true, recurses := true, apart := false }
def DevCarriedSaid : Prop := devCarriedRow.holds Try.pinned (OpenSpec.ofChange devCarriedSpec)

/-- ITS FALSE NEIGHBOUR: 'it returns false'. Refute it at one input. -/
def devCarriedWrong : ChangeSpec := { name := "devCarried", fn := fun _ => fun
  | [d1, d2] => { results := [.lit (.bool false)], args := [d1, d2] }
  | _ => none }
def DevCarriedWrongFalsely : Prop := devCarriedRow.holds Try.pinned (OpenSpec.ofChange devCarriedWrong)

/- THE SECOND FORM. 'bulk': how many values and letters a reading holds, each counted each time it is reached (what is shared counts as often as it is met; a slice's spare places count too). A statement '..UptoSaid' is the law's where the arguments, and the package variables that the reading takes, are together of bulk at most 1048576: NARROWER than '..Said'. Prove '..Said' where nothing that the law and all that it calls make is longer than what came in: it says more and counts as full. Else prove '..UptoSaid'. A law counts once. -/
mutual
def uptoBulk {H : Type} : DataW H → Nat
  | .lit (.string bytes) => bytes.length + 1
  | .lit _ => 1
  | .nil => 1
  | .ptr d => uptoBulk d + 1
  | .slice elems spare => uptoBulkAll elems + uptoBulkAll spare + 1
  | .agg parts => uptoBulkAll parts + 1
  | .iface _ d => uptoBulk d + 1
  | .map entries => uptoBulkEntries entries + 1
  | .held _ => 1
def uptoBulkAll {H : Type} : List (DataW H) → Nat
  | [] => 0
  | d :: r => uptoBulk d + uptoBulkAll r
def uptoBulkEntries {H : Type} : List (Lit × DataW H) → Nat
  | [] => 0
  | x :: r => uptoBulkEntry x + uptoBulkEntries r
def uptoBulkEntry {H : Type} : Lit × DataW H → Nat
  | (.string bytes, d) => bytes.length + uptoBulk d + 1
  | (_, d) => uptoBulk d + 1
 end
def uptoSmall : (H : Type) → List (DataW H) → Bool := fun _ ds => decide (uptoBulkAll ds ≤ 1048576)
def OpenSpec.upto (s : _root_.Go.ChangeSpec) : _root_.Go.OpenSpec := { _root_.Go.OpenSpec.ofChange s with cond := some uptoSmall }

/-- 'bursarlaw06.DevSizes', WHERE WHAT IT READS IS OF BULK AT MOST 1048576: true; the input reads as it did. -/
def devSizesUptoRow : OpenClaim := { program := "ytjbffahmjhbpjaa", sum := "58fc4cb7d72bf856758982b4534dceb9f93daf2ecdcc1f19cd85c1cd185791fc", func := "bursar/bursarlaw06.DevSizes", spec := "devSizes", apart := false, narrowed := true }
def DevSizesUptoSaid : Prop := devSizesUptoRow.holds Try.pinned (OpenSpec.upto devSizesSpec)

/-- 'bursarlaw06.DevApart', WHERE WHAT IT READS IS OF BULK AT MOST 1048576: true; the input reads as it did. -/
def devApartUptoRow : OpenClaim := { program := "ytjbffahmjhbpjaa", sum := "58fc4cb7d72bf856758982b4534dceb9f93daf2ecdcc1f19cd85c1cd185791fc", func := "bursar/bursarlaw06.DevApart", spec := "devApart", unfollowed := true, recurses := true, apart := false, narrowed := true }
def DevApartUptoSaid : Prop := devApartUptoRow.holds Try.pinned (OpenSpec.upto devApartSpec)

/-- 'bursarlaw06.DevLeaves', WHERE WHAT IT READS IS OF BULK AT MOST 1048576: true; the input reads as it did. -/
def devLeavesUptoRow : OpenClaim := { program := "ytjbffahmjhbpjaa", sum := "58fc4cb7d72bf856758982b4534dceb9f93daf2ecdcc1f19cd85c1cd185791fc", func := "bursar/bursarlaw06.DevLeaves", spec := "devLeaves", unfollowed := true, recurses := true, apart := false, narrowed := true }
def DevLeavesUptoSaid : Prop := devLeavesUptoRow.holds Try.pinned (OpenSpec.upto devLeavesSpec)

/-- 'bursarlaw06.DevRefuses', WHERE WHAT IT READS IS OF BULK AT MOST 1048576: true; the input reads as it did. -/
def devRefusesUptoRow : OpenClaim := { program := "ytjbffahmjhbpjaa", sum := "58fc4cb7d72bf856758982b4534dceb9f93daf2ecdcc1f19cd85c1cd185791fc", func := "bursar/bursarlaw06.DevRefuses", spec := "devRefuses", unfollowed := true, recurses := true, apart := false, narrowed := true }
def DevRefusesUptoSaid : Prop := devRefusesUptoRow.holds Try.pinned (OpenSpec.upto devRefusesSpec)

/-- 'bursarlaw06.DevStays', WHERE WHAT IT READS IS OF BULK AT MOST 1048576: true; the input reads as it did. -/
def devStaysUptoRow : OpenClaim := { program := "ytjbffahmjhbpjaa", sum := "58fc4cb7d72bf856758982b4534dceb9f93daf2ecdcc1f19cd85c1cd185791fc", func := "bursar/bursarlaw06.DevStays", spec := "devStays", unfollowed := true, recurses := true, apart := false, narrowed := true }
def DevStaysUptoSaid : Prop := devStaysUptoRow.holds Try.pinned (OpenSpec.upto devStaysSpec)

/-- 'bursarlaw06.DevArmed', WHERE WHAT IT READS IS OF BULK AT MOST 1048576: true; the input reads as it did. -/
def devArmedUptoRow : OpenClaim := { program := "ytjbffahmjhbpjaa", sum := "58fc4cb7d72bf856758982b4534dceb9f93daf2ecdcc1f19cd85c1cd185791fc", func := "bursar/bursarlaw06.DevArmed", spec := "devArmed", unfollowed := true, recurses := true, apart := false, narrowed := true }
def DevArmedUptoSaid : Prop := devArmedUptoRow.holds Try.pinned (OpenSpec.upto devArmedSpec)

/-- 'bursarlaw06.DevPlays', WHERE WHAT IT READS IS OF BULK AT MOST 1048576: true; the input reads as it did. -/
def devPlaysUptoRow : OpenClaim := { program := "ytjbffahmjhbpjaa", sum := "58fc4cb7d72bf856758982b4534dceb9f93daf2ecdcc1f19cd85c1cd185791fc", func := "bursar/bursarlaw06.DevPlays", spec := "devPlays", unfollowed := true, recurses := true, apart := false, narrowed := true }
def DevPlaysUptoSaid : Prop := devPlaysUptoRow.holds Try.pinned (OpenSpec.upto devPlaysSpec)

/-- 'bursarlaw06.DevCarried', WHERE WHAT IT READS IS OF BULK AT MOST 1048576: true; the input reads as it did. -/
def devCarriedUptoRow : OpenClaim := { program := "ytjbffahmjhbpjaa", sum := "58fc4cb7d72bf856758982b4534dceb9f93daf2ecdcc1f19cd85c1cd185791fc", func := "bursar/bursarlaw06.DevCarried", spec := "devCarried", unfollowed := true, recurses := true, apart := false, narrowed := true }
def DevCarriedUptoSaid : Prop := devCarriedUptoRow.holds Try.pinned (OpenSpec.upto devCarriedSpec)

end Rows
end Go.Proofs.Ytjbffahmjhbpjaa
