/-
  NARROWER THAN 'FOR EVERY INPUT', by the rows' own cells (each row's printed sentence says how): KeySplits: laid · KeyCompares: laid · KeyBack: laid · KeyOrder: laid · KeyMemory: laid · KeyMakes: laid · KeyRanges: laid · KeyBetween: laid · KeyNumbers: laid · KeyParts: laid.
  DERIVED. THE GIVEN ROWS OF THIS SEAT. 10 by the template 'for every input the law returns true; each argument reads behind the call as it read before'; 0 by the template 'total and deterministic' (their statements: YtdgcfhlfihpbiaaDoorTotals.lean).
  GIVEN WITH THE SEED: the statements are not yours to turn. If you find one false, say at which input.
  Laid BY PROGRAM, IN A SANDBOX (cutbox-rows.mjs): the forced cells as the released guide's own fill.sh prints them over the translation 7c2af2a345b71719… (all of the seat's roots in one cut). By AI agents, Wed Nov 11 2026. No macro, syntax, notation, axiom, sorry.
-/
import Derived.Test.YtdgcfhlfihpbiaaDoorChecked
import GoSem.PinnedTables
import GoSem.Claim
import GoSem.ClaimJoined
import GoSem.ClaimMapViews
import Derived.JoinedTies
import Derived.KernelRfl
namespace Go.Proofs.YtdgcfhlfihpbiaaDoor
/- THE CELL 'sum', in the pinned program and in every row, IS THE sha256 OF THE DUMP (.gsa) THAT YtdgcfhlfihpbiaaDoorProg.lean LOADS. Nothing in Lean hashes anything: it is a label: what it is worth is what the hold of that sum in a sandbox is worth. -/
noncomputable def Tryd.pinned : Pinned := { name := "ytdgcfhlfihpbiaadoor", sum := "7c2af2a345b7171963baeaff6120307136df6e9c775791c805e8224e189970be", checked := Tryd.checked }
namespace Rows
def none {H : Type} : Left H := { results := [], args := [] }

/- WHAT THE LISTED PACKAGE-LEVEL VARIABLES READ AS WHEN THE CALL BEGINS. Each datum BY PROGRAM (the guide's laid-datum.mjs) off the statement by which the dump's own 'gosem.cut.vars' lays the variable. In a bare row this is a premise. The card (YtdgcfhlfihpbiaaDoorCards.lean) ties it to the program's text. -/
def laid_unicode_utf8_acceptRanges {H : Type} : DataW H := .agg [.agg [.lit (.int .u8 128), .lit (.int .u8 191)], .agg [.lit (.int .u8 160), .lit (.int .u8 191)], .agg [.lit (.int .u8 128), .lit (.int .u8 159)], .agg [.lit (.int .u8 144), .lit (.int .u8 191)], .agg [.lit (.int .u8 128), .lit (.int .u8 143)], .agg [.lit (.int .u8 0), .lit (.int .u8 0)], .agg [.lit (.int .u8 0), .lit (.int .u8 0)], .agg [.lit (.int .u8 0), .lit (.int .u8 0)], .agg [.lit (.int .u8 0), .lit (.int .u8 0)], .agg [.lit (.int .u8 0), .lit (.int .u8 0)], .agg [.lit (.int .u8 0), .lit (.int .u8 0)], .agg [.lit (.int .u8 0), .lit (.int .u8 0)], .agg [.lit (.int .u8 0), .lit (.int .u8 0)], .agg [.lit (.int .u8 0), .lit (.int .u8 0)], .agg [.lit (.int .u8 0), .lit (.int .u8 0)], .agg [.lit (.int .u8 0), .lit (.int .u8 0)]]
/-- One of Go's own tables, pinned by name: the form's constant. -/
def laid_unicode_utf8_first : DataW Unit := Go.Pinned.utf8First

/-- 'bursarlaw05.KeySplits': WHATEVER THE INPUT: true; the input reads as it did. -/
def keySplitsSpec : ChangeSpec := { name := "keySplits", fn := fun _ => fun
  | [d] => { results := [.lit (.bool true)], args := [d] }
  | _ => none }
def keySplitsRow : OpenClaim := { program := "ytdgcfhlfihpbiaadoor", sum := "7c2af2a345b7171963baeaff6120307136df6e9c775791c805e8224e189970be", func := "bursar/bursarlaw05.KeySplits", spec := "keySplits", inPlace := ["internal/bytealg.CountString", "internal/bytealg.IndexByteString", "internal/bytealg.IndexString", "internal/abi.NoEscape", "internal/bytealg.MakeNoZero"], named := ["internal/bytealg.MaxLen", "unicode/utf8.first", "unicode/utf8.acceptRanges"], apart := false, laid := [("unicode/utf8.acceptRanges", laid_unicode_utf8_acceptRanges), ("unicode/utf8.first", laid_unicode_utf8_first)] }
def KeySplitsSaid : Prop := keySplitsRow.holds Tryd.pinned (OpenSpec.ofChange keySplitsSpec)

/-- ITS FALSE NEIGHBOUR: 'it returns false'. Refute it at one input. -/
def keySplitsWrong : ChangeSpec := { name := "keySplits", fn := fun _ => fun
  | [d] => { results := [.lit (.bool false)], args := [d] }
  | _ => none }
def KeySplitsWrongFalsely : Prop := keySplitsRow.holds Tryd.pinned (OpenSpec.ofChange keySplitsWrong)

/-- 'bursarlaw05.KeyCompares': WHATEVER THE INPUT: true; the input reads as it did. -/
def keyComparesSpec : ChangeSpec := { name := "keyCompares", fn := fun _ => fun
  | [d1, d2] => { results := [.lit (.bool true)], args := [d1, d2] }
  | _ => none }
def keyComparesRow : OpenClaim := { program := "ytdgcfhlfihpbiaadoor", sum := "7c2af2a345b7171963baeaff6120307136df6e9c775791c805e8224e189970be", func := "bursar/bursarlaw05.KeyCompares", spec := "keyCompares", inPlace := ["internal/bytealg.CountString", "internal/bytealg.IndexByteString", "internal/bytealg.IndexString", "internal/abi.NoEscape", "internal/bytealg.MakeNoZero"], named := ["internal/bytealg.MaxLen", "unicode/utf8.first", "unicode/utf8.acceptRanges"], apart := false, laid := [("unicode/utf8.acceptRanges", laid_unicode_utf8_acceptRanges), ("unicode/utf8.first", laid_unicode_utf8_first)] }
def KeyComparesSaid : Prop := keyComparesRow.holds Tryd.pinned (OpenSpec.ofChange keyComparesSpec)

/-- ITS FALSE NEIGHBOUR: 'it returns false'. Refute it at one input. -/
def keyComparesWrong : ChangeSpec := { name := "keyCompares", fn := fun _ => fun
  | [d1, d2] => { results := [.lit (.bool false)], args := [d1, d2] }
  | _ => none }
def KeyComparesWrongFalsely : Prop := keyComparesRow.holds Tryd.pinned (OpenSpec.ofChange keyComparesWrong)

/-- 'bursarlaw05.KeyBack': WHATEVER THE INPUT: true; the input reads as it did. -/
def keyBackSpec : ChangeSpec := { name := "keyBack", fn := fun _ => fun
  | [d1, d2] => { results := [.lit (.bool true)], args := [d1, d2] }
  | _ => none }
def keyBackRow : OpenClaim := { program := "ytdgcfhlfihpbiaadoor", sum := "7c2af2a345b7171963baeaff6120307136df6e9c775791c805e8224e189970be", func := "bursar/bursarlaw05.KeyBack", spec := "keyBack", inPlace := ["internal/bytealg.CountString", "internal/bytealg.IndexByteString", "internal/bytealg.IndexString", "internal/abi.NoEscape", "internal/bytealg.MakeNoZero"], named := ["internal/bytealg.MaxLen", "unicode/utf8.first", "unicode/utf8.acceptRanges"], apart := false, laid := [("unicode/utf8.acceptRanges", laid_unicode_utf8_acceptRanges), ("unicode/utf8.first", laid_unicode_utf8_first)] }
def KeyBackSaid : Prop := keyBackRow.holds Tryd.pinned (OpenSpec.ofChange keyBackSpec)

/-- ITS FALSE NEIGHBOUR: 'it returns false'. Refute it at one input. -/
def keyBackWrong : ChangeSpec := { name := "keyBack", fn := fun _ => fun
  | [d1, d2] => { results := [.lit (.bool false)], args := [d1, d2] }
  | _ => none }
def KeyBackWrongFalsely : Prop := keyBackRow.holds Tryd.pinned (OpenSpec.ofChange keyBackWrong)

/-- 'bursarlaw05.KeyOrder': WHATEVER THE INPUT: true; the input reads as it did. -/
def keyOrderSpec : ChangeSpec := { name := "keyOrder", fn := fun _ => fun
  | [d1, d2] => { results := [.lit (.bool true)], args := [d1, d2] }
  | _ => none }
def keyOrderRow : OpenClaim := { program := "ytdgcfhlfihpbiaadoor", sum := "7c2af2a345b7171963baeaff6120307136df6e9c775791c805e8224e189970be", func := "bursar/bursarlaw05.KeyOrder", spec := "keyOrder", inPlace := ["internal/bytealg.CountString", "internal/bytealg.IndexByteString", "internal/bytealg.IndexString", "internal/abi.NoEscape", "internal/bytealg.MakeNoZero"], named := ["internal/bytealg.MaxLen", "unicode/utf8.first", "unicode/utf8.acceptRanges"], apart := false, laid := [("unicode/utf8.acceptRanges", laid_unicode_utf8_acceptRanges), ("unicode/utf8.first", laid_unicode_utf8_first)] }
def KeyOrderSaid : Prop := keyOrderRow.holds Tryd.pinned (OpenSpec.ofChange keyOrderSpec)

/-- ITS FALSE NEIGHBOUR: 'it returns false'. Refute it at one input. -/
def keyOrderWrong : ChangeSpec := { name := "keyOrder", fn := fun _ => fun
  | [d1, d2] => { results := [.lit (.bool false)], args := [d1, d2] }
  | _ => none }
def KeyOrderWrongFalsely : Prop := keyOrderRow.holds Tryd.pinned (OpenSpec.ofChange keyOrderWrong)

/-- 'bursarlaw05.KeyMemory': WHATEVER THE INPUT: true; the input reads as it did. -/
def keyMemorySpec : ChangeSpec := { name := "keyMemory", fn := fun _ => fun
  | [d] => { results := [.lit (.bool true)], args := [d] }
  | _ => none }
def keyMemoryRow : OpenClaim := { program := "ytdgcfhlfihpbiaadoor", sum := "7c2af2a345b7171963baeaff6120307136df6e9c775791c805e8224e189970be", func := "bursar/bursarlaw05.KeyMemory", spec := "keyMemory", inPlace := ["internal/bytealg.CountString", "internal/bytealg.IndexByteString", "internal/bytealg.IndexString", "internal/abi.NoEscape", "internal/bytealg.MakeNoZero"], named := ["internal/bytealg.MaxLen", "unicode/utf8.first", "unicode/utf8.acceptRanges"], apart := false, laid := [("unicode/utf8.acceptRanges", laid_unicode_utf8_acceptRanges), ("unicode/utf8.first", laid_unicode_utf8_first)] }
def KeyMemorySaid : Prop := keyMemoryRow.holds Tryd.pinned (OpenSpec.ofChange keyMemorySpec)

/-- ITS FALSE NEIGHBOUR: 'it returns false'. Refute it at one input. -/
def keyMemoryWrong : ChangeSpec := { name := "keyMemory", fn := fun _ => fun
  | [d] => { results := [.lit (.bool false)], args := [d] }
  | _ => none }
def KeyMemoryWrongFalsely : Prop := keyMemoryRow.holds Tryd.pinned (OpenSpec.ofChange keyMemoryWrong)

/-- 'bursarlaw05.KeyMakes': WHATEVER THE INPUT: true; the input reads as it did. -/
def keyMakesSpec : ChangeSpec := { name := "keyMakes", fn := fun _ => fun
  | [d] => { results := [.lit (.bool true)], args := [d] }
  | _ => none }
def keyMakesRow : OpenClaim := { program := "ytdgcfhlfihpbiaadoor", sum := "7c2af2a345b7171963baeaff6120307136df6e9c775791c805e8224e189970be", func := "bursar/bursarlaw05.KeyMakes", spec := "keyMakes", inPlace := ["internal/bytealg.CountString", "internal/bytealg.IndexByteString", "internal/bytealg.IndexString", "internal/abi.NoEscape", "internal/bytealg.MakeNoZero"], named := ["internal/bytealg.MaxLen", "unicode/utf8.first", "unicode/utf8.acceptRanges"], apart := false, laid := [("unicode/utf8.acceptRanges", laid_unicode_utf8_acceptRanges), ("unicode/utf8.first", laid_unicode_utf8_first)] }
def KeyMakesSaid : Prop := keyMakesRow.holds Tryd.pinned (OpenSpec.ofChange keyMakesSpec)

/-- ITS FALSE NEIGHBOUR: 'it returns false'. Refute it at one input. -/
def keyMakesWrong : ChangeSpec := { name := "keyMakes", fn := fun _ => fun
  | [d] => { results := [.lit (.bool false)], args := [d] }
  | _ => none }
def KeyMakesWrongFalsely : Prop := keyMakesRow.holds Tryd.pinned (OpenSpec.ofChange keyMakesWrong)

/-- 'bursarlaw05.KeyRanges': WHATEVER THE INPUT: true; the input reads as it did. -/
def keyRangesSpec : ChangeSpec := { name := "keyRanges", fn := fun _ => fun
  | [d1, d2, d3] => { results := [.lit (.bool true)], args := [d1, d2, d3] }
  | _ => none }
def keyRangesRow : OpenClaim := { program := "ytdgcfhlfihpbiaadoor", sum := "7c2af2a345b7171963baeaff6120307136df6e9c775791c805e8224e189970be", func := "bursar/bursarlaw05.KeyRanges", spec := "keyRanges", inPlace := ["internal/bytealg.CountString", "internal/bytealg.IndexByteString", "internal/bytealg.IndexString", "internal/abi.NoEscape", "internal/bytealg.MakeNoZero"], named := ["internal/bytealg.MaxLen", "unicode/utf8.first", "unicode/utf8.acceptRanges"], apart := false, laid := [("unicode/utf8.acceptRanges", laid_unicode_utf8_acceptRanges), ("unicode/utf8.first", laid_unicode_utf8_first)] }
def KeyRangesSaid : Prop := keyRangesRow.holds Tryd.pinned (OpenSpec.ofChange keyRangesSpec)

/-- ITS FALSE NEIGHBOUR: 'it returns false'. Refute it at one input. -/
def keyRangesWrong : ChangeSpec := { name := "keyRanges", fn := fun _ => fun
  | [d1, d2, d3] => { results := [.lit (.bool false)], args := [d1, d2, d3] }
  | _ => none }
def KeyRangesWrongFalsely : Prop := keyRangesRow.holds Tryd.pinned (OpenSpec.ofChange keyRangesWrong)

/-- 'bursarlaw05.KeyBetween': WHATEVER THE INPUT: true; the input reads as it did. -/
def keyBetweenSpec : ChangeSpec := { name := "keyBetween", fn := fun _ => fun
  | [d1, d2, d3, d4, d5] => { results := [.lit (.bool true)], args := [d1, d2, d3, d4, d5] }
  | _ => none }
def keyBetweenRow : OpenClaim := { program := "ytdgcfhlfihpbiaadoor", sum := "7c2af2a345b7171963baeaff6120307136df6e9c775791c805e8224e189970be", func := "bursar/bursarlaw05.KeyBetween", spec := "keyBetween", inPlace := ["internal/bytealg.CountString", "internal/bytealg.IndexByteString", "internal/bytealg.IndexString", "internal/abi.NoEscape", "internal/bytealg.MakeNoZero"], named := ["internal/bytealg.MaxLen", "unicode/utf8.first", "unicode/utf8.acceptRanges"], apart := false, laid := [("unicode/utf8.acceptRanges", laid_unicode_utf8_acceptRanges), ("unicode/utf8.first", laid_unicode_utf8_first)] }
def KeyBetweenSaid : Prop := keyBetweenRow.holds Tryd.pinned (OpenSpec.ofChange keyBetweenSpec)

/-- ITS FALSE NEIGHBOUR: 'it returns false'. Refute it at one input. -/
def keyBetweenWrong : ChangeSpec := { name := "keyBetween", fn := fun _ => fun
  | [d1, d2, d3, d4, d5] => { results := [.lit (.bool false)], args := [d1, d2, d3, d4, d5] }
  | _ => none }
def KeyBetweenWrongFalsely : Prop := keyBetweenRow.holds Tryd.pinned (OpenSpec.ofChange keyBetweenWrong)

/-- 'bursarlaw05.KeyNumbers': WHATEVER THE INPUT: true; the input reads as it did. -/
def keyNumbersSpec : ChangeSpec := { name := "keyNumbers", fn := fun _ => fun
  | [d1, d2, d3] => { results := [.lit (.bool true)], args := [d1, d2, d3] }
  | _ => none }
def keyNumbersRow : OpenClaim := { program := "ytdgcfhlfihpbiaadoor", sum := "7c2af2a345b7171963baeaff6120307136df6e9c775791c805e8224e189970be", func := "bursar/bursarlaw05.KeyNumbers", spec := "keyNumbers", inPlace := ["internal/bytealg.CountString", "internal/bytealg.IndexByteString", "internal/bytealg.IndexString", "internal/abi.NoEscape", "internal/bytealg.MakeNoZero"], named := ["internal/bytealg.MaxLen", "unicode/utf8.first", "unicode/utf8.acceptRanges"], apart := false, laid := [("unicode/utf8.acceptRanges", laid_unicode_utf8_acceptRanges), ("unicode/utf8.first", laid_unicode_utf8_first)] }
def KeyNumbersSaid : Prop := keyNumbersRow.holds Tryd.pinned (OpenSpec.ofChange keyNumbersSpec)

/-- ITS FALSE NEIGHBOUR: 'it returns false'. Refute it at one input. -/
def keyNumbersWrong : ChangeSpec := { name := "keyNumbers", fn := fun _ => fun
  | [d1, d2, d3] => { results := [.lit (.bool false)], args := [d1, d2, d3] }
  | _ => none }
def KeyNumbersWrongFalsely : Prop := keyNumbersRow.holds Tryd.pinned (OpenSpec.ofChange keyNumbersWrong)

/-- 'bursarlaw05.KeyParts': WHATEVER THE INPUT: true; the input reads as it did. -/
def keyPartsSpec : ChangeSpec := { name := "keyParts", fn := fun _ => fun
  | [d1, d2, d3, d4] => { results := [.lit (.bool true)], args := [d1, d2, d3, d4] }
  | _ => none }
def keyPartsRow : OpenClaim := { program := "ytdgcfhlfihpbiaadoor", sum := "7c2af2a345b7171963baeaff6120307136df6e9c775791c805e8224e189970be", func := "bursar/bursarlaw05.KeyParts", spec := "keyParts", inPlace := ["internal/bytealg.CountString", "internal/bytealg.IndexByteString", "internal/bytealg.IndexString", "internal/abi.NoEscape", "internal/bytealg.MakeNoZero"], named := ["internal/bytealg.MaxLen", "unicode/utf8.first", "unicode/utf8.acceptRanges"], apart := false, laid := [("unicode/utf8.acceptRanges", laid_unicode_utf8_acceptRanges), ("unicode/utf8.first", laid_unicode_utf8_first)] }
def KeyPartsSaid : Prop := keyPartsRow.holds Tryd.pinned (OpenSpec.ofChange keyPartsSpec)

/-- ITS FALSE NEIGHBOUR: 'it returns false'. Refute it at one input. -/
def keyPartsWrong : ChangeSpec := { name := "keyParts", fn := fun _ => fun
  | [d1, d2, d3, d4] => { results := [.lit (.bool false)], args := [d1, d2, d3, d4] }
  | _ => none }
def KeyPartsWrongFalsely : Prop := keyPartsRow.holds Tryd.pinned (OpenSpec.ofChange keyPartsWrong)

/- THE SECOND FORM. 'bulk': how many values and letters a reading holds, each counted each time it is reached (what is shared counts as often as it is met; a slice's spare places count too). A statement '..UptoSaid' is the law's where the arguments, and the package variables that the reading takes, are together of bulk at most 1048576: NARROWER than '..Said'. Prove '..Said' where nothing that the law and all that it calls make is longer than what came in: it says more and counts as full. Else prove '..UptoSaid'. A law counts once. -/
mutual
def uptoBulk {H : Type} : DataW H → Nat
  | .lit (.string bytes) => bytes.length + 1
  | .lit _ => 1
  | .nil => 1
  | .ptr d => uptoBulk d + 1
  | .slice elems spare => uptoBulkAll elems + uptoBulkAll spare + 1
  | .agg parts => uptoBulkAll parts + 1
  | .iface _ d => uptoBulk d + 1
  | .map entries => uptoBulkEntries entries + 1
  | .held _ => 1
def uptoBulkAll {H : Type} : List (DataW H) → Nat
  | [] => 0
  | d :: r => uptoBulk d + uptoBulkAll r
def uptoBulkEntries {H : Type} : List (Lit × DataW H) → Nat
  | [] => 0
  | x :: r => uptoBulkEntry x + uptoBulkEntries r
def uptoBulkEntry {H : Type} : Lit × DataW H → Nat
  | (.string bytes, d) => bytes.length + uptoBulk d + 1
  | (_, d) => uptoBulk d + 1
 end
def uptoSmall : (H : Type) → List (DataW H) → Bool := fun _ ds => decide (uptoBulkAll ds ≤ 1048576)
def OpenSpec.upto (s : _root_.Go.ChangeSpec) : _root_.Go.OpenSpec := { _root_.Go.OpenSpec.ofChange s with cond := some uptoSmall }

/-- 'bursarlaw05.KeySplits', WHERE WHAT IT READS IS OF BULK AT MOST 1048576: true; the input reads as it did. -/
def keySplitsUptoRow : OpenClaim := { program := "ytdgcfhlfihpbiaadoor", sum := "7c2af2a345b7171963baeaff6120307136df6e9c775791c805e8224e189970be", func := "bursar/bursarlaw05.KeySplits", spec := "keySplits", inPlace := ["internal/bytealg.CountString", "internal/bytealg.IndexByteString", "internal/bytealg.IndexString", "internal/abi.NoEscape", "internal/bytealg.MakeNoZero"], named := ["internal/bytealg.MaxLen", "unicode/utf8.first", "unicode/utf8.acceptRanges"], apart := false, laid := [("unicode/utf8.acceptRanges", laid_unicode_utf8_acceptRanges), ("unicode/utf8.first", laid_unicode_utf8_first)], narrowed := true }
def KeySplitsUptoSaid : Prop := keySplitsUptoRow.holds Tryd.pinned (OpenSpec.upto keySplitsSpec)

/-- 'bursarlaw05.KeyCompares', WHERE WHAT IT READS IS OF BULK AT MOST 1048576: true; the input reads as it did. -/
def keyComparesUptoRow : OpenClaim := { program := "ytdgcfhlfihpbiaadoor", sum := "7c2af2a345b7171963baeaff6120307136df6e9c775791c805e8224e189970be", func := "bursar/bursarlaw05.KeyCompares", spec := "keyCompares", inPlace := ["internal/bytealg.CountString", "internal/bytealg.IndexByteString", "internal/bytealg.IndexString", "internal/abi.NoEscape", "internal/bytealg.MakeNoZero"], named := ["internal/bytealg.MaxLen", "unicode/utf8.first", "unicode/utf8.acceptRanges"], apart := false, laid := [("unicode/utf8.acceptRanges", laid_unicode_utf8_acceptRanges), ("unicode/utf8.first", laid_unicode_utf8_first)], narrowed := true }
def KeyComparesUptoSaid : Prop := keyComparesUptoRow.holds Tryd.pinned (OpenSpec.upto keyComparesSpec)

/-- 'bursarlaw05.KeyBack', WHERE WHAT IT READS IS OF BULK AT MOST 1048576: true; the input reads as it did. -/
def keyBackUptoRow : OpenClaim := { program := "ytdgcfhlfihpbiaadoor", sum := "7c2af2a345b7171963baeaff6120307136df6e9c775791c805e8224e189970be", func := "bursar/bursarlaw05.KeyBack", spec := "keyBack", inPlace := ["internal/bytealg.CountString", "internal/bytealg.IndexByteString", "internal/bytealg.IndexString", "internal/abi.NoEscape", "internal/bytealg.MakeNoZero"], named := ["internal/bytealg.MaxLen", "unicode/utf8.first", "unicode/utf8.acceptRanges"], apart := false, laid := [("unicode/utf8.acceptRanges", laid_unicode_utf8_acceptRanges), ("unicode/utf8.first", laid_unicode_utf8_first)], narrowed := true }
def KeyBackUptoSaid : Prop := keyBackUptoRow.holds Tryd.pinned (OpenSpec.upto keyBackSpec)

/-- 'bursarlaw05.KeyOrder', WHERE WHAT IT READS IS OF BULK AT MOST 1048576: true; the input reads as it did. -/
def keyOrderUptoRow : OpenClaim := { program := "ytdgcfhlfihpbiaadoor", sum := "7c2af2a345b7171963baeaff6120307136df6e9c775791c805e8224e189970be", func := "bursar/bursarlaw05.KeyOrder", spec := "keyOrder", inPlace := ["internal/bytealg.CountString", "internal/bytealg.IndexByteString", "internal/bytealg.IndexString", "internal/abi.NoEscape", "internal/bytealg.MakeNoZero"], named := ["internal/bytealg.MaxLen", "unicode/utf8.first", "unicode/utf8.acceptRanges"], apart := false, laid := [("unicode/utf8.acceptRanges", laid_unicode_utf8_acceptRanges), ("unicode/utf8.first", laid_unicode_utf8_first)], narrowed := true }
def KeyOrderUptoSaid : Prop := keyOrderUptoRow.holds Tryd.pinned (OpenSpec.upto keyOrderSpec)

/-- 'bursarlaw05.KeyMemory', WHERE WHAT IT READS IS OF BULK AT MOST 1048576: true; the input reads as it did. -/
def keyMemoryUptoRow : OpenClaim := { program := "ytdgcfhlfihpbiaadoor", sum := "7c2af2a345b7171963baeaff6120307136df6e9c775791c805e8224e189970be", func := "bursar/bursarlaw05.KeyMemory", spec := "keyMemory", inPlace := ["internal/bytealg.CountString", "internal/bytealg.IndexByteString", "internal/bytealg.IndexString", "internal/abi.NoEscape", "internal/bytealg.MakeNoZero"], named := ["internal/bytealg.MaxLen", "unicode/utf8.first", "unicode/utf8.acceptRanges"], apart := false, laid := [("unicode/utf8.acceptRanges", laid_unicode_utf8_acceptRanges), ("unicode/utf8.first", laid_unicode_utf8_first)], narrowed := true }
def KeyMemoryUptoSaid : Prop := keyMemoryUptoRow.holds Tryd.pinned (OpenSpec.upto keyMemorySpec)

/-- 'bursarlaw05.KeyMakes', WHERE WHAT IT READS IS OF BULK AT MOST 1048576: true; the input reads as it did. -/
def keyMakesUptoRow : OpenClaim := { program := "ytdgcfhlfihpbiaadoor", sum := "7c2af2a345b7171963baeaff6120307136df6e9c775791c805e8224e189970be", func := "bursar/bursarlaw05.KeyMakes", spec := "keyMakes", inPlace := ["internal/bytealg.CountString", "internal/bytealg.IndexByteString", "internal/bytealg.IndexString", "internal/abi.NoEscape", "internal/bytealg.MakeNoZero"], named := ["internal/bytealg.MaxLen", "unicode/utf8.first", "unicode/utf8.acceptRanges"], apart := false, laid := [("unicode/utf8.acceptRanges", laid_unicode_utf8_acceptRanges), ("unicode/utf8.first", laid_unicode_utf8_first)], narrowed := true }
def KeyMakesUptoSaid : Prop := keyMakesUptoRow.holds Tryd.pinned (OpenSpec.upto keyMakesSpec)

/-- 'bursarlaw05.KeyRanges', WHERE WHAT IT READS IS OF BULK AT MOST 1048576: true; the input reads as it did. -/
def keyRangesUptoRow : OpenClaim := { program := "ytdgcfhlfihpbiaadoor", sum := "7c2af2a345b7171963baeaff6120307136df6e9c775791c805e8224e189970be", func := "bursar/bursarlaw05.KeyRanges", spec := "keyRanges", inPlace := ["internal/bytealg.CountString", "internal/bytealg.IndexByteString", "internal/bytealg.IndexString", "internal/abi.NoEscape", "internal/bytealg.MakeNoZero"], named := ["internal/bytealg.MaxLen", "unicode/utf8.first", "unicode/utf8.acceptRanges"], apart := false, laid := [("unicode/utf8.acceptRanges", laid_unicode_utf8_acceptRanges), ("unicode/utf8.first", laid_unicode_utf8_first)], narrowed := true }
def KeyRangesUptoSaid : Prop := keyRangesUptoRow.holds Tryd.pinned (OpenSpec.upto keyRangesSpec)

/-- 'bursarlaw05.KeyBetween', WHERE WHAT IT READS IS OF BULK AT MOST 1048576: true; the input reads as it did. -/
def keyBetweenUptoRow : OpenClaim := { program := "ytdgcfhlfihpbiaadoor", sum := "7c2af2a345b7171963baeaff6120307136df6e9c775791c805e8224e189970be", func := "bursar/bursarlaw05.KeyBetween", spec := "keyBetween", inPlace := ["internal/bytealg.CountString", "internal/bytealg.IndexByteString", "internal/bytealg.IndexString", "internal/abi.NoEscape", "internal/bytealg.MakeNoZero"], named := ["internal/bytealg.MaxLen", "unicode/utf8.first", "unicode/utf8.acceptRanges"], apart := false, laid := [("unicode/utf8.acceptRanges", laid_unicode_utf8_acceptRanges), ("unicode/utf8.first", laid_unicode_utf8_first)], narrowed := true }
def KeyBetweenUptoSaid : Prop := keyBetweenUptoRow.holds Tryd.pinned (OpenSpec.upto keyBetweenSpec)

/-- 'bursarlaw05.KeyNumbers', WHERE WHAT IT READS IS OF BULK AT MOST 1048576: true; the input reads as it did. -/
def keyNumbersUptoRow : OpenClaim := { program := "ytdgcfhlfihpbiaadoor", sum := "7c2af2a345b7171963baeaff6120307136df6e9c775791c805e8224e189970be", func := "bursar/bursarlaw05.KeyNumbers", spec := "keyNumbers", inPlace := ["internal/bytealg.CountString", "internal/bytealg.IndexByteString", "internal/bytealg.IndexString", "internal/abi.NoEscape", "internal/bytealg.MakeNoZero"], named := ["internal/bytealg.MaxLen", "unicode/utf8.first", "unicode/utf8.acceptRanges"], apart := false, laid := [("unicode/utf8.acceptRanges", laid_unicode_utf8_acceptRanges), ("unicode/utf8.first", laid_unicode_utf8_first)], narrowed := true }
def KeyNumbersUptoSaid : Prop := keyNumbersUptoRow.holds Tryd.pinned (OpenSpec.upto keyNumbersSpec)

/-- 'bursarlaw05.KeyParts', WHERE WHAT IT READS IS OF BULK AT MOST 1048576: true; the input reads as it did. -/
def keyPartsUptoRow : OpenClaim := { program := "ytdgcfhlfihpbiaadoor", sum := "7c2af2a345b7171963baeaff6120307136df6e9c775791c805e8224e189970be", func := "bursar/bursarlaw05.KeyParts", spec := "keyParts", inPlace := ["internal/bytealg.CountString", "internal/bytealg.IndexByteString", "internal/bytealg.IndexString", "internal/abi.NoEscape", "internal/bytealg.MakeNoZero"], named := ["internal/bytealg.MaxLen", "unicode/utf8.first", "unicode/utf8.acceptRanges"], apart := false, laid := [("unicode/utf8.acceptRanges", laid_unicode_utf8_acceptRanges), ("unicode/utf8.first", laid_unicode_utf8_first)], narrowed := true }
def KeyPartsUptoSaid : Prop := keyPartsUptoRow.holds Tryd.pinned (OpenSpec.upto keyPartsSpec)

end Rows
end Go.Proofs.YtdgcfhlfihpbiaaDoor
