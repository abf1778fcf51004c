/-
  DERIVED. GIVEN WITH THE SEED: THE CARDS: each row of YtdgcfhlfihpbiaaDoorRows.lean that lists a variable, with what it lists TIED to the program's text (the seventh form; the later family's looks); each row that meets fmt, with fmt's text TOLD by the authors' own Lean function (tested against real Go, not proved from fmt's source: count such statements apart). THE CARD IS WHAT COUNTS. Prove the row's statement (the work); the ties are given (YtdgcfhlfihpbiaaDoorTie.lean); close each card by the builder's one call (the guide's Derived/Test/ToyasCard.lean, 'card_holds'). Laid BY PROGRAM, IN A SANDBOX (cutbox-door.mjs). By AI agents, Wed Nov 11 2026. No macro, syntax, notation, axiom, sorry.
-/
import Derived.Test.YtdgcfhlfihpbiaaDoorRows
import GoSem.ClaimSeven
namespace Go.Proofs.YtdgcfhlfihpbiaaDoor
namespace Rows

/-- THE TIED CARD OF 'bursarlaw05.KeySplits'. -/
def keySplitsCard : Claim7 := { stood := { row := keySplitsRow, standIns := [], harness := (true, "f456786e3ebc6cc94ab7936f7b2afdbc790096b5d81d16bfd86eaad39b09b374"), looks := false }, kinds := [], alts := [], laidByText := true, laidKinds := [.data, .pinned], laidTests := true, laidLooks := .later }
def KeySplitsCardSaid : Prop := Claim7.holds Tryd.pinned (.plain (OpenSpec.ofChange keySplitsSpec)) keySplitsCard

/-- THE TIED CARD OF 'bursarlaw05.KeyCompares'. -/
def keyComparesCard : Claim7 := { stood := { row := keyComparesRow, standIns := [], harness := (true, "f456786e3ebc6cc94ab7936f7b2afdbc790096b5d81d16bfd86eaad39b09b374"), looks := false }, kinds := [], alts := [], laidByText := true, laidKinds := [.data, .pinned], laidTests := true, laidLooks := .later }
def KeyComparesCardSaid : Prop := Claim7.holds Tryd.pinned (.plain (OpenSpec.ofChange keyComparesSpec)) keyComparesCard

/-- THE TIED CARD OF 'bursarlaw05.KeyBack'. -/
def keyBackCard : Claim7 := { stood := { row := keyBackRow, standIns := [], harness := (true, "f456786e3ebc6cc94ab7936f7b2afdbc790096b5d81d16bfd86eaad39b09b374"), looks := false }, kinds := [], alts := [], laidByText := true, laidKinds := [.data, .pinned], laidTests := true, laidLooks := .later }
def KeyBackCardSaid : Prop := Claim7.holds Tryd.pinned (.plain (OpenSpec.ofChange keyBackSpec)) keyBackCard

/-- THE TIED CARD OF 'bursarlaw05.KeyOrder'. -/
def keyOrderCard : Claim7 := { stood := { row := keyOrderRow, standIns := [], harness := (true, "f456786e3ebc6cc94ab7936f7b2afdbc790096b5d81d16bfd86eaad39b09b374"), looks := false }, kinds := [], alts := [], laidByText := true, laidKinds := [.data, .pinned], laidTests := true, laidLooks := .later }
def KeyOrderCardSaid : Prop := Claim7.holds Tryd.pinned (.plain (OpenSpec.ofChange keyOrderSpec)) keyOrderCard

/-- THE TIED CARD OF 'bursarlaw05.KeyMemory'. -/
def keyMemoryCard : Claim7 := { stood := { row := keyMemoryRow, standIns := [], harness := (true, "f456786e3ebc6cc94ab7936f7b2afdbc790096b5d81d16bfd86eaad39b09b374"), looks := false }, kinds := [], alts := [], laidByText := true, laidKinds := [.data, .pinned], laidTests := true, laidLooks := .later }
def KeyMemoryCardSaid : Prop := Claim7.holds Tryd.pinned (.plain (OpenSpec.ofChange keyMemorySpec)) keyMemoryCard

/-- THE TIED CARD OF 'bursarlaw05.KeyMakes'. -/
def keyMakesCard : Claim7 := { stood := { row := keyMakesRow, standIns := [], harness := (true, "f456786e3ebc6cc94ab7936f7b2afdbc790096b5d81d16bfd86eaad39b09b374"), looks := false }, kinds := [], alts := [], laidByText := true, laidKinds := [.data, .pinned], laidTests := true, laidLooks := .later }
def KeyMakesCardSaid : Prop := Claim7.holds Tryd.pinned (.plain (OpenSpec.ofChange keyMakesSpec)) keyMakesCard

/-- THE TIED CARD OF 'bursarlaw05.KeyRanges'. -/
def keyRangesCard : Claim7 := { stood := { row := keyRangesRow, standIns := [], harness := (true, "f456786e3ebc6cc94ab7936f7b2afdbc790096b5d81d16bfd86eaad39b09b374"), looks := false }, kinds := [], alts := [], laidByText := true, laidKinds := [.data, .pinned], laidTests := true, laidLooks := .later }
def KeyRangesCardSaid : Prop := Claim7.holds Tryd.pinned (.plain (OpenSpec.ofChange keyRangesSpec)) keyRangesCard

/-- THE TIED CARD OF 'bursarlaw05.KeyBetween'. -/
def keyBetweenCard : Claim7 := { stood := { row := keyBetweenRow, standIns := [], harness := (true, "f456786e3ebc6cc94ab7936f7b2afdbc790096b5d81d16bfd86eaad39b09b374"), looks := false }, kinds := [], alts := [], laidByText := true, laidKinds := [.data, .pinned], laidTests := true, laidLooks := .later }
def KeyBetweenCardSaid : Prop := Claim7.holds Tryd.pinned (.plain (OpenSpec.ofChange keyBetweenSpec)) keyBetweenCard

/-- THE TIED CARD OF 'bursarlaw05.KeyNumbers'. -/
def keyNumbersCard : Claim7 := { stood := { row := keyNumbersRow, standIns := [], harness := (true, "f456786e3ebc6cc94ab7936f7b2afdbc790096b5d81d16bfd86eaad39b09b374"), looks := false }, kinds := [], alts := [], laidByText := true, laidKinds := [.data, .pinned], laidTests := true, laidLooks := .later }
def KeyNumbersCardSaid : Prop := Claim7.holds Tryd.pinned (.plain (OpenSpec.ofChange keyNumbersSpec)) keyNumbersCard

/-- THE TIED CARD OF 'bursarlaw05.KeyParts'. -/
def keyPartsCard : Claim7 := { stood := { row := keyPartsRow, standIns := [], harness := (true, "f456786e3ebc6cc94ab7936f7b2afdbc790096b5d81d16bfd86eaad39b09b374"), looks := false }, kinds := [], alts := [], laidByText := true, laidKinds := [.data, .pinned], laidTests := true, laidLooks := .later }
def KeyPartsCardSaid : Prop := Claim7.holds Tryd.pinned (.plain (OpenSpec.ofChange keyPartsSpec)) keyPartsCard

/-- THE SECOND FORM's CARD OF 'bursarlaw05.KeySplits'. -/
def keySplitsUptoCard : Claim7 := { stood := { row := keySplitsUptoRow, standIns := [], harness := (true, "f456786e3ebc6cc94ab7936f7b2afdbc790096b5d81d16bfd86eaad39b09b374"), looks := false }, kinds := [], alts := [], laidByText := true, laidKinds := [.data, .pinned], laidTests := true, laidLooks := .later }
def KeySplitsUptoCardSaid : Prop := Claim7.holds Tryd.pinned (.plain (OpenSpec.upto keySplitsSpec)) keySplitsUptoCard

/-- THE SECOND FORM's CARD OF 'bursarlaw05.KeyCompares'. -/
def keyComparesUptoCard : Claim7 := { stood := { row := keyComparesUptoRow, standIns := [], harness := (true, "f456786e3ebc6cc94ab7936f7b2afdbc790096b5d81d16bfd86eaad39b09b374"), looks := false }, kinds := [], alts := [], laidByText := true, laidKinds := [.data, .pinned], laidTests := true, laidLooks := .later }
def KeyComparesUptoCardSaid : Prop := Claim7.holds Tryd.pinned (.plain (OpenSpec.upto keyComparesSpec)) keyComparesUptoCard

/-- THE SECOND FORM's CARD OF 'bursarlaw05.KeyBack'. -/
def keyBackUptoCard : Claim7 := { stood := { row := keyBackUptoRow, standIns := [], harness := (true, "f456786e3ebc6cc94ab7936f7b2afdbc790096b5d81d16bfd86eaad39b09b374"), looks := false }, kinds := [], alts := [], laidByText := true, laidKinds := [.data, .pinned], laidTests := true, laidLooks := .later }
def KeyBackUptoCardSaid : Prop := Claim7.holds Tryd.pinned (.plain (OpenSpec.upto keyBackSpec)) keyBackUptoCard

/-- THE SECOND FORM's CARD OF 'bursarlaw05.KeyOrder'. -/
def keyOrderUptoCard : Claim7 := { stood := { row := keyOrderUptoRow, standIns := [], harness := (true, "f456786e3ebc6cc94ab7936f7b2afdbc790096b5d81d16bfd86eaad39b09b374"), looks := false }, kinds := [], alts := [], laidByText := true, laidKinds := [.data, .pinned], laidTests := true, laidLooks := .later }
def KeyOrderUptoCardSaid : Prop := Claim7.holds Tryd.pinned (.plain (OpenSpec.upto keyOrderSpec)) keyOrderUptoCard

/-- THE SECOND FORM's CARD OF 'bursarlaw05.KeyMemory'. -/
def keyMemoryUptoCard : Claim7 := { stood := { row := keyMemoryUptoRow, standIns := [], harness := (true, "f456786e3ebc6cc94ab7936f7b2afdbc790096b5d81d16bfd86eaad39b09b374"), looks := false }, kinds := [], alts := [], laidByText := true, laidKinds := [.data, .pinned], laidTests := true, laidLooks := .later }
def KeyMemoryUptoCardSaid : Prop := Claim7.holds Tryd.pinned (.plain (OpenSpec.upto keyMemorySpec)) keyMemoryUptoCard

/-- THE SECOND FORM's CARD OF 'bursarlaw05.KeyMakes'. -/
def keyMakesUptoCard : Claim7 := { stood := { row := keyMakesUptoRow, standIns := [], harness := (true, "f456786e3ebc6cc94ab7936f7b2afdbc790096b5d81d16bfd86eaad39b09b374"), looks := false }, kinds := [], alts := [], laidByText := true, laidKinds := [.data, .pinned], laidTests := true, laidLooks := .later }
def KeyMakesUptoCardSaid : Prop := Claim7.holds Tryd.pinned (.plain (OpenSpec.upto keyMakesSpec)) keyMakesUptoCard

/-- THE SECOND FORM's CARD OF 'bursarlaw05.KeyRanges'. -/
def keyRangesUptoCard : Claim7 := { stood := { row := keyRangesUptoRow, standIns := [], harness := (true, "f456786e3ebc6cc94ab7936f7b2afdbc790096b5d81d16bfd86eaad39b09b374"), looks := false }, kinds := [], alts := [], laidByText := true, laidKinds := [.data, .pinned], laidTests := true, laidLooks := .later }
def KeyRangesUptoCardSaid : Prop := Claim7.holds Tryd.pinned (.plain (OpenSpec.upto keyRangesSpec)) keyRangesUptoCard

/-- THE SECOND FORM's CARD OF 'bursarlaw05.KeyBetween'. -/
def keyBetweenUptoCard : Claim7 := { stood := { row := keyBetweenUptoRow, standIns := [], harness := (true, "f456786e3ebc6cc94ab7936f7b2afdbc790096b5d81d16bfd86eaad39b09b374"), looks := false }, kinds := [], alts := [], laidByText := true, laidKinds := [.data, .pinned], laidTests := true, laidLooks := .later }
def KeyBetweenUptoCardSaid : Prop := Claim7.holds Tryd.pinned (.plain (OpenSpec.upto keyBetweenSpec)) keyBetweenUptoCard

/-- THE SECOND FORM's CARD OF 'bursarlaw05.KeyNumbers'. -/
def keyNumbersUptoCard : Claim7 := { stood := { row := keyNumbersUptoRow, standIns := [], harness := (true, "f456786e3ebc6cc94ab7936f7b2afdbc790096b5d81d16bfd86eaad39b09b374"), looks := false }, kinds := [], alts := [], laidByText := true, laidKinds := [.data, .pinned], laidTests := true, laidLooks := .later }
def KeyNumbersUptoCardSaid : Prop := Claim7.holds Tryd.pinned (.plain (OpenSpec.upto keyNumbersSpec)) keyNumbersUptoCard

/-- THE SECOND FORM's CARD OF 'bursarlaw05.KeyParts'. -/
def keyPartsUptoCard : Claim7 := { stood := { row := keyPartsUptoRow, standIns := [], harness := (true, "f456786e3ebc6cc94ab7936f7b2afdbc790096b5d81d16bfd86eaad39b09b374"), looks := false }, kinds := [], alts := [], laidByText := true, laidKinds := [.data, .pinned], laidTests := true, laidLooks := .later }
def KeyPartsUptoCardSaid : Prop := Claim7.holds Tryd.pinned (.plain (OpenSpec.upto keyPartsSpec)) keyPartsUptoCard
end Rows
end Go.Proofs.YtdgcfhlfihpbiaaDoor
