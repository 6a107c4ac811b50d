/-
  DERIVED. GIVEN WITH THE SEED: THE CARDS: each row of YtghfkpddkmaflaaDoorRows.lean that lists a variable, with what it lists TIED to the program's text (the seventh form; the later family's looks); each row that meets fmt, with fmt's text TOLD by the authors' own Lean function (tested against real Go, not proved from fmt's source: count such statements apart). THE CARD IS WHAT COUNTS. Prove the row's statement (the work); the ties are given (YtghfkpddkmaflaaDoorTie.lean); close each card by the builder's one call (the guide's Derived/Test/ToyasCard.lean, 'card_holds'). Laid BY PROGRAM, IN A SANDBOX (cutbox-door.mjs). By AI agents, Wed Nov 11 2026. No macro, syntax, notation, axiom, sorry.
-/
import Derived.Test.YtghfkpddkmaflaaDoorRows
import GoSem.ClaimSeven
namespace Go.Proofs.YtghfkpddkmaflaaDoor
namespace Rows

/-- THE TIED CARD OF 'taffraillaw11.ListingLines'. -/
def listingLinesCard : Claim7 := { stood := { row := listingLinesRow, standIns := [], harness := (true, "a0325daf1b6bd8cbf26ac4f2cb826d02ced5621466d53ebbe2ae98cc4de6b5f8"), looks := true }, kinds := [], alts := [], laidByText := true, laidKinds := [.data, .data, .data, .data, .sentinel, .sentinel, .pinned], laidTests := true, laidLooks := .later }
def ListingLinesCardSaid : Prop := Claim7.holds Tryd.pinned (.plain (OpenSpec.ofChange listingLinesSpec)) listingLinesCard

/-- THE TIED CARD OF 'taffraillaw11.ListingReads'. -/
def listingReadsCard : Claim7 := { stood := { row := listingReadsRow, standIns := [], harness := (true, "a0325daf1b6bd8cbf26ac4f2cb826d02ced5621466d53ebbe2ae98cc4de6b5f8"), looks := true }, kinds := [], alts := [], laidByText := true, laidKinds := [.data, .data, .data, .data, .sentinel, .sentinel, .pinned], laidTests := true, laidLooks := .later }
def ListingReadsCardSaid : Prop := Claim7.holds Tryd.pinned (.plain (OpenSpec.ofChange listingReadsSpec)) listingReadsCard

/-- THE TIED CARD OF 'taffraillaw11.ListingParts'. -/
def listingPartsCard : Claim7 := { stood := { row := listingPartsRow, standIns := [], harness := (true, "a0325daf1b6bd8cbf26ac4f2cb826d02ced5621466d53ebbe2ae98cc4de6b5f8"), looks := true }, kinds := [], alts := [], laidByText := true, laidKinds := [.data, .data, .data, .data, .sentinel, .sentinel, .pinned], laidTests := true, laidLooks := .later }
def ListingPartsCardSaid : Prop := Claim7.holds Tryd.pinned (.plain (OpenSpec.ofChange listingPartsSpec)) listingPartsCard

/-- THE TIED CARD OF 'taffraillaw11.ListingLong'. -/
def listingLongCard : Claim7 := { stood := { row := listingLongRow, standIns := [], harness := (true, "a0325daf1b6bd8cbf26ac4f2cb826d02ced5621466d53ebbe2ae98cc4de6b5f8"), looks := true }, kinds := [], alts := [], laidByText := true, laidKinds := [.data, .data, .data, .data, .sentinel, .sentinel, .pinned], laidTests := true, laidLooks := .later }
def ListingLongCardSaid : Prop := Claim7.holds Tryd.pinned (.plain (OpenSpec.ofChange listingLongSpec)) listingLongCard

/-- THE TIED CARD OF 'taffraillaw11.ListingPrints'. -/
def listingPrintsCard : Claim7 := { stood := { row := listingPrintsRow, standIns := [], harness := (true, "a0325daf1b6bd8cbf26ac4f2cb826d02ced5621466d53ebbe2ae98cc4de6b5f8"), looks := true }, kinds := [], alts := [], laidByText := true, laidKinds := [.data, .data, .data, .data, .sentinel, .sentinel, .pinned], laidTests := true, laidLooks := .later }
def ListingPrintsCardSaid : Prop := Claim7.holds Tryd.pinned (.plain (OpenSpec.ofChange listingPrintsSpec)) listingPrintsCard

/-- THE TIED CARD OF 'taffraillaw11.ListingBack'. -/
def listingBackCard : Claim7 := { stood := { row := listingBackRow, standIns := [], harness := (true, "a0325daf1b6bd8cbf26ac4f2cb826d02ced5621466d53ebbe2ae98cc4de6b5f8"), looks := true }, kinds := [], alts := [], laidByText := true, laidKinds := [.data, .data, .data, .data, .sentinel, .sentinel, .pinned], laidTests := true, laidLooks := .later }
def ListingBackCardSaid : Prop := Claim7.holds Tryd.pinned (.plain (OpenSpec.ofChange listingBackSpec)) listingBackCard

/-- THE SECOND FORM's CARD OF 'taffraillaw11.ListingLines'. -/
def listingLinesUptoCard : Claim7 := { stood := { row := listingLinesUptoRow, standIns := [], harness := (true, "a0325daf1b6bd8cbf26ac4f2cb826d02ced5621466d53ebbe2ae98cc4de6b5f8"), looks := true }, kinds := [], alts := [], laidByText := true, laidKinds := [.data, .data, .data, .data, .sentinel, .sentinel, .pinned], laidTests := true, laidLooks := .later }
def ListingLinesUptoCardSaid : Prop := Claim7.holds Tryd.pinned (.plain (OpenSpec.upto listingLinesSpec)) listingLinesUptoCard

/-- THE SECOND FORM's CARD OF 'taffraillaw11.ListingReads'. -/
def listingReadsUptoCard : Claim7 := { stood := { row := listingReadsUptoRow, standIns := [], harness := (true, "a0325daf1b6bd8cbf26ac4f2cb826d02ced5621466d53ebbe2ae98cc4de6b5f8"), looks := true }, kinds := [], alts := [], laidByText := true, laidKinds := [.data, .data, .data, .data, .sentinel, .sentinel, .pinned], laidTests := true, laidLooks := .later }
def ListingReadsUptoCardSaid : Prop := Claim7.holds Tryd.pinned (.plain (OpenSpec.upto listingReadsSpec)) listingReadsUptoCard

/-- THE SECOND FORM's CARD OF 'taffraillaw11.ListingParts'. -/
def listingPartsUptoCard : Claim7 := { stood := { row := listingPartsUptoRow, standIns := [], harness := (true, "a0325daf1b6bd8cbf26ac4f2cb826d02ced5621466d53ebbe2ae98cc4de6b5f8"), looks := true }, kinds := [], alts := [], laidByText := true, laidKinds := [.data, .data, .data, .data, .sentinel, .sentinel, .pinned], laidTests := true, laidLooks := .later }
def ListingPartsUptoCardSaid : Prop := Claim7.holds Tryd.pinned (.plain (OpenSpec.upto listingPartsSpec)) listingPartsUptoCard

/-- THE SECOND FORM's CARD OF 'taffraillaw11.ListingLong'. -/
def listingLongUptoCard : Claim7 := { stood := { row := listingLongUptoRow, standIns := [], harness := (true, "a0325daf1b6bd8cbf26ac4f2cb826d02ced5621466d53ebbe2ae98cc4de6b5f8"), looks := true }, kinds := [], alts := [], laidByText := true, laidKinds := [.data, .data, .data, .data, .sentinel, .sentinel, .pinned], laidTests := true, laidLooks := .later }
def ListingLongUptoCardSaid : Prop := Claim7.holds Tryd.pinned (.plain (OpenSpec.upto listingLongSpec)) listingLongUptoCard

/-- THE SECOND FORM's CARD OF 'taffraillaw11.ListingPrints'. -/
def listingPrintsUptoCard : Claim7 := { stood := { row := listingPrintsUptoRow, standIns := [], harness := (true, "a0325daf1b6bd8cbf26ac4f2cb826d02ced5621466d53ebbe2ae98cc4de6b5f8"), looks := true }, kinds := [], alts := [], laidByText := true, laidKinds := [.data, .data, .data, .data, .sentinel, .sentinel, .pinned], laidTests := true, laidLooks := .later }
def ListingPrintsUptoCardSaid : Prop := Claim7.holds Tryd.pinned (.plain (OpenSpec.upto listingPrintsSpec)) listingPrintsUptoCard

/-- THE SECOND FORM's CARD OF 'taffraillaw11.ListingBack'. -/
def listingBackUptoCard : Claim7 := { stood := { row := listingBackUptoRow, standIns := [], harness := (true, "a0325daf1b6bd8cbf26ac4f2cb826d02ced5621466d53ebbe2ae98cc4de6b5f8"), looks := true }, kinds := [], alts := [], laidByText := true, laidKinds := [.data, .data, .data, .data, .sentinel, .sentinel, .pinned], laidTests := true, laidLooks := .later }
def ListingBackUptoCardSaid : Prop := Claim7.holds Tryd.pinned (.plain (OpenSpec.upto listingBackSpec)) listingBackUptoCard
end Rows
end Go.Proofs.YtghfkpddkmaflaaDoor
