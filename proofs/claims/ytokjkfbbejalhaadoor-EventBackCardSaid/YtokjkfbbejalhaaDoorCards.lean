/-
  DERIVED. GIVEN WITH THE SEED: THE CARDS: each row of YtokjkfbbejalhaaDoorRows.lean that lists a variable, with what it lists TIED to the program's text (the seventh form; the later family's looks); each row that meets fmt, with fmt's text TOLD by the authors' own Lean function (tested against real Go, not proved from fmt's source: count such statements apart). THE CARD IS WHAT COUNTS. Prove the row's statement (the work); the ties are given (YtokjkfbbejalhaaDoorTie.lean); close each card by the builder's one call (the guide's Derived/Test/ToyasCard.lean, 'card_holds'). Laid BY PROGRAM, IN A SANDBOX (cutbox-door.mjs). By AI agents, Wed Nov 11 2026. No macro, syntax, notation, axiom, sorry.
-/
import Derived.Test.YtokjkfbbejalhaaDoorRows
import GoSem.ClaimSeven
namespace Go.Proofs.YtokjkfbbejalhaaDoor
namespace Rows

/-- THE TIED CARD OF 'taffraillaw05.EventChecks'. -/
def eventChecksCard : Claim7 := { stood := { row := eventChecksRow, standIns := [], harness := (true, "0e6b37beb6df22e556d4fe6f84661e8560f15c00e5e9afeebe224f1cf4495d31"), looks := true }, kinds := [], alts := [], laidByText := true, laidKinds := [.data, .data, .data, .data, .sentinel, .sentinel, .pinned], laidTests := true, laidLooks := .later }
def EventChecksCardSaid : Prop := Claim7.holds Tryd.pinned (.plain (OpenSpec.ofChange eventChecksSpec)) eventChecksCard

/-- THE TIED CARD OF 'taffraillaw05.EventNames'. -/
def eventNamesCard : Claim7 := { stood := { row := eventNamesRow, standIns := [], harness := (true, "0e6b37beb6df22e556d4fe6f84661e8560f15c00e5e9afeebe224f1cf4495d31"), looks := true }, kinds := [], alts := [], laidByText := true, laidKinds := [.data, .data, .data, .data, .sentinel, .sentinel, .pinned], laidTests := true, laidLooks := .later }
def EventNamesCardSaid : Prop := Claim7.holds Tryd.pinned (.plain (OpenSpec.ofChange eventNamesSpec)) eventNamesCard

/-- THE TIED CARD OF 'taffraillaw05.EventTexts'. -/
def eventTextsCard : Claim7 := { stood := { row := eventTextsRow, standIns := [], harness := (true, "0e6b37beb6df22e556d4fe6f84661e8560f15c00e5e9afeebe224f1cf4495d31"), looks := true }, kinds := [], alts := [], laidByText := true, laidKinds := [.data, .data, .data, .data, .sentinel, .sentinel, .pinned], laidTests := true, laidLooks := .later }
def EventTextsCardSaid : Prop := Claim7.holds Tryd.pinned (.plain (OpenSpec.ofChange eventTextsSpec)) eventTextsCard

/-- THE TIED CARD OF 'taffraillaw05.EventBack'. -/
def eventBackCard : Claim7 := { stood := { row := eventBackRow, standIns := [], harness := (true, "0e6b37beb6df22e556d4fe6f84661e8560f15c00e5e9afeebe224f1cf4495d31"), looks := true }, kinds := [], alts := [], laidByText := true, laidKinds := [.data, .data, .data, .data, .sentinel, .sentinel, .pinned], laidTests := true, laidLooks := .later }
def EventBackCardSaid : Prop := Claim7.holds Tryd.pinned (.plain (OpenSpec.ofChange eventBackSpec)) eventBackCard

/-- THE TIED CARD OF 'taffraillaw05.EventPasses'. -/
def eventPassesCard : Claim7 := { stood := { row := eventPassesRow, standIns := [], harness := (true, "0e6b37beb6df22e556d4fe6f84661e8560f15c00e5e9afeebe224f1cf4495d31"), looks := true }, kinds := [], alts := [], laidByText := true, laidKinds := [.data, .data, .data, .data, .sentinel, .sentinel, .pinned], laidTests := true, laidLooks := .later }
def EventPassesCardSaid : Prop := Claim7.holds Tryd.pinned (.plain (OpenSpec.ofChange eventPassesSpec)) eventPassesCard

/-- THE TIED CARD OF 'taffraillaw05.EventFields'. -/
def eventFieldsCard : Claim7 := { stood := { row := eventFieldsRow, standIns := [], harness := (true, "0e6b37beb6df22e556d4fe6f84661e8560f15c00e5e9afeebe224f1cf4495d31"), looks := true }, kinds := [], alts := [], laidByText := true, laidKinds := [.data, .data, .data, .data, .sentinel, .sentinel, .pinned], laidTests := true, laidLooks := .later }
def EventFieldsCardSaid : Prop := Claim7.holds Tryd.pinned (.plain (OpenSpec.ofChange eventFieldsSpec)) eventFieldsCard

/-- THE SECOND FORM's CARD OF 'taffraillaw05.EventChecks'. -/
def eventChecksUptoCard : Claim7 := { stood := { row := eventChecksUptoRow, standIns := [], harness := (true, "0e6b37beb6df22e556d4fe6f84661e8560f15c00e5e9afeebe224f1cf4495d31"), looks := true }, kinds := [], alts := [], laidByText := true, laidKinds := [.data, .data, .data, .data, .sentinel, .sentinel, .pinned], laidTests := true, laidLooks := .later }
def EventChecksUptoCardSaid : Prop := Claim7.holds Tryd.pinned (.plain (OpenSpec.upto eventChecksSpec)) eventChecksUptoCard

/-- THE SECOND FORM's CARD OF 'taffraillaw05.EventNames'. -/
def eventNamesUptoCard : Claim7 := { stood := { row := eventNamesUptoRow, standIns := [], harness := (true, "0e6b37beb6df22e556d4fe6f84661e8560f15c00e5e9afeebe224f1cf4495d31"), looks := true }, kinds := [], alts := [], laidByText := true, laidKinds := [.data, .data, .data, .data, .sentinel, .sentinel, .pinned], laidTests := true, laidLooks := .later }
def EventNamesUptoCardSaid : Prop := Claim7.holds Tryd.pinned (.plain (OpenSpec.upto eventNamesSpec)) eventNamesUptoCard

/-- THE SECOND FORM's CARD OF 'taffraillaw05.EventTexts'. -/
def eventTextsUptoCard : Claim7 := { stood := { row := eventTextsUptoRow, standIns := [], harness := (true, "0e6b37beb6df22e556d4fe6f84661e8560f15c00e5e9afeebe224f1cf4495d31"), looks := true }, kinds := [], alts := [], laidByText := true, laidKinds := [.data, .data, .data, .data, .sentinel, .sentinel, .pinned], laidTests := true, laidLooks := .later }
def EventTextsUptoCardSaid : Prop := Claim7.holds Tryd.pinned (.plain (OpenSpec.upto eventTextsSpec)) eventTextsUptoCard

/-- THE SECOND FORM's CARD OF 'taffraillaw05.EventBack'. -/
def eventBackUptoCard : Claim7 := { stood := { row := eventBackUptoRow, standIns := [], harness := (true, "0e6b37beb6df22e556d4fe6f84661e8560f15c00e5e9afeebe224f1cf4495d31"), looks := true }, kinds := [], alts := [], laidByText := true, laidKinds := [.data, .data, .data, .data, .sentinel, .sentinel, .pinned], laidTests := true, laidLooks := .later }
def EventBackUptoCardSaid : Prop := Claim7.holds Tryd.pinned (.plain (OpenSpec.upto eventBackSpec)) eventBackUptoCard

/-- THE SECOND FORM's CARD OF 'taffraillaw05.EventPasses'. -/
def eventPassesUptoCard : Claim7 := { stood := { row := eventPassesUptoRow, standIns := [], harness := (true, "0e6b37beb6df22e556d4fe6f84661e8560f15c00e5e9afeebe224f1cf4495d31"), looks := true }, kinds := [], alts := [], laidByText := true, laidKinds := [.data, .data, .data, .data, .sentinel, .sentinel, .pinned], laidTests := true, laidLooks := .later }
def EventPassesUptoCardSaid : Prop := Claim7.holds Tryd.pinned (.plain (OpenSpec.upto eventPassesSpec)) eventPassesUptoCard

/-- THE SECOND FORM's CARD OF 'taffraillaw05.EventFields'. -/
def eventFieldsUptoCard : Claim7 := { stood := { row := eventFieldsUptoRow, standIns := [], harness := (true, "0e6b37beb6df22e556d4fe6f84661e8560f15c00e5e9afeebe224f1cf4495d31"), looks := true }, kinds := [], alts := [], laidByText := true, laidKinds := [.data, .data, .data, .data, .sentinel, .sentinel, .pinned], laidTests := true, laidLooks := .later }
def EventFieldsUptoCardSaid : Prop := Claim7.holds Tryd.pinned (.plain (OpenSpec.upto eventFieldsSpec)) eventFieldsUptoCard
end Rows
end Go.Proofs.YtokjkfbbejalhaaDoor
