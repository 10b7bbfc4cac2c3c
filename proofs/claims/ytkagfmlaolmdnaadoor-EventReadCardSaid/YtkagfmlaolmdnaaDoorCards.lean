/-
  DERIVED. GIVEN WITH THE SEED: THE CARDS: each row of YtkagfmlaolmdnaaDoorRows.lean that lists a variable, with what it lists TIED to the program's text (the seventh form; the later family's looks); each row that meets fmt, with fmt's text TOLD by the authors' own Lean function (tested against real Go, not proved from fmt's source: count such statements apart). THE CARD IS WHAT COUNTS. Prove the row's statement (the work); the ties are given (YtkagfmlaolmdnaaDoorTie.lean); close each card by the builder's one call (the guide's Derived/Test/ToyasCard.lean, 'card_holds'). Laid BY PROGRAM, IN A SANDBOX (cutbox-door.mjs). By AI agents, Wed Nov 11 2026. No macro, syntax, notation, axiom, sorry.
-/
import Derived.Test.YtkagfmlaolmdnaaDoorRows
import GoSem.ClaimSeven
namespace Go.Proofs.YtkagfmlaolmdnaaDoor
namespace Rows

/-- THE TIED CARD OF 'bolterlaw13.OwnerPrefix'. -/
def ownerPrefixCard : Claim7 := { stood := { row := ownerPrefixRow, standIns := [], harness := (true, "a858432808440719c3b53b1a9cd1cc5de2c898acf837f385c72f387707531c3d"), looks := true }, kinds := [], alts := [], laidByText := true, laidKinds := [.data, .data, .data, .sentinel, .sentinel], laidTests := true, laidLooks := .later }
def OwnerPrefixCardSaid : Prop := Claim7.holds Tryd.pinned (.plain (OpenSpec.ofChange ownerPrefixSpec)) ownerPrefixCard

/-- THE TIED CARD OF 'bolterlaw13.OwnerAddress'. -/
def ownerAddressCard : Claim7 := { stood := { row := ownerAddressRow, standIns := [], harness := (true, "a858432808440719c3b53b1a9cd1cc5de2c898acf837f385c72f387707531c3d"), looks := true }, kinds := [], alts := [], laidByText := true, laidKinds := [.data, .data, .data, .sentinel, .sentinel], laidTests := true, laidLooks := .later }
def OwnerAddressCardSaid : Prop := Claim7.holds Tryd.pinned (.plain (OpenSpec.ofChange ownerAddressSpec)) ownerAddressCard

/-- THE TIED CARD OF 'bolterlaw13.OwnerBack'. -/
def ownerBackCard : Claim7 := { stood := { row := ownerBackRow, standIns := [], harness := (true, "a858432808440719c3b53b1a9cd1cc5de2c898acf837f385c72f387707531c3d"), looks := true }, kinds := [], alts := [], laidByText := true, laidKinds := [.data, .data, .data, .sentinel, .sentinel], laidTests := true, laidLooks := .later }
def OwnerBackCardSaid : Prop := Claim7.holds Tryd.pinned (.plain (OpenSpec.ofChange ownerBackSpec)) ownerBackCard

/-- THE TIED CARD OF 'bolterlaw13.OwnerNone'. -/
def ownerNoneCard : Claim7 := { stood := { row := ownerNoneRow, standIns := [], harness := (true, "a858432808440719c3b53b1a9cd1cc5de2c898acf837f385c72f387707531c3d"), looks := true }, kinds := [], alts := [], laidByText := true, laidKinds := [.data, .data, .data, .sentinel, .sentinel], laidTests := true, laidLooks := .later }
def OwnerNoneCardSaid : Prop := Claim7.holds Tryd.pinned (.plain (OpenSpec.ofChange ownerNoneSpec)) ownerNoneCard

/-- THE TIED CARD OF 'bolterlaw13.OwnerApart'. -/
def ownerApartCard : Claim7 := { stood := { row := ownerApartRow, standIns := [], harness := (true, "a858432808440719c3b53b1a9cd1cc5de2c898acf837f385c72f387707531c3d"), looks := true }, kinds := [], alts := [], laidByText := true, laidKinds := [.data, .data, .data, .sentinel, .sentinel], laidTests := true, laidLooks := .later }
def OwnerApartCardSaid : Prop := Claim7.holds Tryd.pinned (.plain (OpenSpec.ofChange ownerApartSpec)) ownerApartCard

/-- THE TIED CARD OF 'bolterlaw13.OwnerLong'. -/
def ownerLongCard : Claim7 := { stood := { row := ownerLongRow, standIns := [], harness := (true, "a858432808440719c3b53b1a9cd1cc5de2c898acf837f385c72f387707531c3d"), looks := true }, kinds := [], alts := [], laidByText := true, laidKinds := [.data, .data, .data, .sentinel, .sentinel], laidTests := true, laidLooks := .later }
def OwnerLongCardSaid : Prop := Claim7.holds Tryd.pinned (.plain (OpenSpec.ofChange ownerLongSpec)) ownerLongCard

/-- THE TIED CARD OF 'bolterlaw13.OwnerRead'. -/
def ownerReadCard : Claim7 := { stood := { row := ownerReadRow, standIns := [], harness := (true, "a858432808440719c3b53b1a9cd1cc5de2c898acf837f385c72f387707531c3d"), looks := true }, kinds := [], alts := [], laidByText := true, laidKinds := [.data, .data, .data, .sentinel, .sentinel], laidTests := true, laidLooks := .later }
def OwnerReadCardSaid : Prop := Claim7.holds Tryd.pinned (.plain (OpenSpec.ofChange ownerReadSpec)) ownerReadCard

/-- THE TIED CARD OF 'bolterlaw25.EventMay'. -/
def eventMayCard : Claim7 := { stood := { row := eventMayRow, standIns := [], harness := (true, "a858432808440719c3b53b1a9cd1cc5de2c898acf837f385c72f387707531c3d"), looks := true }, kinds := [], alts := [], laidByText := true, laidKinds := [.data, .data, .data, .sentinel, .sentinel], laidTests := true, laidLooks := .later }
def EventMayCardSaid : Prop := Claim7.holds Tryd.pinned (.plain (OpenSpec.ofChange eventMaySpec)) eventMayCard

/-- THE TIED CARD OF 'bolterlaw25.EventTwo'. -/
def eventTwoCard : Claim7 := { stood := { row := eventTwoRow, standIns := [], harness := (true, "a858432808440719c3b53b1a9cd1cc5de2c898acf837f385c72f387707531c3d"), looks := true }, kinds := [], alts := [], laidByText := true, laidKinds := [.data, .data, .data, .sentinel, .sentinel], laidTests := true, laidLooks := .later }
def EventTwoCardSaid : Prop := Claim7.holds Tryd.pinned (.plain (OpenSpec.ofChange eventTwoSpec)) eventTwoCard

/-- THE TIED CARD OF 'bolterlaw25.EventBytes'. -/
def eventBytesCard : Claim7 := { stood := { row := eventBytesRow, standIns := [], harness := (true, "a858432808440719c3b53b1a9cd1cc5de2c898acf837f385c72f387707531c3d"), looks := true }, kinds := [], alts := [], laidByText := true, laidKinds := [.data, .data, .data, .sentinel, .sentinel], laidTests := true, laidLooks := .later }
def EventBytesCardSaid : Prop := Claim7.holds Tryd.pinned (.plain (OpenSpec.ofChange eventBytesSpec)) eventBytesCard

/-- THE TIED CARD OF 'bolterlaw25.EventRead'. -/
def eventReadCard : Claim7 := { stood := { row := eventReadRow, standIns := [], harness := (true, "a858432808440719c3b53b1a9cd1cc5de2c898acf837f385c72f387707531c3d"), looks := true }, kinds := [], alts := [], laidByText := true, laidKinds := [.data, .data, .data, .sentinel, .sentinel], laidTests := true, laidLooks := .later }
def EventReadCardSaid : Prop := Claim7.holds Tryd.pinned (.plain (OpenSpec.ofChange eventReadSpec)) eventReadCard

/-- THE SECOND FORM's CARD OF 'bolterlaw13.OwnerPrefix'. -/
def ownerPrefixUptoCard : Claim7 := { stood := { row := ownerPrefixUptoRow, standIns := [], harness := (true, "a858432808440719c3b53b1a9cd1cc5de2c898acf837f385c72f387707531c3d"), looks := true }, kinds := [], alts := [], laidByText := true, laidKinds := [.data, .data, .data, .sentinel, .sentinel], laidTests := true, laidLooks := .later }
def OwnerPrefixUptoCardSaid : Prop := Claim7.holds Tryd.pinned (.plain (OpenSpec.upto ownerPrefixSpec)) ownerPrefixUptoCard

/-- THE SECOND FORM's CARD OF 'bolterlaw13.OwnerAddress'. -/
def ownerAddressUptoCard : Claim7 := { stood := { row := ownerAddressUptoRow, standIns := [], harness := (true, "a858432808440719c3b53b1a9cd1cc5de2c898acf837f385c72f387707531c3d"), looks := true }, kinds := [], alts := [], laidByText := true, laidKinds := [.data, .data, .data, .sentinel, .sentinel], laidTests := true, laidLooks := .later }
def OwnerAddressUptoCardSaid : Prop := Claim7.holds Tryd.pinned (.plain (OpenSpec.upto ownerAddressSpec)) ownerAddressUptoCard

/-- THE SECOND FORM's CARD OF 'bolterlaw13.OwnerBack'. -/
def ownerBackUptoCard : Claim7 := { stood := { row := ownerBackUptoRow, standIns := [], harness := (true, "a858432808440719c3b53b1a9cd1cc5de2c898acf837f385c72f387707531c3d"), looks := true }, kinds := [], alts := [], laidByText := true, laidKinds := [.data, .data, .data, .sentinel, .sentinel], laidTests := true, laidLooks := .later }
def OwnerBackUptoCardSaid : Prop := Claim7.holds Tryd.pinned (.plain (OpenSpec.upto ownerBackSpec)) ownerBackUptoCard

/-- THE SECOND FORM's CARD OF 'bolterlaw13.OwnerNone'. -/
def ownerNoneUptoCard : Claim7 := { stood := { row := ownerNoneUptoRow, standIns := [], harness := (true, "a858432808440719c3b53b1a9cd1cc5de2c898acf837f385c72f387707531c3d"), looks := true }, kinds := [], alts := [], laidByText := true, laidKinds := [.data, .data, .data, .sentinel, .sentinel], laidTests := true, laidLooks := .later }
def OwnerNoneUptoCardSaid : Prop := Claim7.holds Tryd.pinned (.plain (OpenSpec.upto ownerNoneSpec)) ownerNoneUptoCard

/-- THE SECOND FORM's CARD OF 'bolterlaw13.OwnerApart'. -/
def ownerApartUptoCard : Claim7 := { stood := { row := ownerApartUptoRow, standIns := [], harness := (true, "a858432808440719c3b53b1a9cd1cc5de2c898acf837f385c72f387707531c3d"), looks := true }, kinds := [], alts := [], laidByText := true, laidKinds := [.data, .data, .data, .sentinel, .sentinel], laidTests := true, laidLooks := .later }
def OwnerApartUptoCardSaid : Prop := Claim7.holds Tryd.pinned (.plain (OpenSpec.upto ownerApartSpec)) ownerApartUptoCard

/-- THE SECOND FORM's CARD OF 'bolterlaw13.OwnerLong'. -/
def ownerLongUptoCard : Claim7 := { stood := { row := ownerLongUptoRow, standIns := [], harness := (true, "a858432808440719c3b53b1a9cd1cc5de2c898acf837f385c72f387707531c3d"), looks := true }, kinds := [], alts := [], laidByText := true, laidKinds := [.data, .data, .data, .sentinel, .sentinel], laidTests := true, laidLooks := .later }
def OwnerLongUptoCardSaid : Prop := Claim7.holds Tryd.pinned (.plain (OpenSpec.upto ownerLongSpec)) ownerLongUptoCard

/-- THE SECOND FORM's CARD OF 'bolterlaw13.OwnerRead'. -/
def ownerReadUptoCard : Claim7 := { stood := { row := ownerReadUptoRow, standIns := [], harness := (true, "a858432808440719c3b53b1a9cd1cc5de2c898acf837f385c72f387707531c3d"), looks := true }, kinds := [], alts := [], laidByText := true, laidKinds := [.data, .data, .data, .sentinel, .sentinel], laidTests := true, laidLooks := .later }
def OwnerReadUptoCardSaid : Prop := Claim7.holds Tryd.pinned (.plain (OpenSpec.upto ownerReadSpec)) ownerReadUptoCard

/-- THE SECOND FORM's CARD OF 'bolterlaw25.EventMay'. -/
def eventMayUptoCard : Claim7 := { stood := { row := eventMayUptoRow, standIns := [], harness := (true, "a858432808440719c3b53b1a9cd1cc5de2c898acf837f385c72f387707531c3d"), looks := true }, kinds := [], alts := [], laidByText := true, laidKinds := [.data, .data, .data, .sentinel, .sentinel], laidTests := true, laidLooks := .later }
def EventMayUptoCardSaid : Prop := Claim7.holds Tryd.pinned (.plain (OpenSpec.upto eventMaySpec)) eventMayUptoCard

/-- THE SECOND FORM's CARD OF 'bolterlaw25.EventTwo'. -/
def eventTwoUptoCard : Claim7 := { stood := { row := eventTwoUptoRow, standIns := [], harness := (true, "a858432808440719c3b53b1a9cd1cc5de2c898acf837f385c72f387707531c3d"), looks := true }, kinds := [], alts := [], laidByText := true, laidKinds := [.data, .data, .data, .sentinel, .sentinel], laidTests := true, laidLooks := .later }
def EventTwoUptoCardSaid : Prop := Claim7.holds Tryd.pinned (.plain (OpenSpec.upto eventTwoSpec)) eventTwoUptoCard

/-- THE SECOND FORM's CARD OF 'bolterlaw25.EventBytes'. -/
def eventBytesUptoCard : Claim7 := { stood := { row := eventBytesUptoRow, standIns := [], harness := (true, "a858432808440719c3b53b1a9cd1cc5de2c898acf837f385c72f387707531c3d"), looks := true }, kinds := [], alts := [], laidByText := true, laidKinds := [.data, .data, .data, .sentinel, .sentinel], laidTests := true, laidLooks := .later }
def EventBytesUptoCardSaid : Prop := Claim7.holds Tryd.pinned (.plain (OpenSpec.upto eventBytesSpec)) eventBytesUptoCard

/-- THE SECOND FORM's CARD OF 'bolterlaw25.EventRead'. -/
def eventReadUptoCard : Claim7 := { stood := { row := eventReadUptoRow, standIns := [], harness := (true, "a858432808440719c3b53b1a9cd1cc5de2c898acf837f385c72f387707531c3d"), looks := true }, kinds := [], alts := [], laidByText := true, laidKinds := [.data, .data, .data, .sentinel, .sentinel], laidTests := true, laidLooks := .later }
def EventReadUptoCardSaid : Prop := Claim7.holds Tryd.pinned (.plain (OpenSpec.upto eventReadSpec)) eventReadUptoCard
end Rows
end Go.Proofs.YtkagfmlaolmdnaaDoor
