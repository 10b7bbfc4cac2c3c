/-
  DERIVED. GIVEN WITH THE SEED: THE CARDS: each row of YtmlojdbahlfiaaaGreatDoorRows.lean that lists a variable, with what it lists TIED to the program's text (the seventh form; the later family's looks); each row that meets fmt, with fmt's text TOLD by the authors' own Lean function (tested against real Go, not proved from fmt's source: count such statements apart). THE CARD IS WHAT COUNTS. Prove the row's statement (the work); the ties are given (YtmlojdbahlfiaaaGreatDoorTie.lean); close each card by the builder's one call (the guide's Derived/Test/ToyasCard.lean, 'card_holds'). Laid BY PROGRAM, IN A SANDBOX (cutbox-door.mjs). By AI agents, Wed Nov 11 2026. No macro, syntax, notation, axiom, sorry.
-/
import Derived.Test.YtmlojdbahlfiaaaGreatDoorRows
import GoSem.ClaimSeven
namespace Go.Proofs.YtmlojdbahlfiaaaGreatDoor
namespace Rows

/-- THE TIED CARD OF 'bolterlaw19.SearchMatches'. -/
def searchMatchesCard : Claim7 := { stood := { row := searchMatchesRow, standIns := [], harness := (true, "f613b22d704ef95f664b70cc0d092546cd638f37aa74690687501968d7efc847"), looks := true }, kinds := [], alts := [], laidByText := true, laidKinds := [.data, .data, .data, .sentinel, .sentinel], laidTests := true, laidLooks := .later }
def SearchMatchesCardSaid : Prop := Claim7.holds Tryz.pinned (.plain (OpenSpec.ofChange searchMatchesSpec)) searchMatchesCard

/-- THE TIED CARD OF 'bolterlaw17.IndexApart'. -/
def indexApartCard : Claim7 := { stood := { row := indexApartRow, standIns := [], harness := (true, "f613b22d704ef95f664b70cc0d092546cd638f37aa74690687501968d7efc847"), looks := true }, kinds := [], alts := [], laidByText := true, laidKinds := [.data, .data, .data, .sentinel, .sentinel], laidTests := true, laidLooks := .later }
def IndexApartCardSaid : Prop := Claim7.holds Tryz.pinned (.plain (OpenSpec.ofChange indexApartSpec)) indexApartCard

/-- THE TIED CARD OF 'bolterlaw17.IndexRound'. -/
def indexRoundCard : Claim7 := { stood := { row := indexRoundRow, standIns := [], harness := (true, "f613b22d704ef95f664b70cc0d092546cd638f37aa74690687501968d7efc847"), looks := true }, kinds := [], alts := [], laidByText := true, laidKinds := [.data, .data, .data, .sentinel, .sentinel], laidTests := true, laidLooks := .later }
def IndexRoundCardSaid : Prop := Claim7.holds Tryz.pinned (.plain (OpenSpec.ofChange indexRoundSpec)) indexRoundCard

/-- THE TIED CARD OF 'bolterlaw19.SearchNode'. -/
def searchNodeCard : Claim7 := { stood := { row := searchNodeRow, standIns := [], harness := (true, "f613b22d704ef95f664b70cc0d092546cd638f37aa74690687501968d7efc847"), looks := true }, kinds := [], alts := [], laidByText := true, laidKinds := [.data, .data, .data, .sentinel, .sentinel], laidTests := true, laidLooks := .later }
def SearchNodeCardSaid : Prop := Claim7.holds Tryz.pinned (.plain (OpenSpec.ofChange searchNodeSpec)) searchNodeCard

/-- THE TIED CARD OF 'bolterlaw19.SearchWins'. -/
def searchWinsCard : Claim7 := { stood := { row := searchWinsRow, standIns := [], harness := (true, "f613b22d704ef95f664b70cc0d092546cd638f37aa74690687501968d7efc847"), looks := true }, kinds := [], alts := [], laidByText := true, laidKinds := [.data, .data, .data, .sentinel, .sentinel], laidTests := true, laidLooks := .later }
def SearchWinsCardSaid : Prop := Claim7.holds Tryz.pinned (.plain (OpenSpec.ofChange searchWinsSpec)) searchWinsCard

/-- THE TIED CARD OF 'bolterlaw19.SearchZones'. -/
def searchZonesCard : Claim7 := { stood := { row := searchZonesRow, standIns := [], harness := (true, "f613b22d704ef95f664b70cc0d092546cd638f37aa74690687501968d7efc847"), looks := true }, kinds := [], alts := [], laidByText := true, laidKinds := [.data, .data, .data, .sentinel, .sentinel], laidTests := true, laidLooks := .later }
def SearchZonesCardSaid : Prop := Claim7.holds Tryz.pinned (.plain (OpenSpec.ofChange searchZonesSpec)) searchZonesCard

/-- THE TIED CARD OF 'bolterlaw17.IndexNone'. -/
def indexNoneCard : Claim7 := { stood := { row := indexNoneRow, standIns := [], harness := (true, "f613b22d704ef95f664b70cc0d092546cd638f37aa74690687501968d7efc847"), looks := true }, kinds := [], alts := [], laidByText := true, laidKinds := [.data, .data, .data, .sentinel, .sentinel], laidTests := true, laidLooks := .later }
def IndexNoneCardSaid : Prop := Claim7.holds Tryz.pinned (.plain (OpenSpec.ofChange indexNoneSpec)) indexNoneCard

/-- THE TIED CARD OF 'bolterlaw17.IndexScript'. -/
def indexScriptCard : Claim7 := { stood := { row := indexScriptRow, standIns := [], harness := (true, "f613b22d704ef95f664b70cc0d092546cd638f37aa74690687501968d7efc847"), looks := true }, kinds := [], alts := [], laidByText := true, laidKinds := [.data, .data, .data, .sentinel, .sentinel], laidTests := true, laidLooks := .later }
def IndexScriptCardSaid : Prop := Claim7.holds Tryz.pinned (.plain (OpenSpec.ofChange indexScriptSpec)) indexScriptCard

/-- THE SECOND FORM's CARD OF 'bolterlaw19.SearchMatches'. -/
def searchMatchesUptoCard : Claim7 := { stood := { row := searchMatchesUptoRow, standIns := [], harness := (true, "f613b22d704ef95f664b70cc0d092546cd638f37aa74690687501968d7efc847"), looks := true }, kinds := [], alts := [], laidByText := true, laidKinds := [.data, .data, .data, .sentinel, .sentinel], laidTests := true, laidLooks := .later }
def SearchMatchesUptoCardSaid : Prop := Claim7.holds Tryz.pinned (.plain (OpenSpec.upto searchMatchesSpec)) searchMatchesUptoCard

/-- THE SECOND FORM's CARD OF 'bolterlaw17.IndexApart'. -/
def indexApartUptoCard : Claim7 := { stood := { row := indexApartUptoRow, standIns := [], harness := (true, "f613b22d704ef95f664b70cc0d092546cd638f37aa74690687501968d7efc847"), looks := true }, kinds := [], alts := [], laidByText := true, laidKinds := [.data, .data, .data, .sentinel, .sentinel], laidTests := true, laidLooks := .later }
def IndexApartUptoCardSaid : Prop := Claim7.holds Tryz.pinned (.plain (OpenSpec.upto indexApartSpec)) indexApartUptoCard

/-- THE SECOND FORM's CARD OF 'bolterlaw17.IndexRound'. -/
def indexRoundUptoCard : Claim7 := { stood := { row := indexRoundUptoRow, standIns := [], harness := (true, "f613b22d704ef95f664b70cc0d092546cd638f37aa74690687501968d7efc847"), looks := true }, kinds := [], alts := [], laidByText := true, laidKinds := [.data, .data, .data, .sentinel, .sentinel], laidTests := true, laidLooks := .later }
def IndexRoundUptoCardSaid : Prop := Claim7.holds Tryz.pinned (.plain (OpenSpec.upto indexRoundSpec)) indexRoundUptoCard

/-- THE SECOND FORM's CARD OF 'bolterlaw19.SearchNode'. -/
def searchNodeUptoCard : Claim7 := { stood := { row := searchNodeUptoRow, standIns := [], harness := (true, "f613b22d704ef95f664b70cc0d092546cd638f37aa74690687501968d7efc847"), looks := true }, kinds := [], alts := [], laidByText := true, laidKinds := [.data, .data, .data, .sentinel, .sentinel], laidTests := true, laidLooks := .later }
def SearchNodeUptoCardSaid : Prop := Claim7.holds Tryz.pinned (.plain (OpenSpec.upto searchNodeSpec)) searchNodeUptoCard

/-- THE SECOND FORM's CARD OF 'bolterlaw19.SearchWins'. -/
def searchWinsUptoCard : Claim7 := { stood := { row := searchWinsUptoRow, standIns := [], harness := (true, "f613b22d704ef95f664b70cc0d092546cd638f37aa74690687501968d7efc847"), looks := true }, kinds := [], alts := [], laidByText := true, laidKinds := [.data, .data, .data, .sentinel, .sentinel], laidTests := true, laidLooks := .later }
def SearchWinsUptoCardSaid : Prop := Claim7.holds Tryz.pinned (.plain (OpenSpec.upto searchWinsSpec)) searchWinsUptoCard

/-- THE SECOND FORM's CARD OF 'bolterlaw19.SearchZones'. -/
def searchZonesUptoCard : Claim7 := { stood := { row := searchZonesUptoRow, standIns := [], harness := (true, "f613b22d704ef95f664b70cc0d092546cd638f37aa74690687501968d7efc847"), looks := true }, kinds := [], alts := [], laidByText := true, laidKinds := [.data, .data, .data, .sentinel, .sentinel], laidTests := true, laidLooks := .later }
def SearchZonesUptoCardSaid : Prop := Claim7.holds Tryz.pinned (.plain (OpenSpec.upto searchZonesSpec)) searchZonesUptoCard

/-- THE SECOND FORM's CARD OF 'bolterlaw17.IndexNone'. -/
def indexNoneUptoCard : Claim7 := { stood := { row := indexNoneUptoRow, standIns := [], harness := (true, "f613b22d704ef95f664b70cc0d092546cd638f37aa74690687501968d7efc847"), looks := true }, kinds := [], alts := [], laidByText := true, laidKinds := [.data, .data, .data, .sentinel, .sentinel], laidTests := true, laidLooks := .later }
def IndexNoneUptoCardSaid : Prop := Claim7.holds Tryz.pinned (.plain (OpenSpec.upto indexNoneSpec)) indexNoneUptoCard

/-- THE SECOND FORM's CARD OF 'bolterlaw17.IndexScript'. -/
def indexScriptUptoCard : Claim7 := { stood := { row := indexScriptUptoRow, standIns := [], harness := (true, "f613b22d704ef95f664b70cc0d092546cd638f37aa74690687501968d7efc847"), looks := true }, kinds := [], alts := [], laidByText := true, laidKinds := [.data, .data, .data, .sentinel, .sentinel], laidTests := true, laidLooks := .later }
def IndexScriptUptoCardSaid : Prop := Claim7.holds Tryz.pinned (.plain (OpenSpec.upto indexScriptSpec)) indexScriptUptoCard
end Rows
end Go.Proofs.YtmlojdbahlfiaaaGreatDoor
