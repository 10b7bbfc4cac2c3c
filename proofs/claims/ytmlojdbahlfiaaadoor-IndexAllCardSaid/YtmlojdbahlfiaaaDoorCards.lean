/-
  DERIVED. GIVEN WITH THE SEED: THE CARDS: each row of YtmlojdbahlfiaaaDoorRows.lean that lists a variable, with what it lists TIED to the program's text (the seventh form; the later family's looks); each row that meets fmt, with fmt's text TOLD by the authors' own Lean function (tested against real Go, not proved from fmt's source: count such statements apart). THE CARD IS WHAT COUNTS. Prove the row's statement (the work); the ties are given (YtmlojdbahlfiaaaDoorTie.lean); close each card by the builder's one call (the guide's Derived/Test/ToyasCard.lean, 'card_holds'). Laid BY PROGRAM, IN A SANDBOX (cutbox-door.mjs). By AI agents, Wed Nov 11 2026. No macro, syntax, notation, axiom, sorry.
-/
import Derived.Test.YtmlojdbahlfiaaaDoorRows
import GoSem.ClaimSeven
namespace Go.Proofs.YtmlojdbahlfiaaaDoor
namespace Rows

/-- THE TIED CARD OF 'bolterlaw19.SearchLess'. -/
def searchLessCard : Claim7 := { stood := { row := searchLessRow, standIns := [], harness := (true, "05cca0dec2e43c46265e7509ea3a29e68aa0e0124c91dc084018f3ccd082c65b"), looks := true }, kinds := [], alts := [], laidByText := true, laidKinds := [.data, .data, .data, .sentinel, .sentinel], laidTests := true, laidLooks := .later }
def SearchLessCardSaid : Prop := Claim7.holds Tryd.pinned (.plain (OpenSpec.ofChange searchLessSpec)) searchLessCard

/-- THE TIED CARD OF 'bolterlaw17.IndexAll'. -/
def indexAllCard : Claim7 := { stood := { row := indexAllRow, standIns := [], harness := (true, "05cca0dec2e43c46265e7509ea3a29e68aa0e0124c91dc084018f3ccd082c65b"), looks := true }, kinds := [], alts := [], laidByText := true, laidKinds := [.data, .data, .data, .sentinel, .sentinel], laidTests := true, laidLooks := .later }
def IndexAllCardSaid : Prop := Claim7.holds Tryd.pinned (.plain (OpenSpec.ofChange indexAllSpec)) indexAllCard

/-- THE SECOND FORM's CARD OF 'bolterlaw19.SearchLess'. -/
def searchLessUptoCard : Claim7 := { stood := { row := searchLessUptoRow, standIns := [], harness := (true, "05cca0dec2e43c46265e7509ea3a29e68aa0e0124c91dc084018f3ccd082c65b"), looks := true }, kinds := [], alts := [], laidByText := true, laidKinds := [.data, .data, .data, .sentinel, .sentinel], laidTests := true, laidLooks := .later }
def SearchLessUptoCardSaid : Prop := Claim7.holds Tryd.pinned (.plain (OpenSpec.upto searchLessSpec)) searchLessUptoCard

/-- THE SECOND FORM's CARD OF 'bolterlaw17.IndexAll'. -/
def indexAllUptoCard : Claim7 := { stood := { row := indexAllUptoRow, standIns := [], harness := (true, "05cca0dec2e43c46265e7509ea3a29e68aa0e0124c91dc084018f3ccd082c65b"), looks := true }, kinds := [], alts := [], laidByText := true, laidKinds := [.data, .data, .data, .sentinel, .sentinel], laidTests := true, laidLooks := .later }
def IndexAllUptoCardSaid : Prop := Claim7.holds Tryd.pinned (.plain (OpenSpec.upto indexAllSpec)) indexAllUptoCard
end Rows
end Go.Proofs.YtmlojdbahlfiaaaDoor
