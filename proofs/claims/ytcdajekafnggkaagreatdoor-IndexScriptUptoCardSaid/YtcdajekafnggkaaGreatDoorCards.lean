/-
  DERIVED. GIVEN WITH THE SEED: THE CARDS: each row of YtcdajekafnggkaaGreatDoorRows.lean that lists a variable, with what it lists TIED to the program's text (the seventh form; the later family's looks); each row that meets fmt, with fmt's text TOLD by the authors' own Lean function (tested against real Go, not proved from fmt's source: count such statements apart). THE CARD IS WHAT COUNTS. Prove the row's statement (the work); the ties are given (YtcdajekafnggkaaGreatDoorTie.lean); close each card by the builder's one call (the guide's Derived/Test/ToyasCard.lean, 'card_holds'). Laid BY PROGRAM, IN A SANDBOX (cutbox-door.mjs). By AI agents, Wed Nov 11 2026. No macro, syntax, notation, axiom, sorry.
-/
import Derived.Test.YtcdajekafnggkaaGreatDoorRows
import GoSem.ClaimSeven
namespace Go.Proofs.YtcdajekafnggkaaGreatDoor
namespace Rows

/-- THE TIED CARD OF 'bolterlaw17.IndexScript'. -/
def indexScriptCard : Claim7 := { stood := { row := indexScriptRow, standIns := [], harness := (true, "7cd2f7aa243d35113370443027c45401527c0c09bc56ee79c2ed82cac3a97922"), looks := true }, kinds := [], alts := [], laidByText := true, laidKinds := [.data, .data, .data, .sentinel, .sentinel], laidTests := true, laidLooks := .later }
def IndexScriptCardSaid : Prop := Claim7.holds Tryz.pinned (.plain (OpenSpec.ofChange indexScriptSpec)) indexScriptCard

/-- THE SECOND FORM's CARD OF 'bolterlaw17.IndexScript'. -/
def indexScriptUptoCard : Claim7 := { stood := { row := indexScriptUptoRow, standIns := [], harness := (true, "7cd2f7aa243d35113370443027c45401527c0c09bc56ee79c2ed82cac3a97922"), looks := true }, kinds := [], alts := [], laidByText := true, laidKinds := [.data, .data, .data, .sentinel, .sentinel], laidTests := true, laidLooks := .later }
def IndexScriptUptoCardSaid : Prop := Claim7.holds Tryz.pinned (.plain (OpenSpec.upto indexScriptSpec)) indexScriptUptoCard
end Rows
end Go.Proofs.YtcdajekafnggkaaGreatDoor
