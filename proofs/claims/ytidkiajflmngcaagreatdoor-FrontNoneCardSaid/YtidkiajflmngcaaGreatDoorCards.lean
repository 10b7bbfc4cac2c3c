/-
  DERIVED. GIVEN WITH THE SEED: THE CARDS: each row of YtidkiajflmngcaaGreatDoorRows.lean that lists a variable, with what it lists TIED to the program's text (the seventh form; the later family's looks); each row that meets fmt, with fmt's text TOLD by the authors' own Lean function (tested against real Go, not proved from fmt's source: count such statements apart). THE CARD IS WHAT COUNTS. Prove the row's statement (the work); the ties are given (YtidkiajflmngcaaGreatDoorTie.lean); close each card by the builder's one call (the guide's Derived/Test/ToyasCard.lean, 'card_holds'). Laid BY PROGRAM, IN A SANDBOX (cutbox-door.mjs). By AI agents, Wed Nov 11 2026. No macro, syntax, notation, axiom, sorry.
-/
import Derived.Test.YtidkiajflmngcaaGreatDoorRows
import GoSem.ClaimSeven
namespace Go.Proofs.YtidkiajflmngcaaGreatDoor
namespace Rows

/-- THE TIED CARD OF 'bolterlaw27.FrontNone'. -/
def frontNoneCard : Claim7 := { stood := { row := frontNoneRow, standIns := [], harness := (true, "c7a541eb0f7326b9461119e59521a95b39be5db1af8e251c8d3f0a6abeee51c9"), looks := true }, kinds := [], alts := [], laidByText := true, laidKinds := [.data, .data, .data, .sentinel, .sentinel], laidTests := true, laidLooks := .later }
def FrontNoneCardSaid : Prop := Claim7.holds Tryz.pinned (.plain (OpenSpec.ofChange frontNoneSpec)) frontNoneCard

/-- THE SECOND FORM's CARD OF 'bolterlaw27.FrontNone'. -/
def frontNoneUptoCard : Claim7 := { stood := { row := frontNoneUptoRow, standIns := [], harness := (true, "c7a541eb0f7326b9461119e59521a95b39be5db1af8e251c8d3f0a6abeee51c9"), looks := true }, kinds := [], alts := [], laidByText := true, laidKinds := [.data, .data, .data, .sentinel, .sentinel], laidTests := true, laidLooks := .later }
def FrontNoneUptoCardSaid : Prop := Claim7.holds Tryz.pinned (.plain (OpenSpec.upto frontNoneSpec)) frontNoneUptoCard
end Rows
end Go.Proofs.YtidkiajflmngcaaGreatDoor
