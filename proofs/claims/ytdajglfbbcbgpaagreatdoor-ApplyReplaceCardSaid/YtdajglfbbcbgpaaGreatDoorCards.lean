/-
  DERIVED. GIVEN WITH THE SEED: THE CARDS: each row of YtdajglfbbcbgpaaGreatDoorRows.lean that lists a variable, with what it lists TIED to the program's text (the seventh form; the later family's looks); each row that meets fmt, with fmt's text TOLD by the authors' own Lean function (tested against real Go, not proved from fmt's source: count such statements apart). THE CARD IS WHAT COUNTS. Prove the row's statement (the work); the ties are given (YtdajglfbbcbgpaaGreatDoorTie.lean); close each card by the builder's one call (the guide's Derived/Test/ToyasCard.lean, 'card_holds'). Laid BY PROGRAM, IN A SANDBOX (cutbox-door.mjs). By AI agents, Wed Nov 11 2026. No macro, syntax, notation, axiom, sorry.
-/
import Derived.Test.YtdajglfbbcbgpaaGreatDoorRows
import GoSem.ClaimSeven
namespace Go.Proofs.YtdajglfbbcbgpaaGreatDoor
namespace Rows

/-- THE TIED CARD OF 'bolterlaw10.ApplyReplace'. -/
def applyReplaceCard : Claim7 := { stood := { row := applyReplaceRow, standIns := [], harness := (true, "9c8f56f20bfb9943bea3efd7eebcec72ceb70fef135d2fde10986c10bfa7e638"), looks := true }, kinds := [], alts := [], laidByText := true, laidKinds := [.handle], laidTests := true, laidLooks := .later }
def ApplyReplaceCardSaid : Prop := Claim7.holds Tryz.pinned (.plain (OpenSpec.ofChange applyReplaceSpec)) applyReplaceCard

/-- THE SECOND FORM's CARD OF 'bolterlaw10.ApplyReplace'. -/
def applyReplaceUptoCard : Claim7 := { stood := { row := applyReplaceUptoRow, standIns := [], harness := (true, "9c8f56f20bfb9943bea3efd7eebcec72ceb70fef135d2fde10986c10bfa7e638"), looks := true }, kinds := [], alts := [], laidByText := true, laidKinds := [.handle], laidTests := true, laidLooks := .later }
def ApplyReplaceUptoCardSaid : Prop := Claim7.holds Tryz.pinned (.plain (OpenSpec.upto applyReplaceSpec)) applyReplaceUptoCard
end Rows
end Go.Proofs.YtdajglfbbcbgpaaGreatDoor
