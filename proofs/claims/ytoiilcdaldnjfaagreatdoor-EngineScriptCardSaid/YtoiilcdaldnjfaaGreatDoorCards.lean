/-
  DERIVED. GIVEN WITH THE SEED: THE CARDS: each row of YtoiilcdaldnjfaaGreatDoorRows.lean that lists a variable, with what it lists TIED to the program's text (the seventh form; the later family's looks); each row that meets fmt, with fmt's text TOLD by the authors' own Lean function (tested against real Go, not proved from fmt's source: count such statements apart). THE CARD IS WHAT COUNTS. Prove the row's statement (the work); the ties are given (YtoiilcdaldnjfaaGreatDoorTie.lean); close each card by the builder's one call (the guide's Derived/Test/ToyasCard.lean, 'card_holds'). Laid BY PROGRAM, IN A SANDBOX (cutbox-door.mjs). By AI agents, Wed Nov 11 2026. No macro, syntax, notation, axiom, sorry.
-/
import Derived.Test.YtoiilcdaldnjfaaGreatDoorRows
import GoSem.ClaimSeven
namespace Go.Proofs.YtoiilcdaldnjfaaGreatDoor
namespace Rows

/-- THE TIED CARD OF 'bolterlaw20.EngineSilent'. -/
def engineSilentCard : Claim7 := { stood := { row := engineSilentRow, standIns := [], harness := (true, "564d382dd431c48224a1f1bbcd10dc27733122982130fcdba79a01edd12d630f"), looks := true }, kinds := [], alts := [], laidByText := true, laidKinds := [.data, .data, .data, .sentinel, .sentinel], laidTests := true, laidLooks := .later }
def EngineSilentCardSaid : Prop := Claim7.holds Tryz.pinned (.plain (OpenSpec.ofChange engineSilentSpec)) engineSilentCard

/-- THE TIED CARD OF 'bolterlaw20.EngineMany'. -/
def engineManyCard : Claim7 := { stood := { row := engineManyRow, standIns := [], harness := (true, "564d382dd431c48224a1f1bbcd10dc27733122982130fcdba79a01edd12d630f"), looks := true }, kinds := [], alts := [], laidByText := true, laidKinds := [.data, .data, .data, .sentinel, .sentinel], laidTests := true, laidLooks := .later }
def EngineManyCardSaid : Prop := Claim7.holds Tryz.pinned (.plain (OpenSpec.ofChange engineManySpec)) engineManyCard

/-- THE TIED CARD OF 'bolterlaw20.EngineWins'. -/
def engineWinsCard : Claim7 := { stood := { row := engineWinsRow, standIns := [], harness := (true, "564d382dd431c48224a1f1bbcd10dc27733122982130fcdba79a01edd12d630f"), looks := true }, kinds := [], alts := [], laidByText := true, laidKinds := [.data, .data, .data, .sentinel, .sentinel], laidTests := true, laidLooks := .later }
def EngineWinsCardSaid : Prop := Claim7.holds Tryz.pinned (.plain (OpenSpec.ofChange engineWinsSpec)) engineWinsCard

/-- THE TIED CARD OF 'bolterlaw20.EngineBack'. -/
def engineBackCard : Claim7 := { stood := { row := engineBackRow, standIns := [], harness := (true, "564d382dd431c48224a1f1bbcd10dc27733122982130fcdba79a01edd12d630f"), looks := true }, kinds := [], alts := [], laidByText := true, laidKinds := [.data, .data, .data, .sentinel, .sentinel], laidTests := true, laidLooks := .later }
def EngineBackCardSaid : Prop := Claim7.holds Tryz.pinned (.plain (OpenSpec.ofChange engineBackSpec)) engineBackCard

/-- THE TIED CARD OF 'bolterlaw20.EngineScript'. -/
def engineScriptCard : Claim7 := { stood := { row := engineScriptRow, standIns := [], harness := (true, "564d382dd431c48224a1f1bbcd10dc27733122982130fcdba79a01edd12d630f"), looks := true }, kinds := [], alts := [], laidByText := true, laidKinds := [.data, .data, .data, .sentinel, .sentinel], laidTests := true, laidLooks := .later }
def EngineScriptCardSaid : Prop := Claim7.holds Tryz.pinned (.plain (OpenSpec.ofChange engineScriptSpec)) engineScriptCard

/-- THE SECOND FORM's CARD OF 'bolterlaw20.EngineSilent'. -/
def engineSilentUptoCard : Claim7 := { stood := { row := engineSilentUptoRow, standIns := [], harness := (true, "564d382dd431c48224a1f1bbcd10dc27733122982130fcdba79a01edd12d630f"), looks := true }, kinds := [], alts := [], laidByText := true, laidKinds := [.data, .data, .data, .sentinel, .sentinel], laidTests := true, laidLooks := .later }
def EngineSilentUptoCardSaid : Prop := Claim7.holds Tryz.pinned (.plain (OpenSpec.upto engineSilentSpec)) engineSilentUptoCard

/-- THE SECOND FORM's CARD OF 'bolterlaw20.EngineMany'. -/
def engineManyUptoCard : Claim7 := { stood := { row := engineManyUptoRow, standIns := [], harness := (true, "564d382dd431c48224a1f1bbcd10dc27733122982130fcdba79a01edd12d630f"), looks := true }, kinds := [], alts := [], laidByText := true, laidKinds := [.data, .data, .data, .sentinel, .sentinel], laidTests := true, laidLooks := .later }
def EngineManyUptoCardSaid : Prop := Claim7.holds Tryz.pinned (.plain (OpenSpec.upto engineManySpec)) engineManyUptoCard

/-- THE SECOND FORM's CARD OF 'bolterlaw20.EngineWins'. -/
def engineWinsUptoCard : Claim7 := { stood := { row := engineWinsUptoRow, standIns := [], harness := (true, "564d382dd431c48224a1f1bbcd10dc27733122982130fcdba79a01edd12d630f"), looks := true }, kinds := [], alts := [], laidByText := true, laidKinds := [.data, .data, .data, .sentinel, .sentinel], laidTests := true, laidLooks := .later }
def EngineWinsUptoCardSaid : Prop := Claim7.holds Tryz.pinned (.plain (OpenSpec.upto engineWinsSpec)) engineWinsUptoCard

/-- THE SECOND FORM's CARD OF 'bolterlaw20.EngineBack'. -/
def engineBackUptoCard : Claim7 := { stood := { row := engineBackUptoRow, standIns := [], harness := (true, "564d382dd431c48224a1f1bbcd10dc27733122982130fcdba79a01edd12d630f"), looks := true }, kinds := [], alts := [], laidByText := true, laidKinds := [.data, .data, .data, .sentinel, .sentinel], laidTests := true, laidLooks := .later }
def EngineBackUptoCardSaid : Prop := Claim7.holds Tryz.pinned (.plain (OpenSpec.upto engineBackSpec)) engineBackUptoCard

/-- THE SECOND FORM's CARD OF 'bolterlaw20.EngineScript'. -/
def engineScriptUptoCard : Claim7 := { stood := { row := engineScriptUptoRow, standIns := [], harness := (true, "564d382dd431c48224a1f1bbcd10dc27733122982130fcdba79a01edd12d630f"), looks := true }, kinds := [], alts := [], laidByText := true, laidKinds := [.data, .data, .data, .sentinel, .sentinel], laidTests := true, laidLooks := .later }
def EngineScriptUptoCardSaid : Prop := Claim7.holds Tryz.pinned (.plain (OpenSpec.upto engineScriptSpec)) engineScriptUptoCard
end Rows
end Go.Proofs.YtoiilcdaldnjfaaGreatDoor
