/-
  DERIVED. GIVEN WITH THE SEED: THE CARDS: each row of YtdajglfbbcbgpaaDoorRows.lean that lists a variable, with what it lists TIED to the program's text (the seventh form; the later family's looks); each row that meets fmt, with fmt's text TOLD by the authors' own Lean function (tested against real Go, not proved from fmt's source: count such statements apart). THE CARD IS WHAT COUNTS. Prove the row's statement (the work); the ties are given (YtdajglfbbcbgpaaDoorTie.lean); close each card by the builder's one call (the guide's Derived/Test/ToyasCard.lean, 'card_holds'). Laid BY PROGRAM, IN A SANDBOX (cutbox-door.mjs). By AI agents, Wed Nov 11 2026. No macro, syntax, notation, axiom, sorry.
-/
import Derived.Test.YtdajglfbbcbgpaaDoorRows
import GoSem.ClaimSeven
namespace Go.Proofs.YtdajglfbbcbgpaaDoor
namespace Rows

/-- THE TIED CARD OF 'bolterlaw08.ZoneInsert'. -/
def zoneInsertCard : Claim7 := { stood := { row := zoneInsertRow, standIns := [], harness := (true, "a12128b3625d938c4a78380329e1d4718852546533b91d37352ef6041dbabd86"), looks := true }, kinds := [], alts := [], laidByText := true, laidKinds := [.handle], laidTests := true, laidLooks := .later }
def ZoneInsertCardSaid : Prop := Claim7.holds Tryd.pinned (.plain (OpenSpec.ofChange zoneInsertSpec)) zoneInsertCard

/-- THE TIED CARD OF 'bolterlaw10.ApplyDelta'. -/
def applyDeltaCard : Claim7 := { stood := { row := applyDeltaRow, standIns := [], harness := (true, "a12128b3625d938c4a78380329e1d4718852546533b91d37352ef6041dbabd86"), looks := true }, kinds := [], alts := [], laidByText := true, laidKinds := [.handle], laidTests := true, laidLooks := .later }
def ApplyDeltaCardSaid : Prop := Claim7.holds Tryd.pinned (.plain (OpenSpec.ofChange applyDeltaSpec)) applyDeltaCard

/-- THE TIED CARD OF 'bolterlaw10.ApplyBetween'. -/
def applyBetweenCard : Claim7 := { stood := { row := applyBetweenRow, standIns := [], harness := (true, "a12128b3625d938c4a78380329e1d4718852546533b91d37352ef6041dbabd86"), looks := true }, kinds := [], alts := [], laidByText := true, laidKinds := [.handle], laidTests := true, laidLooks := .later }
def ApplyBetweenCardSaid : Prop := Claim7.holds Tryd.pinned (.plain (OpenSpec.ofChange applyBetweenSpec)) applyBetweenCard

/-- THE TIED CARD OF 'bolterlaw10.ApplyBack'. -/
def applyBackCard : Claim7 := { stood := { row := applyBackRow, standIns := [], harness := (true, "a12128b3625d938c4a78380329e1d4718852546533b91d37352ef6041dbabd86"), looks := true }, kinds := [], alts := [], laidByText := true, laidKinds := [.handle], laidTests := true, laidLooks := .later }
def ApplyBackCardSaid : Prop := Claim7.holds Tryd.pinned (.plain (OpenSpec.ofChange applyBackSpec)) applyBackCard

/-- THE TIED CARD OF 'bolterlaw10.ApplyChain'. -/
def applyChainCard : Claim7 := { stood := { row := applyChainRow, standIns := [], harness := (true, "a12128b3625d938c4a78380329e1d4718852546533b91d37352ef6041dbabd86"), looks := true }, kinds := [], alts := [], laidByText := true, laidKinds := [.handle], laidTests := true, laidLooks := .later }
def ApplyChainCardSaid : Prop := Claim7.holds Tryd.pinned (.plain (OpenSpec.ofChange applyChainSpec)) applyChainCard

/-- THE TIED CARD OF 'bolterlaw10.ApplyQuota'. -/
def applyQuotaCard : Claim7 := { stood := { row := applyQuotaRow, standIns := [], harness := (true, "a12128b3625d938c4a78380329e1d4718852546533b91d37352ef6041dbabd86"), looks := true }, kinds := [], alts := [], laidByText := true, laidKinds := [.handle], laidTests := true, laidLooks := .later }
def ApplyQuotaCardSaid : Prop := Claim7.holds Tryd.pinned (.plain (OpenSpec.ofChange applyQuotaSpec)) applyQuotaCard

/-- THE SECOND FORM's CARD OF 'bolterlaw08.ZoneInsert'. -/
def zoneInsertUptoCard : Claim7 := { stood := { row := zoneInsertUptoRow, standIns := [], harness := (true, "a12128b3625d938c4a78380329e1d4718852546533b91d37352ef6041dbabd86"), looks := true }, kinds := [], alts := [], laidByText := true, laidKinds := [.handle], laidTests := true, laidLooks := .later }
def ZoneInsertUptoCardSaid : Prop := Claim7.holds Tryd.pinned (.plain (OpenSpec.upto zoneInsertSpec)) zoneInsertUptoCard

/-- THE SECOND FORM's CARD OF 'bolterlaw10.ApplyDelta'. -/
def applyDeltaUptoCard : Claim7 := { stood := { row := applyDeltaUptoRow, standIns := [], harness := (true, "a12128b3625d938c4a78380329e1d4718852546533b91d37352ef6041dbabd86"), looks := true }, kinds := [], alts := [], laidByText := true, laidKinds := [.handle], laidTests := true, laidLooks := .later }
def ApplyDeltaUptoCardSaid : Prop := Claim7.holds Tryd.pinned (.plain (OpenSpec.upto applyDeltaSpec)) applyDeltaUptoCard

/-- THE SECOND FORM's CARD OF 'bolterlaw10.ApplyBetween'. -/
def applyBetweenUptoCard : Claim7 := { stood := { row := applyBetweenUptoRow, standIns := [], harness := (true, "a12128b3625d938c4a78380329e1d4718852546533b91d37352ef6041dbabd86"), looks := true }, kinds := [], alts := [], laidByText := true, laidKinds := [.handle], laidTests := true, laidLooks := .later }
def ApplyBetweenUptoCardSaid : Prop := Claim7.holds Tryd.pinned (.plain (OpenSpec.upto applyBetweenSpec)) applyBetweenUptoCard

/-- THE SECOND FORM's CARD OF 'bolterlaw10.ApplyBack'. -/
def applyBackUptoCard : Claim7 := { stood := { row := applyBackUptoRow, standIns := [], harness := (true, "a12128b3625d938c4a78380329e1d4718852546533b91d37352ef6041dbabd86"), looks := true }, kinds := [], alts := [], laidByText := true, laidKinds := [.handle], laidTests := true, laidLooks := .later }
def ApplyBackUptoCardSaid : Prop := Claim7.holds Tryd.pinned (.plain (OpenSpec.upto applyBackSpec)) applyBackUptoCard

/-- THE SECOND FORM's CARD OF 'bolterlaw10.ApplyChain'. -/
def applyChainUptoCard : Claim7 := { stood := { row := applyChainUptoRow, standIns := [], harness := (true, "a12128b3625d938c4a78380329e1d4718852546533b91d37352ef6041dbabd86"), looks := true }, kinds := [], alts := [], laidByText := true, laidKinds := [.handle], laidTests := true, laidLooks := .later }
def ApplyChainUptoCardSaid : Prop := Claim7.holds Tryd.pinned (.plain (OpenSpec.upto applyChainSpec)) applyChainUptoCard

/-- THE SECOND FORM's CARD OF 'bolterlaw10.ApplyQuota'. -/
def applyQuotaUptoCard : Claim7 := { stood := { row := applyQuotaUptoRow, standIns := [], harness := (true, "a12128b3625d938c4a78380329e1d4718852546533b91d37352ef6041dbabd86"), looks := true }, kinds := [], alts := [], laidByText := true, laidKinds := [.handle], laidTests := true, laidLooks := .later }
def ApplyQuotaUptoCardSaid : Prop := Claim7.holds Tryd.pinned (.plain (OpenSpec.upto applyQuotaSpec)) applyQuotaUptoCard
end Rows
end Go.Proofs.YtdajglfbbcbgpaaDoor
