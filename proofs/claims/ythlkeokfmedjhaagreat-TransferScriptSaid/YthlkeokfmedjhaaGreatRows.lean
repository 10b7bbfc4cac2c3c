/-
  No cell of these rows narrows 'for every input' (looked for: loops, veiled, ifaces, maps, wideKeys, modest, calm, conditions, laid).
  DERIVED. THE GIVEN ROWS OF THIS SEAT. 4 by the template 'for every input the law returns true; each argument reads behind the call as it read before'; 0 by the template 'total and deterministic' (their statements: YthlkeokfmedjhaaGreatTotals.lean).
  GIVEN WITH THE SEED: the statements are not yours to turn. If you find one false, say at which input.
  Laid BY PROGRAM, IN A SANDBOX (cutbox-rows.mjs): the forced cells as the released guide's own fill.sh prints them over the translation c8012398d7401761… (all of the seat's roots in one cut). By AI agents, Wed Nov 11 2026. No macro, syntax, notation, axiom, sorry.
-/
import Derived.Test.YthlkeokfmedjhaaGreatChecked
import GoSem.Claim
import GoSem.ClaimJoined
import GoSem.ClaimMapViews
import Derived.JoinedTies
import Derived.KernelRfl
namespace Go.Proofs.YthlkeokfmedjhaaGreat
/- THE CELL 'sum', in the pinned program and in every row, IS THE sha256 OF THE DUMP (.gsa) THAT YthlkeokfmedjhaaGreatProg.lean LOADS. Nothing in Lean hashes anything: it is a label: what it is worth is what the hold of that sum in a sandbox is worth. -/
noncomputable def Tryz.pinned : Pinned := { name := "ythlkeokfmedjhaagreat", sum := "c8012398d7401761a35bfd08ef8fda0dbaadd20b2b14c972303699cd46ffe730", checked := Tryz.checked }
namespace Rows
def none {H : Type} : Left H := { results := [], args := [] }

/-- 'bolterlaw11.TransferFalls': WHATEVER THE INPUT: true; the input reads as it did. -/
def transferFallsSpec : ChangeSpec := { name := "transferFalls", fn := fun _ => fun
  | [d1, d2, d3] => { results := [.lit (.bool true)], args := [d1, d2, d3] }
  | _ => none }
def transferFallsRow : OpenClaim := { program := "ythlkeokfmedjhaagreat", sum := "c8012398d7401761a35bfd08ef8fda0dbaadd20b2b14c972303699cd46ffe730", func := "bolter/bolterlaw11.TransferFalls", spec := "transferFalls", inPlace := ["internal/abi.NoEscape", "slices.overlaps[bolter/api.Record]"], unfollowed := true, recurses := true, apart := false }
def TransferFallsSaid : Prop := transferFallsRow.holds Tryz.pinned (OpenSpec.ofChange transferFallsSpec)

/-- ITS FALSE NEIGHBOUR: 'it returns false'. Refute it at one input. -/
def transferFallsWrong : ChangeSpec := { name := "transferFalls", fn := fun _ => fun
  | [d1, d2, d3] => { results := [.lit (.bool false)], args := [d1, d2, d3] }
  | _ => none }
def TransferFallsWrongFalsely : Prop := transferFallsRow.holds Tryz.pinned (OpenSpec.ofChange transferFallsWrong)

/-- 'bolterlaw11.TransferOver': WHATEVER THE INPUT: true; the input reads as it did. -/
def transferOverSpec : ChangeSpec := { name := "transferOver", fn := fun _ => fun
  | [d1, d2, d3] => { results := [.lit (.bool true)], args := [d1, d2, d3] }
  | _ => none }
def transferOverRow : OpenClaim := { program := "ythlkeokfmedjhaagreat", sum := "c8012398d7401761a35bfd08ef8fda0dbaadd20b2b14c972303699cd46ffe730", func := "bolter/bolterlaw11.TransferOver", spec := "transferOver", inPlace := ["internal/abi.NoEscape", "slices.overlaps[bolter/api.Record]"], unfollowed := true, recurses := true, apart := false }
def TransferOverSaid : Prop := transferOverRow.holds Tryz.pinned (OpenSpec.ofChange transferOverSpec)

/-- ITS FALSE NEIGHBOUR: 'it returns false'. Refute it at one input. -/
def transferOverWrong : ChangeSpec := { name := "transferOver", fn := fun _ => fun
  | [d1, d2, d3] => { results := [.lit (.bool false)], args := [d1, d2, d3] }
  | _ => none }
def TransferOverWrongFalsely : Prop := transferOverRow.holds Tryz.pinned (OpenSpec.ofChange transferOverWrong)

/-- 'bolterlaw11.TransferComes': WHATEVER THE INPUT: true; the input reads as it did. -/
def transferComesSpec : ChangeSpec := { name := "transferComes", fn := fun _ => fun
  | [d1, d2, d3, d4] => { results := [.lit (.bool true)], args := [d1, d2, d3, d4] }
  | _ => none }
def transferComesRow : OpenClaim := { program := "ythlkeokfmedjhaagreat", sum := "c8012398d7401761a35bfd08ef8fda0dbaadd20b2b14c972303699cd46ffe730", func := "bolter/bolterlaw11.TransferComes", spec := "transferComes", inPlace := ["internal/abi.NoEscape", "slices.overlaps[bolter/api.Record]"], unfollowed := true, recurses := true, apart := false }
def TransferComesSaid : Prop := transferComesRow.holds Tryz.pinned (OpenSpec.ofChange transferComesSpec)

/-- ITS FALSE NEIGHBOUR: 'it returns false'. Refute it at one input. -/
def transferComesWrong : ChangeSpec := { name := "transferComes", fn := fun _ => fun
  | [d1, d2, d3, d4] => { results := [.lit (.bool false)], args := [d1, d2, d3, d4] }
  | _ => none }
def TransferComesWrongFalsely : Prop := transferComesRow.holds Tryz.pinned (OpenSpec.ofChange transferComesWrong)

/-- 'bolterlaw11.TransferScript': WHATEVER THE INPUT: true; the input reads as it did. -/
def transferScriptSpec : ChangeSpec := { name := "transferScript", fn := fun _ => fun
  | [d1, d2] => { results := [.lit (.bool true)], args := [d1, d2] }
  | _ => none }
def transferScriptRow : OpenClaim := { program := "ythlkeokfmedjhaagreat", sum := "c8012398d7401761a35bfd08ef8fda0dbaadd20b2b14c972303699cd46ffe730", func := "bolter/bolterlaw11.TransferScript", spec := "transferScript", inPlace := ["internal/abi.NoEscape", "slices.overlaps[bolter/api.Record]"], unfollowed := true, recurses := true, apart := false }
def TransferScriptSaid : Prop := transferScriptRow.holds Tryz.pinned (OpenSpec.ofChange transferScriptSpec)

/-- ITS FALSE NEIGHBOUR: 'it returns false'. Refute it at one input. -/
def transferScriptWrong : ChangeSpec := { name := "transferScript", fn := fun _ => fun
  | [d1, d2] => { results := [.lit (.bool false)], args := [d1, d2] }
  | _ => none }
def TransferScriptWrongFalsely : Prop := transferScriptRow.holds Tryz.pinned (OpenSpec.ofChange transferScriptWrong)

/- THE SECOND FORM. 'bulk': how many values and letters a reading holds, each counted each time it is reached (what is shared counts as often as it is met; a slice's spare places count too). A statement '..UptoSaid' is the law's where the arguments, and the package variables that the reading takes, are together of bulk at most 1048576: NARROWER than '..Said'. Prove '..Said' where nothing that the law and all that it calls make is longer than what came in: it says more and counts as full. Else prove '..UptoSaid'. A law counts once. -/
mutual
def uptoBulk {H : Type} : DataW H → Nat
  | .lit (.string bytes) => bytes.length + 1
  | .lit _ => 1
  | .nil => 1
  | .ptr d => uptoBulk d + 1
  | .slice elems spare => uptoBulkAll elems + uptoBulkAll spare + 1
  | .agg parts => uptoBulkAll parts + 1
  | .iface _ d => uptoBulk d + 1
  | .map entries => uptoBulkEntries entries + 1
  | .held _ => 1
def uptoBulkAll {H : Type} : List (DataW H) → Nat
  | [] => 0
  | d :: r => uptoBulk d + uptoBulkAll r
def uptoBulkEntries {H : Type} : List (Lit × DataW H) → Nat
  | [] => 0
  | x :: r => uptoBulkEntry x + uptoBulkEntries r
def uptoBulkEntry {H : Type} : Lit × DataW H → Nat
  | (.string bytes, d) => bytes.length + uptoBulk d + 1
  | (_, d) => uptoBulk d + 1
 end
def uptoSmall : (H : Type) → List (DataW H) → Bool := fun _ ds => decide (uptoBulkAll ds ≤ 1048576)
def OpenSpec.upto (s : _root_.Go.ChangeSpec) : _root_.Go.OpenSpec := { _root_.Go.OpenSpec.ofChange s with cond := some uptoSmall }

/-- 'bolterlaw11.TransferFalls', WHERE WHAT IT READS IS OF BULK AT MOST 1048576: true; the input reads as it did. -/
def transferFallsUptoRow : OpenClaim := { program := "ythlkeokfmedjhaagreat", sum := "c8012398d7401761a35bfd08ef8fda0dbaadd20b2b14c972303699cd46ffe730", func := "bolter/bolterlaw11.TransferFalls", spec := "transferFalls", inPlace := ["internal/abi.NoEscape", "slices.overlaps[bolter/api.Record]"], unfollowed := true, recurses := true, apart := false, narrowed := true }
def TransferFallsUptoSaid : Prop := transferFallsUptoRow.holds Tryz.pinned (OpenSpec.upto transferFallsSpec)

/-- 'bolterlaw11.TransferOver', WHERE WHAT IT READS IS OF BULK AT MOST 1048576: true; the input reads as it did. -/
def transferOverUptoRow : OpenClaim := { program := "ythlkeokfmedjhaagreat", sum := "c8012398d7401761a35bfd08ef8fda0dbaadd20b2b14c972303699cd46ffe730", func := "bolter/bolterlaw11.TransferOver", spec := "transferOver", inPlace := ["internal/abi.NoEscape", "slices.overlaps[bolter/api.Record]"], unfollowed := true, recurses := true, apart := false, narrowed := true }
def TransferOverUptoSaid : Prop := transferOverUptoRow.holds Tryz.pinned (OpenSpec.upto transferOverSpec)

/-- 'bolterlaw11.TransferComes', WHERE WHAT IT READS IS OF BULK AT MOST 1048576: true; the input reads as it did. -/
def transferComesUptoRow : OpenClaim := { program := "ythlkeokfmedjhaagreat", sum := "c8012398d7401761a35bfd08ef8fda0dbaadd20b2b14c972303699cd46ffe730", func := "bolter/bolterlaw11.TransferComes", spec := "transferComes", inPlace := ["internal/abi.NoEscape", "slices.overlaps[bolter/api.Record]"], unfollowed := true, recurses := true, apart := false, narrowed := true }
def TransferComesUptoSaid : Prop := transferComesUptoRow.holds Tryz.pinned (OpenSpec.upto transferComesSpec)

/-- 'bolterlaw11.TransferScript', WHERE WHAT IT READS IS OF BULK AT MOST 1048576: true; the input reads as it did. -/
def transferScriptUptoRow : OpenClaim := { program := "ythlkeokfmedjhaagreat", sum := "c8012398d7401761a35bfd08ef8fda0dbaadd20b2b14c972303699cd46ffe730", func := "bolter/bolterlaw11.TransferScript", spec := "transferScript", inPlace := ["internal/abi.NoEscape", "slices.overlaps[bolter/api.Record]"], unfollowed := true, recurses := true, apart := false, narrowed := true }
def TransferScriptUptoSaid : Prop := transferScriptUptoRow.holds Tryz.pinned (OpenSpec.upto transferScriptSpec)

end Rows
end Go.Proofs.YthlkeokfmedjhaaGreat
