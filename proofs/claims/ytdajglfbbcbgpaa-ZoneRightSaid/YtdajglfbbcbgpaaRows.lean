/-
  No cell of these rows narrows 'for every input' (looked for: loops, veiled, ifaces, maps, wideKeys, modest, calm, conditions, laid).
  DERIVED. THE GIVEN ROWS OF THIS SEAT. 5 by the template 'for every input the law returns true; each argument reads behind the call as it read before'; 0 by the template 'total and deterministic' (their statements: YtdajglfbbcbgpaaTotals.lean).
  GIVEN WITH THE SEED: the statements are not yours to turn. If you find one false, say at which input.
  Laid BY PROGRAM, IN A SANDBOX (cutbox-rows.mjs): the forced cells as the released guide's own fill.sh prints them over the translation a4f1d5be2e5cfcb1… (all of the seat's roots in one cut). By AI agents, Wed Nov 11 2026. No macro, syntax, notation, axiom, sorry.
-/
import Derived.Test.YtdajglfbbcbgpaaChecked
import GoSem.Claim
import GoSem.ClaimJoined
import GoSem.ClaimMapViews
import Derived.JoinedTies
import Derived.KernelRfl
namespace Go.Proofs.Ytdajglfbbcbgpaa
/- THE CELL 'sum', in the pinned program and in every row, IS THE sha256 OF THE DUMP (.gsa) THAT YtdajglfbbcbgpaaProg.lean LOADS. Nothing in Lean hashes anything: it is a label: what it is worth is what the hold of that sum in a sandbox is worth. -/
noncomputable def Try.pinned : Pinned := { name := "ytdajglfbbcbgpaa", sum := "a4f1d5be2e5cfcb15e8ff51cac9fd08c7cb14938866fc4f37a44356445d8c8a9", checked := Try.checked }
namespace Rows
def none {H : Type} : Left H := { results := [], args := [] }

/-- 'bolterlaw08.ZoneCompare': WHATEVER THE INPUT: true; the input reads as it did. -/
def zoneCompareSpec : ChangeSpec := { name := "zoneCompare", fn := fun _ => fun
  | [d1, d2, d3] => { results := [.lit (.bool true)], args := [d1, d2, d3] }
  | _ => none }
def zoneCompareRow : OpenClaim := { program := "ytdajglfbbcbgpaa", sum := "a4f1d5be2e5cfcb15e8ff51cac9fd08c7cb14938866fc4f37a44356445d8c8a9", func := "bolter/bolterlaw08.ZoneCompare", spec := "zoneCompare", inPlace := ["slices.overlaps[bolter/api.Record]"], unfollowed := true, recurses := true, apart := false }
def ZoneCompareSaid : Prop := zoneCompareRow.holds Try.pinned (OpenSpec.ofChange zoneCompareSpec)

/-- ITS FALSE NEIGHBOUR: 'it returns false'. Refute it at one input. -/
def zoneCompareWrong : ChangeSpec := { name := "zoneCompare", fn := fun _ => fun
  | [d1, d2, d3] => { results := [.lit (.bool false)], args := [d1, d2, d3] }
  | _ => none }
def ZoneCompareWrongFalsely : Prop := zoneCompareRow.holds Try.pinned (OpenSpec.ofChange zoneCompareWrong)

/-- 'bolterlaw08.ZoneFits': WHATEVER THE INPUT: true; the input reads as it did. -/
def zoneFitsSpec : ChangeSpec := { name := "zoneFits", fn := fun _ => fun
  | [d1, d2] => { results := [.lit (.bool true)], args := [d1, d2] }
  | _ => none }
def zoneFitsRow : OpenClaim := { program := "ytdajglfbbcbgpaa", sum := "a4f1d5be2e5cfcb15e8ff51cac9fd08c7cb14938866fc4f37a44356445d8c8a9", func := "bolter/bolterlaw08.ZoneFits", spec := "zoneFits", inPlace := ["slices.overlaps[bolter/api.Record]"], unfollowed := true, recurses := true, apart := false }
def ZoneFitsSaid : Prop := zoneFitsRow.holds Try.pinned (OpenSpec.ofChange zoneFitsSpec)

/-- ITS FALSE NEIGHBOUR: 'it returns false'. Refute it at one input. -/
def zoneFitsWrong : ChangeSpec := { name := "zoneFits", fn := fun _ => fun
  | [d1, d2] => { results := [.lit (.bool false)], args := [d1, d2] }
  | _ => none }
def ZoneFitsWrongFalsely : Prop := zoneFitsRow.holds Try.pinned (OpenSpec.ofChange zoneFitsWrong)

/-- 'bolterlaw08.ZoneSoa': WHATEVER THE INPUT: true; the input reads as it did. -/
def zoneSoaSpec : ChangeSpec := { name := "zoneSoa", fn := fun _ => fun
  | [d] => { results := [.lit (.bool true)], args := [d] }
  | _ => none }
def zoneSoaRow : OpenClaim := { program := "ytdajglfbbcbgpaa", sum := "a4f1d5be2e5cfcb15e8ff51cac9fd08c7cb14938866fc4f37a44356445d8c8a9", func := "bolter/bolterlaw08.ZoneSoa", spec := "zoneSoa", inPlace := ["slices.overlaps[bolter/api.Record]", "internal/abi.NoEscape"], unfollowed := true, recurses := true, apart := false }
def ZoneSoaSaid : Prop := zoneSoaRow.holds Try.pinned (OpenSpec.ofChange zoneSoaSpec)

/-- ITS FALSE NEIGHBOUR: 'it returns false'. Refute it at one input. -/
def zoneSoaWrong : ChangeSpec := { name := "zoneSoa", fn := fun _ => fun
  | [d] => { results := [.lit (.bool false)], args := [d] }
  | _ => none }
def ZoneSoaWrongFalsely : Prop := zoneSoaRow.holds Try.pinned (OpenSpec.ofChange zoneSoaWrong)

/-- 'bolterlaw08.ZoneAt': WHATEVER THE INPUT: true; the input reads as it did. -/
def zoneAtSpec : ChangeSpec := { name := "zoneAt", fn := fun _ => fun
  | [d1, d2] => { results := [.lit (.bool true)], args := [d1, d2] }
  | _ => none }
def zoneAtRow : OpenClaim := { program := "ytdajglfbbcbgpaa", sum := "a4f1d5be2e5cfcb15e8ff51cac9fd08c7cb14938866fc4f37a44356445d8c8a9", func := "bolter/bolterlaw08.ZoneAt", spec := "zoneAt", inPlace := ["slices.overlaps[bolter/api.Record]", "internal/abi.NoEscape"], unfollowed := true, recurses := true, apart := false }
def ZoneAtSaid : Prop := zoneAtRow.holds Try.pinned (OpenSpec.ofChange zoneAtSpec)

/-- ITS FALSE NEIGHBOUR: 'it returns false'. Refute it at one input. -/
def zoneAtWrong : ChangeSpec := { name := "zoneAt", fn := fun _ => fun
  | [d1, d2] => { results := [.lit (.bool false)], args := [d1, d2] }
  | _ => none }
def ZoneAtWrongFalsely : Prop := zoneAtRow.holds Try.pinned (OpenSpec.ofChange zoneAtWrong)

/-- 'bolterlaw08.ZoneRight': WHATEVER THE INPUT: true; the input reads as it did. -/
def zoneRightSpec : ChangeSpec := { name := "zoneRight", fn := fun _ => fun
  | [d1, d2, d3] => { results := [.lit (.bool true)], args := [d1, d2, d3] }
  | _ => none }
def zoneRightRow : OpenClaim := { program := "ytdajglfbbcbgpaa", sum := "a4f1d5be2e5cfcb15e8ff51cac9fd08c7cb14938866fc4f37a44356445d8c8a9", func := "bolter/bolterlaw08.ZoneRight", spec := "zoneRight", inPlace := ["slices.overlaps[bolter/api.Record]", "internal/abi.NoEscape"], unfollowed := true, recurses := true, apart := false }
def ZoneRightSaid : Prop := zoneRightRow.holds Try.pinned (OpenSpec.ofChange zoneRightSpec)

/-- ITS FALSE NEIGHBOUR: 'it returns false'. Refute it at one input. -/
def zoneRightWrong : ChangeSpec := { name := "zoneRight", fn := fun _ => fun
  | [d1, d2, d3] => { results := [.lit (.bool false)], args := [d1, d2, d3] }
  | _ => none }
def ZoneRightWrongFalsely : Prop := zoneRightRow.holds Try.pinned (OpenSpec.ofChange zoneRightWrong)

/- THE SECOND FORM. 'bulk': how many values and letters a reading holds, each counted each time it is reached (what is shared counts as often as it is met; a slice's spare places count too). A statement '..UptoSaid' is the law's where the arguments, and the package variables that the reading takes, are together of bulk at most 1048576: NARROWER than '..Said'. Prove '..Said' where nothing that the law and all that it calls make is longer than what came in: it says more and counts as full. Else prove '..UptoSaid'. A law counts once. -/
mutual
def uptoBulk {H : Type} : DataW H → Nat
  | .lit (.string bytes) => bytes.length + 1
  | .lit _ => 1
  | .nil => 1
  | .ptr d => uptoBulk d + 1
  | .slice elems spare => uptoBulkAll elems + uptoBulkAll spare + 1
  | .agg parts => uptoBulkAll parts + 1
  | .iface _ d => uptoBulk d + 1
  | .map entries => uptoBulkEntries entries + 1
  | .held _ => 1
def uptoBulkAll {H : Type} : List (DataW H) → Nat
  | [] => 0
  | d :: r => uptoBulk d + uptoBulkAll r
def uptoBulkEntries {H : Type} : List (Lit × DataW H) → Nat
  | [] => 0
  | x :: r => uptoBulkEntry x + uptoBulkEntries r
def uptoBulkEntry {H : Type} : Lit × DataW H → Nat
  | (.string bytes, d) => bytes.length + uptoBulk d + 1
  | (_, d) => uptoBulk d + 1
 end
def uptoSmall : (H : Type) → List (DataW H) → Bool := fun _ ds => decide (uptoBulkAll ds ≤ 1048576)
def OpenSpec.upto (s : _root_.Go.ChangeSpec) : _root_.Go.OpenSpec := { _root_.Go.OpenSpec.ofChange s with cond := some uptoSmall }

/-- 'bolterlaw08.ZoneCompare', WHERE WHAT IT READS IS OF BULK AT MOST 1048576: true; the input reads as it did. -/
def zoneCompareUptoRow : OpenClaim := { program := "ytdajglfbbcbgpaa", sum := "a4f1d5be2e5cfcb15e8ff51cac9fd08c7cb14938866fc4f37a44356445d8c8a9", func := "bolter/bolterlaw08.ZoneCompare", spec := "zoneCompare", inPlace := ["slices.overlaps[bolter/api.Record]"], unfollowed := true, recurses := true, apart := false, narrowed := true }
def ZoneCompareUptoSaid : Prop := zoneCompareUptoRow.holds Try.pinned (OpenSpec.upto zoneCompareSpec)

/-- 'bolterlaw08.ZoneFits', WHERE WHAT IT READS IS OF BULK AT MOST 1048576: true; the input reads as it did. -/
def zoneFitsUptoRow : OpenClaim := { program := "ytdajglfbbcbgpaa", sum := "a4f1d5be2e5cfcb15e8ff51cac9fd08c7cb14938866fc4f37a44356445d8c8a9", func := "bolter/bolterlaw08.ZoneFits", spec := "zoneFits", inPlace := ["slices.overlaps[bolter/api.Record]"], unfollowed := true, recurses := true, apart := false, narrowed := true }
def ZoneFitsUptoSaid : Prop := zoneFitsUptoRow.holds Try.pinned (OpenSpec.upto zoneFitsSpec)

/-- 'bolterlaw08.ZoneSoa', WHERE WHAT IT READS IS OF BULK AT MOST 1048576: true; the input reads as it did. -/
def zoneSoaUptoRow : OpenClaim := { program := "ytdajglfbbcbgpaa", sum := "a4f1d5be2e5cfcb15e8ff51cac9fd08c7cb14938866fc4f37a44356445d8c8a9", func := "bolter/bolterlaw08.ZoneSoa", spec := "zoneSoa", inPlace := ["slices.overlaps[bolter/api.Record]", "internal/abi.NoEscape"], unfollowed := true, recurses := true, apart := false, narrowed := true }
def ZoneSoaUptoSaid : Prop := zoneSoaUptoRow.holds Try.pinned (OpenSpec.upto zoneSoaSpec)

/-- 'bolterlaw08.ZoneAt', WHERE WHAT IT READS IS OF BULK AT MOST 1048576: true; the input reads as it did. -/
def zoneAtUptoRow : OpenClaim := { program := "ytdajglfbbcbgpaa", sum := "a4f1d5be2e5cfcb15e8ff51cac9fd08c7cb14938866fc4f37a44356445d8c8a9", func := "bolter/bolterlaw08.ZoneAt", spec := "zoneAt", inPlace := ["slices.overlaps[bolter/api.Record]", "internal/abi.NoEscape"], unfollowed := true, recurses := true, apart := false, narrowed := true }
def ZoneAtUptoSaid : Prop := zoneAtUptoRow.holds Try.pinned (OpenSpec.upto zoneAtSpec)

/-- 'bolterlaw08.ZoneRight', WHERE WHAT IT READS IS OF BULK AT MOST 1048576: true; the input reads as it did. -/
def zoneRightUptoRow : OpenClaim := { program := "ytdajglfbbcbgpaa", sum := "a4f1d5be2e5cfcb15e8ff51cac9fd08c7cb14938866fc4f37a44356445d8c8a9", func := "bolter/bolterlaw08.ZoneRight", spec := "zoneRight", inPlace := ["slices.overlaps[bolter/api.Record]", "internal/abi.NoEscape"], unfollowed := true, recurses := true, apart := false, narrowed := true }
def ZoneRightUptoSaid : Prop := zoneRightUptoRow.holds Try.pinned (OpenSpec.upto zoneRightSpec)

end Rows
end Go.Proofs.Ytdajglfbbcbgpaa
