/-
  NARROWER THAN 'FOR EVERY INPUT', by the rows' own cells (each row's printed sentence says how): ZoneInsert: laid · ApplyDelta: laid · ApplyBetween: laid · ApplyBack: laid · ApplyChain: laid · ApplyQuota: laid.
  DERIVED. THE GIVEN ROWS OF THIS SEAT. 6 by the template 'for every input the law returns true; each argument reads behind the call as it read before'; 0 by the template 'total and deterministic' (their statements: YtdajglfbbcbgpaaDoorTotals.lean).
  GIVEN WITH THE SEED: the statements are not yours to turn. If you find one false, say at which input.
  Laid BY PROGRAM, IN A SANDBOX (cutbox-rows.mjs): the forced cells as the released guide's own fill.sh prints them over the translation c284453e6c2da385… (all of the seat's roots in one cut). By AI agents, Wed Nov 11 2026. No macro, syntax, notation, axiom, sorry.
-/
import Derived.Test.YtdajglfbbcbgpaaDoorChecked
import GoSem.Claim
import GoSem.ClaimJoined
import GoSem.ClaimMapViews
import Derived.JoinedTies
import Derived.KernelRfl
namespace Go.Proofs.YtdajglfbbcbgpaaDoor
/- THE CELL 'sum', in the pinned program and in every row, IS THE sha256 OF THE DUMP (.gsa) THAT YtdajglfbbcbgpaaDoorProg.lean LOADS. Nothing in Lean hashes anything: it is a label: what it is worth is what the hold of that sum in a sandbox is worth. -/
noncomputable def Tryd.pinned : Pinned := { name := "ytdajglfbbcbgpaadoor", sum := "c284453e6c2da3859191c2c382cea5d0c0a20e6b9370f7fe9f6fb56ff5ae59e3", checked := Tryd.checked }
namespace Rows
def none {H : Type} : Left H := { results := [], args := [] }

/- WHAT THE LISTED PACKAGE-LEVEL VARIABLES READ AS WHEN THE CALL BEGINS. Each datum BY PROGRAM (the guide's laid-datum.mjs) off the statement by which the dump's own 'gosem.cut.vars' lays the variable. In a bare row this is a premise. The card (YtdajglfbbcbgpaaDoorCards.lean) ties it to the program's text. -/
def laid_errors_errorType {H : Type} : DataW H := .iface "internal/reflectlite.rtype" (.agg [.ptr (.lit (.string [101, 114, 114, 111, 114]))])

/-- 'bolterlaw08.ZoneInsert': WHATEVER THE INPUT: true; the input reads as it did. -/
def zoneInsertSpec : ChangeSpec := { name := "zoneInsert", fn := fun _ => fun
  | [d1, d2, d3] => { results := [.lit (.bool true)], args := [d1, d2, d3] }
  | _ => none }
def zoneInsertRow : OpenClaim := { program := "ytdajglfbbcbgpaadoor", sum := "c284453e6c2da3859191c2c382cea5d0c0a20e6b9370f7fe9f6fb56ff5ae59e3", func := "bolter/bolterlaw08.ZoneInsert", spec := "zoneInsert", inPlace := ["slices.overlaps[bolter/api.Record]", "internal/abi.NoEscape", "internal/reflectlite.ValueOf", "(internal/reflectlite.Value).Type", "(internal/reflectlite.Value).IsNil", "internal/reflectlite.TypeOf", "(internal/reflectlite.Value).Elem", "(internal/reflectlite.Value).Set"], unfollowed := true, recurses := true, named := ["errors.errorType"], apart := false, laid := [("errors.errorType", laid_errors_errorType)] }
def ZoneInsertSaid : Prop := zoneInsertRow.holds Tryd.pinned (OpenSpec.ofChange zoneInsertSpec)

/-- ITS FALSE NEIGHBOUR: 'it returns false'. Refute it at one input. -/
def zoneInsertWrong : ChangeSpec := { name := "zoneInsert", fn := fun _ => fun
  | [d1, d2, d3] => { results := [.lit (.bool false)], args := [d1, d2, d3] }
  | _ => none }
def ZoneInsertWrongFalsely : Prop := zoneInsertRow.holds Tryd.pinned (OpenSpec.ofChange zoneInsertWrong)

/-- 'bolterlaw10.ApplyDelta': WHATEVER THE INPUT: true; the input reads as it did. -/
def applyDeltaSpec : ChangeSpec := { name := "applyDelta", fn := fun _ => fun
  | [d1, d2, d3, d4, d5, d6] => { results := [.lit (.bool true)], args := [d1, d2, d3, d4, d5, d6] }
  | _ => none }
def applyDeltaRow : OpenClaim := { program := "ytdajglfbbcbgpaadoor", sum := "c284453e6c2da3859191c2c382cea5d0c0a20e6b9370f7fe9f6fb56ff5ae59e3", func := "bolter/bolterlaw10.ApplyDelta", spec := "applyDelta", inPlace := ["internal/abi.NoEscape", "slices.overlaps[bolter/api.Record]", "internal/reflectlite.ValueOf", "(internal/reflectlite.Value).Type", "(internal/reflectlite.Value).IsNil", "internal/reflectlite.TypeOf", "(internal/reflectlite.Value).Elem", "(internal/reflectlite.Value).Set"], unfollowed := true, recurses := true, named := ["errors.errorType"], apart := false, laid := [("errors.errorType", laid_errors_errorType)] }
def ApplyDeltaSaid : Prop := applyDeltaRow.holds Tryd.pinned (OpenSpec.ofChange applyDeltaSpec)

/-- ITS FALSE NEIGHBOUR: 'it returns false'. Refute it at one input. -/
def applyDeltaWrong : ChangeSpec := { name := "applyDelta", fn := fun _ => fun
  | [d1, d2, d3, d4, d5, d6] => { results := [.lit (.bool false)], args := [d1, d2, d3, d4, d5, d6] }
  | _ => none }
def ApplyDeltaWrongFalsely : Prop := applyDeltaRow.holds Tryd.pinned (OpenSpec.ofChange applyDeltaWrong)

/-- 'bolterlaw10.ApplyBetween': WHATEVER THE INPUT: true; the input reads as it did. -/
def applyBetweenSpec : ChangeSpec := { name := "applyBetween", fn := fun _ => fun
  | [d1, d2, d3, d4, d5] => { results := [.lit (.bool true)], args := [d1, d2, d3, d4, d5] }
  | _ => none }
def applyBetweenRow : OpenClaim := { program := "ytdajglfbbcbgpaadoor", sum := "c284453e6c2da3859191c2c382cea5d0c0a20e6b9370f7fe9f6fb56ff5ae59e3", func := "bolter/bolterlaw10.ApplyBetween", spec := "applyBetween", inPlace := ["internal/abi.NoEscape", "slices.overlaps[bolter/api.Record]", "internal/reflectlite.ValueOf", "(internal/reflectlite.Value).Type", "(internal/reflectlite.Value).IsNil", "internal/reflectlite.TypeOf", "(internal/reflectlite.Value).Elem", "(internal/reflectlite.Value).Set"], unfollowed := true, recurses := true, named := ["errors.errorType"], apart := false, laid := [("errors.errorType", laid_errors_errorType)] }
def ApplyBetweenSaid : Prop := applyBetweenRow.holds Tryd.pinned (OpenSpec.ofChange applyBetweenSpec)

/-- ITS FALSE NEIGHBOUR: 'it returns false'. Refute it at one input. -/
def applyBetweenWrong : ChangeSpec := { name := "applyBetween", fn := fun _ => fun
  | [d1, d2, d3, d4, d5] => { results := [.lit (.bool false)], args := [d1, d2, d3, d4, d5] }
  | _ => none }
def ApplyBetweenWrongFalsely : Prop := applyBetweenRow.holds Tryd.pinned (OpenSpec.ofChange applyBetweenWrong)

/-- 'bolterlaw10.ApplyBack': WHATEVER THE INPUT: true; the input reads as it did. -/
def applyBackSpec : ChangeSpec := { name := "applyBack", fn := fun _ => fun
  | [d1, d2, d3] => { results := [.lit (.bool true)], args := [d1, d2, d3] }
  | _ => none }
def applyBackRow : OpenClaim := { program := "ytdajglfbbcbgpaadoor", sum := "c284453e6c2da3859191c2c382cea5d0c0a20e6b9370f7fe9f6fb56ff5ae59e3", func := "bolter/bolterlaw10.ApplyBack", spec := "applyBack", inPlace := ["internal/abi.NoEscape", "slices.overlaps[bolter/api.Record]", "internal/reflectlite.ValueOf", "(internal/reflectlite.Value).Type", "(internal/reflectlite.Value).IsNil", "internal/reflectlite.TypeOf", "(internal/reflectlite.Value).Elem", "(internal/reflectlite.Value).Set"], unfollowed := true, recurses := true, named := ["errors.errorType"], apart := false, laid := [("errors.errorType", laid_errors_errorType)] }
def ApplyBackSaid : Prop := applyBackRow.holds Tryd.pinned (OpenSpec.ofChange applyBackSpec)

/-- ITS FALSE NEIGHBOUR: 'it returns false'. Refute it at one input. -/
def applyBackWrong : ChangeSpec := { name := "applyBack", fn := fun _ => fun
  | [d1, d2, d3] => { results := [.lit (.bool false)], args := [d1, d2, d3] }
  | _ => none }
def ApplyBackWrongFalsely : Prop := applyBackRow.holds Tryd.pinned (OpenSpec.ofChange applyBackWrong)

/-- 'bolterlaw10.ApplyChain': WHATEVER THE INPUT: true; the input reads as it did. -/
def applyChainSpec : ChangeSpec := { name := "applyChain", fn := fun _ => fun
  | [d1, d2, d3] => { results := [.lit (.bool true)], args := [d1, d2, d3] }
  | _ => none }
def applyChainRow : OpenClaim := { program := "ytdajglfbbcbgpaadoor", sum := "c284453e6c2da3859191c2c382cea5d0c0a20e6b9370f7fe9f6fb56ff5ae59e3", func := "bolter/bolterlaw10.ApplyChain", spec := "applyChain", inPlace := ["internal/abi.NoEscape", "slices.overlaps[bolter/api.Record]", "internal/reflectlite.ValueOf", "(internal/reflectlite.Value).Type", "(internal/reflectlite.Value).IsNil", "internal/reflectlite.TypeOf", "(internal/reflectlite.Value).Elem", "(internal/reflectlite.Value).Set"], unfollowed := true, recurses := true, named := ["errors.errorType"], apart := false, laid := [("errors.errorType", laid_errors_errorType)] }
def ApplyChainSaid : Prop := applyChainRow.holds Tryd.pinned (OpenSpec.ofChange applyChainSpec)

/-- ITS FALSE NEIGHBOUR: 'it returns false'. Refute it at one input. -/
def applyChainWrong : ChangeSpec := { name := "applyChain", fn := fun _ => fun
  | [d1, d2, d3] => { results := [.lit (.bool false)], args := [d1, d2, d3] }
  | _ => none }
def ApplyChainWrongFalsely : Prop := applyChainRow.holds Tryd.pinned (OpenSpec.ofChange applyChainWrong)

/-- 'bolterlaw10.ApplyQuota': WHATEVER THE INPUT: true; the input reads as it did. -/
def applyQuotaSpec : ChangeSpec := { name := "applyQuota", fn := fun _ => fun
  | [d1, d2] => { results := [.lit (.bool true)], args := [d1, d2] }
  | _ => none }
def applyQuotaRow : OpenClaim := { program := "ytdajglfbbcbgpaadoor", sum := "c284453e6c2da3859191c2c382cea5d0c0a20e6b9370f7fe9f6fb56ff5ae59e3", func := "bolter/bolterlaw10.ApplyQuota", spec := "applyQuota", inPlace := ["internal/abi.NoEscape", "slices.overlaps[bolter/api.Record]", "internal/reflectlite.ValueOf", "(internal/reflectlite.Value).Type", "(internal/reflectlite.Value).IsNil", "internal/reflectlite.TypeOf", "(internal/reflectlite.Value).Elem", "(internal/reflectlite.Value).Set"], unfollowed := true, recurses := true, named := ["errors.errorType"], apart := false, laid := [("errors.errorType", laid_errors_errorType)] }
def ApplyQuotaSaid : Prop := applyQuotaRow.holds Tryd.pinned (OpenSpec.ofChange applyQuotaSpec)

/-- ITS FALSE NEIGHBOUR: 'it returns false'. Refute it at one input. -/
def applyQuotaWrong : ChangeSpec := { name := "applyQuota", fn := fun _ => fun
  | [d1, d2] => { results := [.lit (.bool false)], args := [d1, d2] }
  | _ => none }
def ApplyQuotaWrongFalsely : Prop := applyQuotaRow.holds Tryd.pinned (OpenSpec.ofChange applyQuotaWrong)

/- THE SECOND FORM. 'bulk': how many values and letters a reading holds, each counted each time it is reached (what is shared counts as often as it is met; a slice's spare places count too). A statement '..UptoSaid' is the law's where the arguments, and the package variables that the reading takes, are together of bulk at most 1048576: NARROWER than '..Said'. Prove '..Said' where nothing that the law and all that it calls make is longer than what came in: it says more and counts as full. Else prove '..UptoSaid'. A law counts once. -/
mutual
def uptoBulk {H : Type} : DataW H → Nat
  | .lit (.string bytes) => bytes.length + 1
  | .lit _ => 1
  | .nil => 1
  | .ptr d => uptoBulk d + 1
  | .slice elems spare => uptoBulkAll elems + uptoBulkAll spare + 1
  | .agg parts => uptoBulkAll parts + 1
  | .iface _ d => uptoBulk d + 1
  | .map entries => uptoBulkEntries entries + 1
  | .held _ => 1
def uptoBulkAll {H : Type} : List (DataW H) → Nat
  | [] => 0
  | d :: r => uptoBulk d + uptoBulkAll r
def uptoBulkEntries {H : Type} : List (Lit × DataW H) → Nat
  | [] => 0
  | x :: r => uptoBulkEntry x + uptoBulkEntries r
def uptoBulkEntry {H : Type} : Lit × DataW H → Nat
  | (.string bytes, d) => bytes.length + uptoBulk d + 1
  | (_, d) => uptoBulk d + 1
 end
def uptoSmall : (H : Type) → List (DataW H) → Bool := fun _ ds => decide (uptoBulkAll ds ≤ 1048576)
def OpenSpec.upto (s : _root_.Go.ChangeSpec) : _root_.Go.OpenSpec := { _root_.Go.OpenSpec.ofChange s with cond := some uptoSmall }

/-- 'bolterlaw08.ZoneInsert', WHERE WHAT IT READS IS OF BULK AT MOST 1048576: true; the input reads as it did. -/
def zoneInsertUptoRow : OpenClaim := { program := "ytdajglfbbcbgpaadoor", sum := "c284453e6c2da3859191c2c382cea5d0c0a20e6b9370f7fe9f6fb56ff5ae59e3", func := "bolter/bolterlaw08.ZoneInsert", spec := "zoneInsert", inPlace := ["slices.overlaps[bolter/api.Record]", "internal/abi.NoEscape", "internal/reflectlite.ValueOf", "(internal/reflectlite.Value).Type", "(internal/reflectlite.Value).IsNil", "internal/reflectlite.TypeOf", "(internal/reflectlite.Value).Elem", "(internal/reflectlite.Value).Set"], unfollowed := true, recurses := true, named := ["errors.errorType"], apart := false, laid := [("errors.errorType", laid_errors_errorType)], narrowed := true }
def ZoneInsertUptoSaid : Prop := zoneInsertUptoRow.holds Tryd.pinned (OpenSpec.upto zoneInsertSpec)

/-- 'bolterlaw10.ApplyDelta', WHERE WHAT IT READS IS OF BULK AT MOST 1048576: true; the input reads as it did. -/
def applyDeltaUptoRow : OpenClaim := { program := "ytdajglfbbcbgpaadoor", sum := "c284453e6c2da3859191c2c382cea5d0c0a20e6b9370f7fe9f6fb56ff5ae59e3", func := "bolter/bolterlaw10.ApplyDelta", spec := "applyDelta", inPlace := ["internal/abi.NoEscape", "slices.overlaps[bolter/api.Record]", "internal/reflectlite.ValueOf", "(internal/reflectlite.Value).Type", "(internal/reflectlite.Value).IsNil", "internal/reflectlite.TypeOf", "(internal/reflectlite.Value).Elem", "(internal/reflectlite.Value).Set"], unfollowed := true, recurses := true, named := ["errors.errorType"], apart := false, laid := [("errors.errorType", laid_errors_errorType)], narrowed := true }
def ApplyDeltaUptoSaid : Prop := applyDeltaUptoRow.holds Tryd.pinned (OpenSpec.upto applyDeltaSpec)

/-- 'bolterlaw10.ApplyBetween', WHERE WHAT IT READS IS OF BULK AT MOST 1048576: true; the input reads as it did. -/
def applyBetweenUptoRow : OpenClaim := { program := "ytdajglfbbcbgpaadoor", sum := "c284453e6c2da3859191c2c382cea5d0c0a20e6b9370f7fe9f6fb56ff5ae59e3", func := "bolter/bolterlaw10.ApplyBetween", spec := "applyBetween", inPlace := ["internal/abi.NoEscape", "slices.overlaps[bolter/api.Record]", "internal/reflectlite.ValueOf", "(internal/reflectlite.Value).Type", "(internal/reflectlite.Value).IsNil", "internal/reflectlite.TypeOf", "(internal/reflectlite.Value).Elem", "(internal/reflectlite.Value).Set"], unfollowed := true, recurses := true, named := ["errors.errorType"], apart := false, laid := [("errors.errorType", laid_errors_errorType)], narrowed := true }
def ApplyBetweenUptoSaid : Prop := applyBetweenUptoRow.holds Tryd.pinned (OpenSpec.upto applyBetweenSpec)

/-- 'bolterlaw10.ApplyBack', WHERE WHAT IT READS IS OF BULK AT MOST 1048576: true; the input reads as it did. -/
def applyBackUptoRow : OpenClaim := { program := "ytdajglfbbcbgpaadoor", sum := "c284453e6c2da3859191c2c382cea5d0c0a20e6b9370f7fe9f6fb56ff5ae59e3", func := "bolter/bolterlaw10.ApplyBack", spec := "applyBack", inPlace := ["internal/abi.NoEscape", "slices.overlaps[bolter/api.Record]", "internal/reflectlite.ValueOf", "(internal/reflectlite.Value).Type", "(internal/reflectlite.Value).IsNil", "internal/reflectlite.TypeOf", "(internal/reflectlite.Value).Elem", "(internal/reflectlite.Value).Set"], unfollowed := true, recurses := true, named := ["errors.errorType"], apart := false, laid := [("errors.errorType", laid_errors_errorType)], narrowed := true }
def ApplyBackUptoSaid : Prop := applyBackUptoRow.holds Tryd.pinned (OpenSpec.upto applyBackSpec)

/-- 'bolterlaw10.ApplyChain', WHERE WHAT IT READS IS OF BULK AT MOST 1048576: true; the input reads as it did. -/
def applyChainUptoRow : OpenClaim := { program := "ytdajglfbbcbgpaadoor", sum := "c284453e6c2da3859191c2c382cea5d0c0a20e6b9370f7fe9f6fb56ff5ae59e3", func := "bolter/bolterlaw10.ApplyChain", spec := "applyChain", inPlace := ["internal/abi.NoEscape", "slices.overlaps[bolter/api.Record]", "internal/reflectlite.ValueOf", "(internal/reflectlite.Value).Type", "(internal/reflectlite.Value).IsNil", "internal/reflectlite.TypeOf", "(internal/reflectlite.Value).Elem", "(internal/reflectlite.Value).Set"], unfollowed := true, recurses := true, named := ["errors.errorType"], apart := false, laid := [("errors.errorType", laid_errors_errorType)], narrowed := true }
def ApplyChainUptoSaid : Prop := applyChainUptoRow.holds Tryd.pinned (OpenSpec.upto applyChainSpec)

/-- 'bolterlaw10.ApplyQuota', WHERE WHAT IT READS IS OF BULK AT MOST 1048576: true; the input reads as it did. -/
def applyQuotaUptoRow : OpenClaim := { program := "ytdajglfbbcbgpaadoor", sum := "c284453e6c2da3859191c2c382cea5d0c0a20e6b9370f7fe9f6fb56ff5ae59e3", func := "bolter/bolterlaw10.ApplyQuota", spec := "applyQuota", inPlace := ["internal/abi.NoEscape", "slices.overlaps[bolter/api.Record]", "internal/reflectlite.ValueOf", "(internal/reflectlite.Value).Type", "(internal/reflectlite.Value).IsNil", "internal/reflectlite.TypeOf", "(internal/reflectlite.Value).Elem", "(internal/reflectlite.Value).Set"], unfollowed := true, recurses := true, named := ["errors.errorType"], apart := false, laid := [("errors.errorType", laid_errors_errorType)], narrowed := true }
def ApplyQuotaUptoSaid : Prop := applyQuotaUptoRow.holds Tryd.pinned (OpenSpec.upto applyQuotaSpec)

end Rows
end Go.Proofs.YtdajglfbbcbgpaaDoor
