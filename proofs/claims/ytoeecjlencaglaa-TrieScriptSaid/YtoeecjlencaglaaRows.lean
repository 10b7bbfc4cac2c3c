/-
  No cell of these rows narrows 'for every input' (looked for: loops, veiled, ifaces, maps, wideKeys, modest, calm, conditions, laid).
  DERIVED. THE GIVEN ROWS OF THIS SEAT. 11 by the template 'for every input the law returns true; each argument reads behind the call as it read before'; 0 by the template 'total and deterministic' (their statements: YtoeecjlencaglaaTotals.lean).
  GIVEN WITH THE SEED: the statements are not yours to turn. If you find one false, say at which input.
  Laid BY PROGRAM, IN A SANDBOX (cutbox-rows.mjs): the forced cells as the released guide's own fill.sh prints them over the translation b134c9e4a1fefa0d… (all of the seat's roots in one cut). By AI agents, Wed Nov 11 2026. No macro, syntax, notation, axiom, sorry.
-/
import Derived.Test.YtoeecjlencaglaaChecked
import GoSem.Claim
import GoSem.ClaimJoined
import GoSem.ClaimMapViews
import Derived.JoinedTies
import Derived.KernelRfl
namespace Go.Proofs.Ytoeecjlencaglaa
/- THE CELL 'sum', in the pinned program and in every row, IS THE sha256 OF THE DUMP (.gsa) THAT YtoeecjlencaglaaProg.lean LOADS. Nothing in Lean hashes anything: it is a label: what it is worth is what the hold of that sum in a sandbox is worth. -/
noncomputable def Try.pinned : Pinned := { name := "ytoeecjlencaglaa", sum := "b134c9e4a1fefa0d41a7c0c791948d2a8bc931aea133e3da02dc742a07ba0486", checked := Try.checked }
namespace Rows
def none {H : Type} : Left H := { results := [], args := [] }

/-- 'bolterlaw15.TableHash': WHATEVER THE INPUT: true; the input reads as it did. -/
def tableHashSpec : ChangeSpec := { name := "tableHash", fn := fun _ => fun
  | [d1, d2] => { results := [.lit (.bool true)], args := [d1, d2] }
  | _ => none }
def tableHashRow : OpenClaim := { program := "ytoeecjlencaglaa", sum := "b134c9e4a1fefa0d41a7c0c791948d2a8bc931aea133e3da02dc742a07ba0486", func := "bolter/bolterlaw15.TableHash", spec := "tableHash", apart := false }
def TableHashSaid : Prop := tableHashRow.holds Try.pinned (OpenSpec.ofChange tableHashSpec)

/-- ITS FALSE NEIGHBOUR: 'it returns false'. Refute it at one input. -/
def tableHashWrong : ChangeSpec := { name := "tableHash", fn := fun _ => fun
  | [d1, d2] => { results := [.lit (.bool false)], args := [d1, d2] }
  | _ => none }
def TableHashWrongFalsely : Prop := tableHashRow.holds Try.pinned (OpenSpec.ofChange tableHashWrong)

/-- 'bolterlaw16.TrieDeep': WHATEVER THE INPUT: true; the input reads as it did. -/
def trieDeepSpec : ChangeSpec := { name := "trieDeep", fn := fun _ => fun
  | [d1, d2] => { results := [.lit (.bool true)], args := [d1, d2] }
  | _ => none }
def trieDeepRow : OpenClaim := { program := "ytoeecjlencaglaa", sum := "b134c9e4a1fefa0d41a7c0c791948d2a8bc931aea133e3da02dc742a07ba0486", func := "bolter/bolterlaw16.TrieDeep", spec := "trieDeep", apart := false }
def TrieDeepSaid : Prop := trieDeepRow.holds Try.pinned (OpenSpec.ofChange trieDeepSpec)

/-- ITS FALSE NEIGHBOUR: 'it returns false'. Refute it at one input. -/
def trieDeepWrong : ChangeSpec := { name := "trieDeep", fn := fun _ => fun
  | [d1, d2] => { results := [.lit (.bool false)], args := [d1, d2] }
  | _ => none }
def TrieDeepWrongFalsely : Prop := trieDeepRow.holds Try.pinned (OpenSpec.ofChange trieDeepWrong)

/-- 'bolterlaw15.TableScript': WHATEVER THE INPUT: true; the input reads as it did. -/
def tableScriptSpec : ChangeSpec := { name := "tableScript", fn := fun _ => fun
  | [d] => { results := [.lit (.bool true)], args := [d] }
  | _ => none }
def tableScriptRow : OpenClaim := { program := "ytoeecjlencaglaa", sum := "b134c9e4a1fefa0d41a7c0c791948d2a8bc931aea133e3da02dc742a07ba0486", func := "bolter/bolterlaw15.TableScript", spec := "tableScript", apart := false }
def TableScriptSaid : Prop := tableScriptRow.holds Try.pinned (OpenSpec.ofChange tableScriptSpec)

/-- ITS FALSE NEIGHBOUR: 'it returns false'. Refute it at one input. -/
def tableScriptWrong : ChangeSpec := { name := "tableScript", fn := fun _ => fun
  | [d] => { results := [.lit (.bool false)], args := [d] }
  | _ => none }
def TableScriptWrongFalsely : Prop := tableScriptRow.holds Try.pinned (OpenSpec.ofChange tableScriptWrong)

/-- 'bolterlaw15.TableMany': WHATEVER THE INPUT: true; the input reads as it did. -/
def tableManySpec : ChangeSpec := { name := "tableMany", fn := fun _ => fun
  | [d1, d2] => { results := [.lit (.bool true)], args := [d1, d2] }
  | _ => none }
def tableManyRow : OpenClaim := { program := "ytoeecjlencaglaa", sum := "b134c9e4a1fefa0d41a7c0c791948d2a8bc931aea133e3da02dc742a07ba0486", func := "bolter/bolterlaw15.TableMany", spec := "tableMany", unfollowed := true, recurses := true, apart := false }
def TableManySaid : Prop := tableManyRow.holds Try.pinned (OpenSpec.ofChange tableManySpec)

/-- ITS FALSE NEIGHBOUR: 'it returns false'. Refute it at one input. -/
def tableManyWrong : ChangeSpec := { name := "tableMany", fn := fun _ => fun
  | [d1, d2] => { results := [.lit (.bool false)], args := [d1, d2] }
  | _ => none }
def TableManyWrongFalsely : Prop := tableManyRow.holds Try.pinned (OpenSpec.ofChange tableManyWrong)

/-- 'bolterlaw15.TableSlots': WHATEVER THE INPUT: true; the input reads as it did. -/
def tableSlotsSpec : ChangeSpec := { name := "tableSlots", fn := fun _ => fun
  | [d] => { results := [.lit (.bool true)], args := [d] }
  | _ => none }
def tableSlotsRow : OpenClaim := { program := "ytoeecjlencaglaa", sum := "b134c9e4a1fefa0d41a7c0c791948d2a8bc931aea133e3da02dc742a07ba0486", func := "bolter/bolterlaw15.TableSlots", spec := "tableSlots", apart := false }
def TableSlotsSaid : Prop := tableSlotsRow.holds Try.pinned (OpenSpec.ofChange tableSlotsSpec)

/-- ITS FALSE NEIGHBOUR: 'it returns false'. Refute it at one input. -/
def tableSlotsWrong : ChangeSpec := { name := "tableSlots", fn := fun _ => fun
  | [d] => { results := [.lit (.bool false)], args := [d] }
  | _ => none }
def TableSlotsWrongFalsely : Prop := tableSlotsRow.holds Try.pinned (OpenSpec.ofChange tableSlotsWrong)

/-- 'bolterlaw15.TableRound': WHATEVER THE INPUT: true; the input reads as it did. -/
def tableRoundSpec : ChangeSpec := { name := "tableRound", fn := fun _ => fun
  | [d] => { results := [.lit (.bool true)], args := [d] }
  | _ => none }
def tableRoundRow : OpenClaim := { program := "ytoeecjlencaglaa", sum := "b134c9e4a1fefa0d41a7c0c791948d2a8bc931aea133e3da02dc742a07ba0486", func := "bolter/bolterlaw15.TableRound", spec := "tableRound", apart := false }
def TableRoundSaid : Prop := tableRoundRow.holds Try.pinned (OpenSpec.ofChange tableRoundSpec)

/-- ITS FALSE NEIGHBOUR: 'it returns false'. Refute it at one input. -/
def tableRoundWrong : ChangeSpec := { name := "tableRound", fn := fun _ => fun
  | [d] => { results := [.lit (.bool false)], args := [d] }
  | _ => none }
def TableRoundWrongFalsely : Prop := tableRoundRow.holds Try.pinned (OpenSpec.ofChange tableRoundWrong)

/-- 'bolterlaw16.TrieOrder': WHATEVER THE INPUT: true; the input reads as it did. -/
def trieOrderSpec : ChangeSpec := { name := "trieOrder", fn := fun _ => fun
  | [d] => { results := [.lit (.bool true)], args := [d] }
  | _ => none }
def trieOrderRow : OpenClaim := { program := "ytoeecjlencaglaa", sum := "b134c9e4a1fefa0d41a7c0c791948d2a8bc931aea133e3da02dc742a07ba0486", func := "bolter/bolterlaw16.TrieOrder", spec := "trieOrder", recurses := true, apart := false }
def TrieOrderSaid : Prop := trieOrderRow.holds Try.pinned (OpenSpec.ofChange trieOrderSpec)

/-- ITS FALSE NEIGHBOUR: 'it returns false'. Refute it at one input. -/
def trieOrderWrong : ChangeSpec := { name := "trieOrder", fn := fun _ => fun
  | [d] => { results := [.lit (.bool false)], args := [d] }
  | _ => none }
def TrieOrderWrongFalsely : Prop := trieOrderRow.holds Try.pinned (OpenSpec.ofChange trieOrderWrong)

/-- 'bolterlaw16.TrieWhole': WHATEVER THE INPUT: true; the input reads as it did. -/
def trieWholeSpec : ChangeSpec := { name := "trieWhole", fn := fun _ => fun
  | [d] => { results := [.lit (.bool true)], args := [d] }
  | _ => none }
def trieWholeRow : OpenClaim := { program := "ytoeecjlencaglaa", sum := "b134c9e4a1fefa0d41a7c0c791948d2a8bc931aea133e3da02dc742a07ba0486", func := "bolter/bolterlaw16.TrieWhole", spec := "trieWhole", recurses := true, apart := false }
def TrieWholeSaid : Prop := trieWholeRow.holds Try.pinned (OpenSpec.ofChange trieWholeSpec)

/-- ITS FALSE NEIGHBOUR: 'it returns false'. Refute it at one input. -/
def trieWholeWrong : ChangeSpec := { name := "trieWhole", fn := fun _ => fun
  | [d] => { results := [.lit (.bool false)], args := [d] }
  | _ => none }
def TrieWholeWrongFalsely : Prop := trieWholeRow.holds Try.pinned (OpenSpec.ofChange trieWholeWrong)

/-- 'bolterlaw16.TrieScript': WHATEVER THE INPUT: true; the input reads as it did. -/
def trieScriptSpec : ChangeSpec := { name := "trieScript", fn := fun _ => fun
  | [d1, d2] => { results := [.lit (.bool true)], args := [d1, d2] }
  | _ => none }
def trieScriptRow : OpenClaim := { program := "ytoeecjlencaglaa", sum := "b134c9e4a1fefa0d41a7c0c791948d2a8bc931aea133e3da02dc742a07ba0486", func := "bolter/bolterlaw16.TrieScript", spec := "trieScript", recurses := true, apart := false }
def TrieScriptSaid : Prop := trieScriptRow.holds Try.pinned (OpenSpec.ofChange trieScriptSpec)

/-- ITS FALSE NEIGHBOUR: 'it returns false'. Refute it at one input. -/
def trieScriptWrong : ChangeSpec := { name := "trieScript", fn := fun _ => fun
  | [d1, d2] => { results := [.lit (.bool false)], args := [d1, d2] }
  | _ => none }
def TrieScriptWrongFalsely : Prop := trieScriptRow.holds Try.pinned (OpenSpec.ofChange trieScriptWrong)

/-- 'bolterlaw16.TrieMay': WHATEVER THE INPUT: true; the input reads as it did. -/
def trieMaySpec : ChangeSpec := { name := "trieMay", fn := fun _ => fun
  | [d1, d2] => { results := [.lit (.bool true)], args := [d1, d2] }
  | _ => none }
def trieMayRow : OpenClaim := { program := "ytoeecjlencaglaa", sum := "b134c9e4a1fefa0d41a7c0c791948d2a8bc931aea133e3da02dc742a07ba0486", func := "bolter/bolterlaw16.TrieMay", spec := "trieMay", recurses := true, apart := false }
def TrieMaySaid : Prop := trieMayRow.holds Try.pinned (OpenSpec.ofChange trieMaySpec)

/-- ITS FALSE NEIGHBOUR: 'it returns false'. Refute it at one input. -/
def trieMayWrong : ChangeSpec := { name := "trieMay", fn := fun _ => fun
  | [d1, d2] => { results := [.lit (.bool false)], args := [d1, d2] }
  | _ => none }
def TrieMayWrongFalsely : Prop := trieMayRow.holds Try.pinned (OpenSpec.ofChange trieMayWrong)

/-- 'bolterlaw16.TrieGone': WHATEVER THE INPUT: true; the input reads as it did. -/
def trieGoneSpec : ChangeSpec := { name := "trieGone", fn := fun _ => fun
  | [d] => { results := [.lit (.bool true)], args := [d] }
  | _ => none }
def trieGoneRow : OpenClaim := { program := "ytoeecjlencaglaa", sum := "b134c9e4a1fefa0d41a7c0c791948d2a8bc931aea133e3da02dc742a07ba0486", func := "bolter/bolterlaw16.TrieGone", spec := "trieGone", recurses := true, apart := false }
def TrieGoneSaid : Prop := trieGoneRow.holds Try.pinned (OpenSpec.ofChange trieGoneSpec)

/-- ITS FALSE NEIGHBOUR: 'it returns false'. Refute it at one input. -/
def trieGoneWrong : ChangeSpec := { name := "trieGone", fn := fun _ => fun
  | [d] => { results := [.lit (.bool false)], args := [d] }
  | _ => none }
def TrieGoneWrongFalsely : Prop := trieGoneRow.holds Try.pinned (OpenSpec.ofChange trieGoneWrong)

/- THE SECOND FORM. 'bulk': how many values and letters a reading holds, each counted each time it is reached (what is shared counts as often as it is met; a slice's spare places count too). A statement '..UptoSaid' is the law's where the arguments, and the package variables that the reading takes, are together of bulk at most 1048576: NARROWER than '..Said'. Prove '..Said' where nothing that the law and all that it calls make is longer than what came in: it says more and counts as full. Else prove '..UptoSaid'. A law counts once. -/
mutual
def uptoBulk {H : Type} : DataW H → Nat
  | .lit (.string bytes) => bytes.length + 1
  | .lit _ => 1
  | .nil => 1
  | .ptr d => uptoBulk d + 1
  | .slice elems spare => uptoBulkAll elems + uptoBulkAll spare + 1
  | .agg parts => uptoBulkAll parts + 1
  | .iface _ d => uptoBulk d + 1
  | .map entries => uptoBulkEntries entries + 1
  | .held _ => 1
def uptoBulkAll {H : Type} : List (DataW H) → Nat
  | [] => 0
  | d :: r => uptoBulk d + uptoBulkAll r
def uptoBulkEntries {H : Type} : List (Lit × DataW H) → Nat
  | [] => 0
  | x :: r => uptoBulkEntry x + uptoBulkEntries r
def uptoBulkEntry {H : Type} : Lit × DataW H → Nat
  | (.string bytes, d) => bytes.length + uptoBulk d + 1
  | (_, d) => uptoBulk d + 1
 end
def uptoSmall : (H : Type) → List (DataW H) → Bool := fun _ ds => decide (uptoBulkAll ds ≤ 1048576)
def OpenSpec.upto (s : _root_.Go.ChangeSpec) : _root_.Go.OpenSpec := { _root_.Go.OpenSpec.ofChange s with cond := some uptoSmall }

/-- 'bolterlaw15.TableHash', WHERE WHAT IT READS IS OF BULK AT MOST 1048576: true; the input reads as it did. -/
def tableHashUptoRow : OpenClaim := { program := "ytoeecjlencaglaa", sum := "b134c9e4a1fefa0d41a7c0c791948d2a8bc931aea133e3da02dc742a07ba0486", func := "bolter/bolterlaw15.TableHash", spec := "tableHash", apart := false, narrowed := true }
def TableHashUptoSaid : Prop := tableHashUptoRow.holds Try.pinned (OpenSpec.upto tableHashSpec)

/-- 'bolterlaw16.TrieDeep', WHERE WHAT IT READS IS OF BULK AT MOST 1048576: true; the input reads as it did. -/
def trieDeepUptoRow : OpenClaim := { program := "ytoeecjlencaglaa", sum := "b134c9e4a1fefa0d41a7c0c791948d2a8bc931aea133e3da02dc742a07ba0486", func := "bolter/bolterlaw16.TrieDeep", spec := "trieDeep", apart := false, narrowed := true }
def TrieDeepUptoSaid : Prop := trieDeepUptoRow.holds Try.pinned (OpenSpec.upto trieDeepSpec)

/-- 'bolterlaw15.TableScript', WHERE WHAT IT READS IS OF BULK AT MOST 1048576: true; the input reads as it did. -/
def tableScriptUptoRow : OpenClaim := { program := "ytoeecjlencaglaa", sum := "b134c9e4a1fefa0d41a7c0c791948d2a8bc931aea133e3da02dc742a07ba0486", func := "bolter/bolterlaw15.TableScript", spec := "tableScript", apart := false, narrowed := true }
def TableScriptUptoSaid : Prop := tableScriptUptoRow.holds Try.pinned (OpenSpec.upto tableScriptSpec)

/-- 'bolterlaw15.TableMany', WHERE WHAT IT READS IS OF BULK AT MOST 1048576: true; the input reads as it did. -/
def tableManyUptoRow : OpenClaim := { program := "ytoeecjlencaglaa", sum := "b134c9e4a1fefa0d41a7c0c791948d2a8bc931aea133e3da02dc742a07ba0486", func := "bolter/bolterlaw15.TableMany", spec := "tableMany", unfollowed := true, recurses := true, apart := false, narrowed := true }
def TableManyUptoSaid : Prop := tableManyUptoRow.holds Try.pinned (OpenSpec.upto tableManySpec)

/-- 'bolterlaw15.TableSlots', WHERE WHAT IT READS IS OF BULK AT MOST 1048576: true; the input reads as it did. -/
def tableSlotsUptoRow : OpenClaim := { program := "ytoeecjlencaglaa", sum := "b134c9e4a1fefa0d41a7c0c791948d2a8bc931aea133e3da02dc742a07ba0486", func := "bolter/bolterlaw15.TableSlots", spec := "tableSlots", apart := false, narrowed := true }
def TableSlotsUptoSaid : Prop := tableSlotsUptoRow.holds Try.pinned (OpenSpec.upto tableSlotsSpec)

/-- 'bolterlaw15.TableRound', WHERE WHAT IT READS IS OF BULK AT MOST 1048576: true; the input reads as it did. -/
def tableRoundUptoRow : OpenClaim := { program := "ytoeecjlencaglaa", sum := "b134c9e4a1fefa0d41a7c0c791948d2a8bc931aea133e3da02dc742a07ba0486", func := "bolter/bolterlaw15.TableRound", spec := "tableRound", apart := false, narrowed := true }
def TableRoundUptoSaid : Prop := tableRoundUptoRow.holds Try.pinned (OpenSpec.upto tableRoundSpec)

/-- 'bolterlaw16.TrieOrder', WHERE WHAT IT READS IS OF BULK AT MOST 1048576: true; the input reads as it did. -/
def trieOrderUptoRow : OpenClaim := { program := "ytoeecjlencaglaa", sum := "b134c9e4a1fefa0d41a7c0c791948d2a8bc931aea133e3da02dc742a07ba0486", func := "bolter/bolterlaw16.TrieOrder", spec := "trieOrder", recurses := true, apart := false, narrowed := true }
def TrieOrderUptoSaid : Prop := trieOrderUptoRow.holds Try.pinned (OpenSpec.upto trieOrderSpec)

/-- 'bolterlaw16.TrieWhole', WHERE WHAT IT READS IS OF BULK AT MOST 1048576: true; the input reads as it did. -/
def trieWholeUptoRow : OpenClaim := { program := "ytoeecjlencaglaa", sum := "b134c9e4a1fefa0d41a7c0c791948d2a8bc931aea133e3da02dc742a07ba0486", func := "bolter/bolterlaw16.TrieWhole", spec := "trieWhole", recurses := true, apart := false, narrowed := true }
def TrieWholeUptoSaid : Prop := trieWholeUptoRow.holds Try.pinned (OpenSpec.upto trieWholeSpec)

/-- 'bolterlaw16.TrieScript', WHERE WHAT IT READS IS OF BULK AT MOST 1048576: true; the input reads as it did. -/
def trieScriptUptoRow : OpenClaim := { program := "ytoeecjlencaglaa", sum := "b134c9e4a1fefa0d41a7c0c791948d2a8bc931aea133e3da02dc742a07ba0486", func := "bolter/bolterlaw16.TrieScript", spec := "trieScript", recurses := true, apart := false, narrowed := true }
def TrieScriptUptoSaid : Prop := trieScriptUptoRow.holds Try.pinned (OpenSpec.upto trieScriptSpec)

/-- 'bolterlaw16.TrieMay', WHERE WHAT IT READS IS OF BULK AT MOST 1048576: true; the input reads as it did. -/
def trieMayUptoRow : OpenClaim := { program := "ytoeecjlencaglaa", sum := "b134c9e4a1fefa0d41a7c0c791948d2a8bc931aea133e3da02dc742a07ba0486", func := "bolter/bolterlaw16.TrieMay", spec := "trieMay", recurses := true, apart := false, narrowed := true }
def TrieMayUptoSaid : Prop := trieMayUptoRow.holds Try.pinned (OpenSpec.upto trieMaySpec)

/-- 'bolterlaw16.TrieGone', WHERE WHAT IT READS IS OF BULK AT MOST 1048576: true; the input reads as it did. -/
def trieGoneUptoRow : OpenClaim := { program := "ytoeecjlencaglaa", sum := "b134c9e4a1fefa0d41a7c0c791948d2a8bc931aea133e3da02dc742a07ba0486", func := "bolter/bolterlaw16.TrieGone", spec := "trieGone", recurses := true, apart := false, narrowed := true }
def TrieGoneUptoSaid : Prop := trieGoneUptoRow.holds Try.pinned (OpenSpec.upto trieGoneSpec)

end Rows
end Go.Proofs.Ytoeecjlencaglaa
