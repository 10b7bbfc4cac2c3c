/- TransferOther: for every input the law returns true, and its arguments read afterwards as they read before. No condition. -/
import Derived.Test.YthlkeokfmedjhaaRows
import Derived.Test.YthlkeokfmedjhaaM1TransferOther
import Derived.Test.YthlkeokfmedjhaaM2TransferOther
import Derived.Test.YthlkeokfmedjhaaM3TransferOther
import Derived.Test.YthlkeokfmedjhaaM4TransferOther
import Derived.Test.YthlkeokfmedjhaaM5TransferOther
import Derived.WalkKit
import Derived.ProofKit
import Derived.OpenShut
import Derived.ShutString
import Derived.ChangeOld
import Derived.Below
import Derived.SizedLaws
namespace Go.Proofs.Ythlkeokfmedjhaa.transferOther
open Go.ChangeShapes Go.WideShapes Go.ChangeAt Go.RowKit
open Go.ChangeMaps (open_string shut_string)
set_option linter.unusedVariables false
theorem own : ownKnob Try.prog.godebug = none := by kernel_rfl
theorem laidOut : laidOutB Try.prog = true := by kernel_rfl
set_option maxRecDepth 100000 in
theorem lifted (os : Os) (started : os.Started) (H : Type) (enc : TypeId × Value → H) :
    ReturnsInHanded {} Try.checked os 3 .any (Rows.transferOtherSpec.pre6 enc Try.prog Try.f3 Rows.transferOtherRow.domain false) (Rows.transferOtherSpec.post enc Try.prog Try.f3 false true false false) := by
  refine returnsInHanded_of_change_sized (C := Try.checked) own started (by kernel_rfl) Try.func3
    (ChangeSpec.witness6 (enc := enc) (C := Try.checked) false ⟨#[], #[.int .u8 0, .agg #[.int .u16 0, .bool false, .int .i64 0, .bool false, .bool false, .bool false, .bool false, .int .i64 0, .string ByteArray.empty, .int .u16 0, .slice none 0 0, .slice none 0 0, .slice none 0 0, .int .i64 0], .int .u16 0], []⟩ 8 (by kernel_rfl) (by kernel_rfl) (by kernel_rfl) (by kernel_rfl)) ?_
  intro W base args ds gs before hval0 hW hcnd hsz0 _
  have hsz : (DataW.weightsEach Try.prog (Try.f3.params.toList ++ Rows.transferOtherSpec.plain.varTypes Try.prog) (ds ++ gs)).all (· ≤ reachBytes) = true := hsz0
  have hval : ∀ (j : Nat) t v, Try.f3.params[j]? = some t → args[j]? = some v → Value.okWide Try.prog W .any base t v := hval0
  have hW' := hW
  obtain ⟨p, q, hA0, hV, rfl, hfz, hnd⟩ := hW
  have hA : DataW.TrodAll enc Try.prog W 0 (fun _ => true) true Try.f3.params.toList args.toList ds p := hA0
  rw [Try.params3] at hA hval hsz
  obtain ⟨v0, vs0, d0, ds0, p0, q0, hargs, rfl, rfl, h0, r0⟩ := trodAll_cons hA
  obtain ⟨v1, vs1, d1, ds1, p1, q1, rfl, rfl, rfl, h1, r1⟩ := trodAll_cons r0
  obtain ⟨v2, vs2, d2, ds2, p2, q2, rfl, rfl, rfl, h2, r2⟩ := trodAll_cons r1
  obtain ⟨rfl, rfl, rfl⟩ := trodAll_nil r2
  obtain rfl : args = #[v0, v1, v2] := by cases args; simp_all
  obtain ⟨rfl, rfl⟩ := trodVars_none hV
  obtain ⟨a0, rfl, rfl, rfl, w0⟩ := open_int Try.underlying5 (hval 0 5 v0 rfl rfl) h0
  obtain ⟨cs1, rfl, hs1⟩ := okWide_struct Try.underlying31 (hval 1 31 v1 rfl rfl)
  have k1 := h1
  have lt1 : ∀ x ∈ p1, x.block < W.heap.size := by obtain ⟨m, hm⟩ := k1; exact DataW.trod_lt m _ _ _ hm
  obtain ⟨y1, hy1, w1⟩ : ∃ y : (Int × Bool × Int × Bool × Bool × Bool × Bool × Int) × (ByteArray × Int) × (Option Addr × Nat × Nat) × (Option Addr × Nat × Nat) × (Option Addr × Nat × Nat) × Int, cs1 = ((fun x => [.int .u16 x.1.1, .bool x.1.2.1, .int .i64 x.1.2.2.1, .bool x.1.2.2.2.1, .bool x.1.2.2.2.2.1, .bool x.1.2.2.2.2.2.1, .bool x.1.2.2.2.2.2.2.1, .int .i64 x.1.2.2.2.2.2.2.2, .string x.2.1.1, .int .u16 x.2.1.2, .slice x.2.2.1.1 x.2.2.1.2.1 x.2.2.1.2.2, .slice x.2.2.2.1.1 x.2.2.2.1.2.1 x.2.2.2.1.2.2, .slice x.2.2.2.2.1.1 x.2.2.2.2.1.2.1 x.2.2.2.2.1.2.2, .int .i64 x.2.2.2.2.2]) y).toArray ∧ (fun x => ((Lit.int .u16 x.1.1).wf = true ∧ True ∧ (Lit.int .i64 x.1.2.2.1).wf = true ∧ True ∧ True ∧ True ∧ True ∧ (Lit.int .i64 x.1.2.2.2.2.2.2.2).wf = true) ∧ (x.2.1.1.size ≤ maxLen ∧ (Lit.int .u16 x.2.1.2).wf = true) ∧ (x.2.2.1.2.1 ≤ x.2.2.1.2.2 ∧ x.2.2.1.2.2 ≤ maxLen ∧ ∃ ys : List (ByteArray × Int × Int × ByteArray), Go.Px.SlIn (Go.Px.imW W) x.2.2.1.1 x.2.2.1.2.1 4 (fun xe => [.string xe.1, .int .u16 xe.2.1, .int .u32 xe.2.2.1, .string xe.2.2.2]) ys ∧ ∀ y ∈ ys, (fun xe => xe.1.size ≤ maxLen ∧ (Lit.int .u16 xe.2.1).wf = true ∧ (Lit.int .u32 xe.2.2.1).wf = true ∧ xe.2.2.2.size ≤ maxLen) y) ∧ (x.2.2.2.1.2.1 ≤ x.2.2.2.1.2.2 ∧ x.2.2.2.1.2.2 ≤ maxLen ∧ ∃ ys : List (ByteArray × Int × Int × ByteArray), Go.Px.SlIn (Go.Px.imW W) x.2.2.2.1.1 x.2.2.2.1.2.1 4 (fun xe => [.string xe.1, .int .u16 xe.2.1, .int .u32 xe.2.2.1, .string xe.2.2.2]) ys ∧ ∀ y ∈ ys, (fun xe => xe.1.size ≤ maxLen ∧ (Lit.int .u16 xe.2.1).wf = true ∧ (Lit.int .u32 xe.2.2.1).wf = true ∧ xe.2.2.2.size ≤ maxLen) y) ∧ (x.2.2.2.2.1.2.1 ≤ x.2.2.2.2.1.2.2 ∧ x.2.2.2.2.1.2.2 ≤ maxLen ∧ ∃ ys : List (ByteArray × Int × Int × ByteArray), Go.Px.SlIn (Go.Px.imW W) x.2.2.2.2.1.1 x.2.2.2.2.1.2.1 4 (fun xe => [.string xe.1, .int .u16 xe.2.1, .int .u32 xe.2.2.1, .string xe.2.2.2]) ys ∧ ∀ y ∈ ys, (fun xe => xe.1.size ≤ maxLen ∧ (Lit.int .u16 xe.2.1).wf = true ∧ (Lit.int .u32 xe.2.2.1).wf = true ∧ xe.2.2.2.size ≤ maxLen) y) ∧ (Lit.int .i64 x.2.2.2.2.2).wf = true) y := by
    obtain ⟨m, g⟩ := h1
    have key : ∀ (n : Nat) (cs : List Value) (x : DataW H × List MemPlace), DataW.trod enc Try.prog W 0 (fun _ => true) true n 31 cs = some x → cs.length = Try.prog.cellsOf 31 → ∃ y : (Int × Bool × Int × Bool × Bool × Bool × Bool × Int) × (ByteArray × Int) × (Option Addr × Nat × Nat) × (Option Addr × Nat × Nat) × (Option Addr × Nat × Nat) × Int, cs = (fun x => [.int .u16 x.1.1, .bool x.1.2.1, .int .i64 x.1.2.2.1, .bool x.1.2.2.2.1, .bool x.1.2.2.2.2.1, .bool x.1.2.2.2.2.2.1, .bool x.1.2.2.2.2.2.2.1, .int .i64 x.1.2.2.2.2.2.2.2, .string x.2.1.1, .int .u16 x.2.1.2, .slice x.2.2.1.1 x.2.2.1.2.1 x.2.2.1.2.2, .slice x.2.2.2.1.1 x.2.2.2.1.2.1 x.2.2.2.1.2.2, .slice x.2.2.2.2.1.1 x.2.2.2.2.1.2.1 x.2.2.2.2.1.2.2, .int .i64 x.2.2.2.2.2]) y ∧ (fun x => ((Lit.int .u16 x.1.1).wf = true ∧ True ∧ (Lit.int .i64 x.1.2.2.1).wf = true ∧ True ∧ True ∧ True ∧ True ∧ (Lit.int .i64 x.1.2.2.2.2.2.2.2).wf = true) ∧ (x.2.1.1.size ≤ maxLen ∧ (Lit.int .u16 x.2.1.2).wf = true) ∧ (x.2.2.1.2.1 ≤ x.2.2.1.2.2 ∧ x.2.2.1.2.2 ≤ maxLen ∧ ∃ ys : List (ByteArray × Int × Int × ByteArray), Go.Px.SlIn (Go.Px.imW W) x.2.2.1.1 x.2.2.1.2.1 4 (fun xe => [.string xe.1, .int .u16 xe.2.1, .int .u32 xe.2.2.1, .string xe.2.2.2]) ys ∧ ∀ y ∈ ys, (fun xe => xe.1.size ≤ maxLen ∧ (Lit.int .u16 xe.2.1).wf = true ∧ (Lit.int .u32 xe.2.2.1).wf = true ∧ xe.2.2.2.size ≤ maxLen) y) ∧ (x.2.2.2.1.2.1 ≤ x.2.2.2.1.2.2 ∧ x.2.2.2.1.2.2 ≤ maxLen ∧ ∃ ys : List (ByteArray × Int × Int × ByteArray), Go.Px.SlIn (Go.Px.imW W) x.2.2.2.1.1 x.2.2.2.1.2.1 4 (fun xe => [.string xe.1, .int .u16 xe.2.1, .int .u32 xe.2.2.1, .string xe.2.2.2]) ys ∧ ∀ y ∈ ys, (fun xe => xe.1.size ≤ maxLen ∧ (Lit.int .u16 xe.2.1).wf = true ∧ (Lit.int .u32 xe.2.2.1).wf = true ∧ xe.2.2.2.size ≤ maxLen) y) ∧ (x.2.2.2.2.1.2.1 ≤ x.2.2.2.2.1.2.2 ∧ x.2.2.2.2.1.2.2 ≤ maxLen ∧ ∃ ys : List (ByteArray × Int × Int × ByteArray), Go.Px.SlIn (Go.Px.imW W) x.2.2.2.2.1.1 x.2.2.2.2.1.2.1 4 (fun xe => [.string xe.1, .int .u16 xe.2.1, .int .u32 xe.2.2.1, .string xe.2.2.2]) ys ∧ ∀ y ∈ ys, (fun xe => xe.1.size ≤ maxLen ∧ (Lit.int .u16 xe.2.1).wf = true ∧ (Lit.int .u32 xe.2.2.1).wf = true ∧ xe.2.2.2.size ≤ maxLen) y) ∧ (Lit.int .i64 x.2.2.2.2.2).wf = true) y := by
      intro n cs x h hl
      have hl' : cs.length = 14 := hl.trans (by kernel_rfl)
      obtain ⟨c0, c1, c2, c3, c4, c5, c6, c7, c8, c9, c10, c11, c12, c13, rfl⟩ : ∃ c0 c1 c2 c3 c4 c5 c6 c7 c8 c9 c10 c11 c12 c13, cs = [c0, c1, c2, c3, c4, c5, c6, c7, c8, c9, c10, c11, c12, c13] := by
        match cs, hl' with
        | [c0, c1, c2, c3, c4, c5, c6, c7, c8, c9, c10, c11, c12, c13], _ => exact ⟨c0, c1, c2, c3, c4, c5, c6, c7, c8, c9, c10, c11, c12, c13, rfl⟩
      obtain ⟨n0, y0, g0⟩ := Go.Px.trod_field Try.underlying31 h 0 _ rfl
      replace g0 : DataW.trod enc Try.prog W 0 (fun _ => true) true n0 24 (List.take (Try.prog.cellsOf 24) (List.drop 0 [c0, c1, c2, c3, c4, c5, c6, c7, c8, c9, c10, c11, c12, c13])) = some y0 := g0
      rw [show Try.prog.cellsOf 24 = 8 by kernel_rfl] at g0
      replace g0 : DataW.trod enc Try.prog W 0 (fun _ => true) true n0 24 [c0, c1, c2, c3, c4, c5, c6, c7] = some y0 := g0
      obtain ⟨n1, y1, g1⟩ := Go.Px.trod_field Try.underlying31 h 1 _ rfl
      replace g1 : DataW.trod enc Try.prog W 0 (fun _ => true) true n1 28 (List.take (Try.prog.cellsOf 28) (List.drop 8 [c0, c1, c2, c3, c4, c5, c6, c7, c8, c9, c10, c11, c12, c13])) = some y1 := g1
      rw [show Try.prog.cellsOf 28 = 2 by kernel_rfl] at g1
      replace g1 : DataW.trod enc Try.prog W 0 (fun _ => true) true n1 28 [c8, c9] = some y1 := g1
      obtain ⟨n2, y2, g2⟩ := Go.Px.trod_field Try.underlying31 h 2 _ rfl
      replace g2 : DataW.trod enc Try.prog W 0 (fun _ => true) true n2 29 (List.take (Try.prog.cellsOf 29) (List.drop 10 [c0, c1, c2, c3, c4, c5, c6, c7, c8, c9, c10, c11, c12, c13])) = some y2 := g2
      rw [show Try.prog.cellsOf 29 = 1 by kernel_rfl] at g2
      replace g2 : DataW.trod enc Try.prog W 0 (fun _ => true) true n2 29 [c10] = some y2 := g2
      obtain ⟨n3, y3, g3⟩ := Go.Px.trod_field Try.underlying31 h 3 _ rfl
      replace g3 : DataW.trod enc Try.prog W 0 (fun _ => true) true n3 29 (List.take (Try.prog.cellsOf 29) (List.drop 11 [c0, c1, c2, c3, c4, c5, c6, c7, c8, c9, c10, c11, c12, c13])) = some y3 := g3
      rw [show Try.prog.cellsOf 29 = 1 by kernel_rfl] at g3
      replace g3 : DataW.trod enc Try.prog W 0 (fun _ => true) true n3 29 [c11] = some y3 := g3
      obtain ⟨n4, y4, g4⟩ := Go.Px.trod_field Try.underlying31 h 4 _ rfl
      replace g4 : DataW.trod enc Try.prog W 0 (fun _ => true) true n4 29 (List.take (Try.prog.cellsOf 29) (List.drop 12 [c0, c1, c2, c3, c4, c5, c6, c7, c8, c9, c10, c11, c12, c13])) = some y4 := g4
      rw [show Try.prog.cellsOf 29 = 1 by kernel_rfl] at g4
      replace g4 : DataW.trod enc Try.prog W 0 (fun _ => true) true n4 29 [c12] = some y4 := g4
      obtain ⟨n5, y5, g5⟩ := Go.Px.trod_field Try.underlying31 h 5 _ rfl
      replace g5 : DataW.trod enc Try.prog W 0 (fun _ => true) true n5 3 (List.take (Try.prog.cellsOf 3) (List.drop 13 [c0, c1, c2, c3, c4, c5, c6, c7, c8, c9, c10, c11, c12, c13])) = some y5 := g5
      rw [show Try.prog.cellsOf 3 = 1 by kernel_rfl] at g5
      replace g5 : DataW.trod enc Try.prog W 0 (fun _ => true) true n5 3 [c13] = some y5 := g5
      obtain ⟨v0, e0, u0⟩ : ∃ y : Int × Bool × Int × Bool × Bool × Bool × Bool × Int, [c0, c1, c2, c3, c4, c5, c6, c7] = (fun x => [.int .u16 x.1, .bool x.2.1, .int .i64 x.2.2.1, .bool x.2.2.2.1, .bool x.2.2.2.2.1, .bool x.2.2.2.2.2.1, .bool x.2.2.2.2.2.2.1, .int .i64 x.2.2.2.2.2.2.2]) y ∧ (fun x => (Lit.int .u16 x.1).wf = true ∧ True ∧ (Lit.int .i64 x.2.2.1).wf = true ∧ True ∧ True ∧ True ∧ True ∧ (Lit.int .i64 x.2.2.2.2.2.2.2).wf = true) y := by
        have key0 : ∀ (n : Nat) (cs : List Value) (x : DataW H × List MemPlace), DataW.trod enc Try.prog W 0 (fun _ => true) true n 24 cs = some x → cs.length = Try.prog.cellsOf 24 → ∃ y : Int × Bool × Int × Bool × Bool × Bool × Bool × Int, cs = (fun x => [.int .u16 x.1, .bool x.2.1, .int .i64 x.2.2.1, .bool x.2.2.2.1, .bool x.2.2.2.2.1, .bool x.2.2.2.2.2.1, .bool x.2.2.2.2.2.2.1, .int .i64 x.2.2.2.2.2.2.2]) y ∧ (fun x => (Lit.int .u16 x.1).wf = true ∧ True ∧ (Lit.int .i64 x.2.2.1).wf = true ∧ True ∧ True ∧ True ∧ True ∧ (Lit.int .i64 x.2.2.2.2.2.2.2).wf = true) y := by
          intro n cs x h hl
          have hl' : cs.length = 8 := hl.trans (by kernel_rfl)
          obtain ⟨c0, c1, c2, c3, c4, c5, c6, c7, rfl⟩ : ∃ c0 c1 c2 c3 c4 c5 c6 c7, cs = [c0, c1, c2, c3, c4, c5, c6, c7] := by
            match cs, hl' with
            | [c0, c1, c2, c3, c4, c5, c6, c7], _ => exact ⟨c0, c1, c2, c3, c4, c5, c6, c7, rfl⟩
          obtain ⟨n0, y0, g0⟩ := Go.Px.trod_field Try.underlying24 h 0 _ rfl
          replace g0 : DataW.trod enc Try.prog W 0 (fun _ => true) true n0 22 (List.take (Try.prog.cellsOf 22) (List.drop 0 [c0, c1, c2, c3, c4, c5, c6, c7])) = some y0 := g0
          rw [show Try.prog.cellsOf 22 = 1 by kernel_rfl] at g0
          replace g0 : DataW.trod enc Try.prog W 0 (fun _ => true) true n0 22 [c0] = some y0 := g0
          obtain ⟨n1, y1, g1⟩ := Go.Px.trod_field Try.underlying24 h 1 _ rfl
          replace g1 : DataW.trod enc Try.prog W 0 (fun _ => true) true n1 4 (List.take (Try.prog.cellsOf 4) (List.drop 1 [c0, c1, c2, c3, c4, c5, c6, c7])) = some y1 := g1
          rw [show Try.prog.cellsOf 4 = 1 by kernel_rfl] at g1
          replace g1 : DataW.trod enc Try.prog W 0 (fun _ => true) true n1 4 [c1] = some y1 := g1
          obtain ⟨n2, y2, g2⟩ := Go.Px.trod_field Try.underlying24 h 2 _ rfl
          replace g2 : DataW.trod enc Try.prog W 0 (fun _ => true) true n2 3 (List.take (Try.prog.cellsOf 3) (List.drop 2 [c0, c1, c2, c3, c4, c5, c6, c7])) = some y2 := g2
          rw [show Try.prog.cellsOf 3 = 1 by kernel_rfl] at g2
          replace g2 : DataW.trod enc Try.prog W 0 (fun _ => true) true n2 3 [c2] = some y2 := g2
          obtain ⟨n3, y3, g3⟩ := Go.Px.trod_field Try.underlying24 h 3 _ rfl
          replace g3 : DataW.trod enc Try.prog W 0 (fun _ => true) true n3 4 (List.take (Try.prog.cellsOf 4) (List.drop 3 [c0, c1, c2, c3, c4, c5, c6, c7])) = some y3 := g3
          rw [show Try.prog.cellsOf 4 = 1 by kernel_rfl] at g3
          replace g3 : DataW.trod enc Try.prog W 0 (fun _ => true) true n3 4 [c3] = some y3 := g3
          obtain ⟨n4, y4, g4⟩ := Go.Px.trod_field Try.underlying24 h 4 _ rfl
          replace g4 : DataW.trod enc Try.prog W 0 (fun _ => true) true n4 4 (List.take (Try.prog.cellsOf 4) (List.drop 4 [c0, c1, c2, c3, c4, c5, c6, c7])) = some y4 := g4
          rw [show Try.prog.cellsOf 4 = 1 by kernel_rfl] at g4
          replace g4 : DataW.trod enc Try.prog W 0 (fun _ => true) true n4 4 [c4] = some y4 := g4
          obtain ⟨n5, y5, g5⟩ := Go.Px.trod_field Try.underlying24 h 5 _ rfl
          replace g5 : DataW.trod enc Try.prog W 0 (fun _ => true) true n5 4 (List.take (Try.prog.cellsOf 4) (List.drop 5 [c0, c1, c2, c3, c4, c5, c6, c7])) = some y5 := g5
          rw [show Try.prog.cellsOf 4 = 1 by kernel_rfl] at g5
          replace g5 : DataW.trod enc Try.prog W 0 (fun _ => true) true n5 4 [c5] = some y5 := g5
          obtain ⟨n6, y6, g6⟩ := Go.Px.trod_field Try.underlying24 h 6 _ rfl
          replace g6 : DataW.trod enc Try.prog W 0 (fun _ => true) true n6 4 (List.take (Try.prog.cellsOf 4) (List.drop 6 [c0, c1, c2, c3, c4, c5, c6, c7])) = some y6 := g6
          rw [show Try.prog.cellsOf 4 = 1 by kernel_rfl] at g6
          replace g6 : DataW.trod enc Try.prog W 0 (fun _ => true) true n6 4 [c6] = some y6 := g6
          obtain ⟨n7, y7, g7⟩ := Go.Px.trod_field Try.underlying24 h 7 _ rfl
          replace g7 : DataW.trod enc Try.prog W 0 (fun _ => true) true n7 3 (List.take (Try.prog.cellsOf 3) (List.drop 7 [c0, c1, c2, c3, c4, c5, c6, c7])) = some y7 := g7
          rw [show Try.prog.cellsOf 3 = 1 by kernel_rfl] at g7
          replace g7 : DataW.trod enc Try.prog W 0 (fun _ => true) true n7 3 [c7] = some y7 := g7
          obtain ⟨v0, rfl, u0⟩ := Go.Px.trod_int Try.underlying22 g0
          obtain ⟨v1, rfl⟩ := Go.Px.trod_bool Try.underlying4 g1
          obtain ⟨v2, rfl, u2⟩ := Go.Px.trod_int Try.underlying3 g2
          obtain ⟨v3, rfl⟩ := Go.Px.trod_bool Try.underlying4 g3
          obtain ⟨v4, rfl⟩ := Go.Px.trod_bool Try.underlying4 g4
          obtain ⟨v5, rfl⟩ := Go.Px.trod_bool Try.underlying4 g5
          obtain ⟨v6, rfl⟩ := Go.Px.trod_bool Try.underlying4 g6
          obtain ⟨v7, rfl, u7⟩ := Go.Px.trod_int Try.underlying3 g7
          exact ⟨⟨v0, v1, v2, v3, v4, v5, v6, v7⟩, rfl, u0, trivial, u2, trivial, trivial, trivial, trivial, u7⟩
        exact key0 _ _ _ g0 (by kernel_rfl)
      simp only [List.cons.injEq, and_true] at e0
      obtain ⟨rfl, rfl, rfl, rfl, rfl, rfl, rfl, rfl⟩ := e0
      obtain ⟨v1, e1, u1⟩ : ∃ y : ByteArray × Int, [c8, c9] = (fun x => [.string x.1, .int .u16 x.2]) y ∧ (fun x => x.1.size ≤ maxLen ∧ (Lit.int .u16 x.2).wf = true) y := by
        have key1 : ∀ (n : Nat) (cs : List Value) (x : DataW H × List MemPlace), DataW.trod enc Try.prog W 0 (fun _ => true) true n 28 cs = some x → cs.length = Try.prog.cellsOf 28 → ∃ y : ByteArray × Int, cs = (fun x => [.string x.1, .int .u16 x.2]) y ∧ (fun x => x.1.size ≤ maxLen ∧ (Lit.int .u16 x.2).wf = true) y := by
          intro n cs x h hl
          have hl' : cs.length = 2 := hl.trans (by kernel_rfl)
          obtain ⟨c0, c1, rfl⟩ : ∃ c0 c1, cs = [c0, c1] := by
            match cs, hl' with
            | [c0, c1], _ => exact ⟨c0, c1, rfl⟩
          obtain ⟨n0, y0, g0⟩ := Go.Px.trod_field Try.underlying28 h 0 _ rfl
          replace g0 : DataW.trod enc Try.prog W 0 (fun _ => true) true n0 25 (List.take (Try.prog.cellsOf 25) (List.drop 0 [c0, c1])) = some y0 := g0
          rw [show Try.prog.cellsOf 25 = 1 by kernel_rfl] at g0
          replace g0 : DataW.trod enc Try.prog W 0 (fun _ => true) true n0 25 [c0] = some y0 := g0
          obtain ⟨n1, y1, g1⟩ := Go.Px.trod_field Try.underlying28 h 1 _ rfl
          replace g1 : DataW.trod enc Try.prog W 0 (fun _ => true) true n1 26 (List.take (Try.prog.cellsOf 26) (List.drop 1 [c0, c1])) = some y1 := g1
          rw [show Try.prog.cellsOf 26 = 1 by kernel_rfl] at g1
          replace g1 : DataW.trod enc Try.prog W 0 (fun _ => true) true n1 26 [c1] = some y1 := g1
          obtain ⟨v0, rfl, u0⟩ := Go.Px.trod_str Try.underlying25 g0
          obtain ⟨v1, rfl, u1⟩ := Go.Px.trod_int Try.underlying26 g1
          exact ⟨⟨v0, v1⟩, rfl, u0, u1⟩
        exact key1 _ _ _ g1 (by kernel_rfl)
      simp only [List.cons.injEq, and_true] at e1
      obtain ⟨rfl, rfl⟩ := e1
      obtain ⟨va2, vl2, vc2, rfl, hT2⟩ := Go.Px.trod_sl Try.underlying29 g2
      have u2 := Go.Px.rowOf_trod (α := ByteArray × Int × Int × ByteArray) (fun xe => [.string xe.1, .int .u16 xe.2.1, .int .u32 xe.2.2.1, .string xe.2.2.2]) (fun xe => xe.1.size ≤ maxLen ∧ (Lit.int .u16 xe.2.1).wf = true ∧ (Lit.int .u32 xe.2.2.1).wf = true ∧ xe.2.2.2.size ≤ maxLen) Try.underlying29 (by
        intro n cs x h hl
        have hl' : cs.length = 4 := hl.trans (by kernel_rfl)
        obtain ⟨c0, c1, c2, c3, rfl⟩ : ∃ c0 c1 c2 c3, cs = [c0, c1, c2, c3] := by
          match cs, hl' with
          | [c0, c1, c2, c3], _ => exact ⟨c0, c1, c2, c3, rfl⟩
        obtain ⟨n0, y0, g0⟩ := Go.Px.trod_field Try.underlying38 h 0 _ rfl
        replace g0 : DataW.trod enc Try.prog W 0 (fun _ => true) true n0 25 (List.take (Try.prog.cellsOf 25) (List.drop 0 [c0, c1, c2, c3])) = some y0 := g0
        rw [show Try.prog.cellsOf 25 = 1 by kernel_rfl] at g0
        replace g0 : DataW.trod enc Try.prog W 0 (fun _ => true) true n0 25 [c0] = some y0 := g0
        obtain ⟨n1, y1, g1⟩ := Go.Px.trod_field Try.underlying38 h 1 _ rfl
        replace g1 : DataW.trod enc Try.prog W 0 (fun _ => true) true n1 26 (List.take (Try.prog.cellsOf 26) (List.drop 1 [c0, c1, c2, c3])) = some y1 := g1
        rw [show Try.prog.cellsOf 26 = 1 by kernel_rfl] at g1
        replace g1 : DataW.trod enc Try.prog W 0 (fun _ => true) true n1 26 [c1] = some y1 := g1
        obtain ⟨n2, y2, g2⟩ := Go.Px.trod_field Try.underlying38 h 2 _ rfl
        replace g2 : DataW.trod enc Try.prog W 0 (fun _ => true) true n2 36 (List.take (Try.prog.cellsOf 36) (List.drop 2 [c0, c1, c2, c3])) = some y2 := g2
        rw [show Try.prog.cellsOf 36 = 1 by kernel_rfl] at g2
        replace g2 : DataW.trod enc Try.prog W 0 (fun _ => true) true n2 36 [c2] = some y2 := g2
        obtain ⟨n3, y3, g3⟩ := Go.Px.trod_field Try.underlying38 h 3 _ rfl
        replace g3 : DataW.trod enc Try.prog W 0 (fun _ => true) true n3 9 (List.take (Try.prog.cellsOf 9) (List.drop 3 [c0, c1, c2, c3])) = some y3 := g3
        rw [show Try.prog.cellsOf 9 = 1 by kernel_rfl] at g3
        replace g3 : DataW.trod enc Try.prog W 0 (fun _ => true) true n3 9 [c3] = some y3 := g3
        obtain ⟨v0, rfl, u0⟩ := Go.Px.trod_str Try.underlying25 g0
        obtain ⟨v1, rfl, u1⟩ := Go.Px.trod_int Try.underlying26 g1
        obtain ⟨v2, rfl, u2⟩ := Go.Px.trod_int Try.underlying36 g2
        obtain ⟨v3, rfl, u3⟩ := Go.Px.trod_str Try.underlying9 g3
        exact ⟨⟨v0, v1, v2, v3⟩, rfl, u0, u1, u2, u3⟩
        ) hT2
      rw [show Try.prog.cellsOf 38 = 4 by kernel_rfl] at u2
      obtain ⟨va3, vl3, vc3, rfl, hT3⟩ := Go.Px.trod_sl Try.underlying29 g3
      have u3 := Go.Px.rowOf_trod (α := ByteArray × Int × Int × ByteArray) (fun xe => [.string xe.1, .int .u16 xe.2.1, .int .u32 xe.2.2.1, .string xe.2.2.2]) (fun xe => xe.1.size ≤ maxLen ∧ (Lit.int .u16 xe.2.1).wf = true ∧ (Lit.int .u32 xe.2.2.1).wf = true ∧ xe.2.2.2.size ≤ maxLen) Try.underlying29 (by
        intro n cs x h hl
        have hl' : cs.length = 4 := hl.trans (by kernel_rfl)
        obtain ⟨c0, c1, c2, c3, rfl⟩ : ∃ c0 c1 c2 c3, cs = [c0, c1, c2, c3] := by
          match cs, hl' with
          | [c0, c1, c2, c3], _ => exact ⟨c0, c1, c2, c3, rfl⟩
        obtain ⟨n0, y0, g0⟩ := Go.Px.trod_field Try.underlying38 h 0 _ rfl
        replace g0 : DataW.trod enc Try.prog W 0 (fun _ => true) true n0 25 (List.take (Try.prog.cellsOf 25) (List.drop 0 [c0, c1, c2, c3])) = some y0 := g0
        rw [show Try.prog.cellsOf 25 = 1 by kernel_rfl] at g0
        replace g0 : DataW.trod enc Try.prog W 0 (fun _ => true) true n0 25 [c0] = some y0 := g0
        obtain ⟨n1, y1, g1⟩ := Go.Px.trod_field Try.underlying38 h 1 _ rfl
        replace g1 : DataW.trod enc Try.prog W 0 (fun _ => true) true n1 26 (List.take (Try.prog.cellsOf 26) (List.drop 1 [c0, c1, c2, c3])) = some y1 := g1
        rw [show Try.prog.cellsOf 26 = 1 by kernel_rfl] at g1
        replace g1 : DataW.trod enc Try.prog W 0 (fun _ => true) true n1 26 [c1] = some y1 := g1
        obtain ⟨n2, y2, g2⟩ := Go.Px.trod_field Try.underlying38 h 2 _ rfl
        replace g2 : DataW.trod enc Try.prog W 0 (fun _ => true) true n2 36 (List.take (Try.prog.cellsOf 36) (List.drop 2 [c0, c1, c2, c3])) = some y2 := g2
        rw [show Try.prog.cellsOf 36 = 1 by kernel_rfl] at g2
        replace g2 : DataW.trod enc Try.prog W 0 (fun _ => true) true n2 36 [c2] = some y2 := g2
        obtain ⟨n3, y3, g3⟩ := Go.Px.trod_field Try.underlying38 h 3 _ rfl
        replace g3 : DataW.trod enc Try.prog W 0 (fun _ => true) true n3 9 (List.take (Try.prog.cellsOf 9) (List.drop 3 [c0, c1, c2, c3])) = some y3 := g3
        rw [show Try.prog.cellsOf 9 = 1 by kernel_rfl] at g3
        replace g3 : DataW.trod enc Try.prog W 0 (fun _ => true) true n3 9 [c3] = some y3 := g3
        obtain ⟨v0, rfl, u0⟩ := Go.Px.trod_str Try.underlying25 g0
        obtain ⟨v1, rfl, u1⟩ := Go.Px.trod_int Try.underlying26 g1
        obtain ⟨v2, rfl, u2⟩ := Go.Px.trod_int Try.underlying36 g2
        obtain ⟨v3, rfl, u3⟩ := Go.Px.trod_str Try.underlying9 g3
        exact ⟨⟨v0, v1, v2, v3⟩, rfl, u0, u1, u2, u3⟩
        ) hT3
      rw [show Try.prog.cellsOf 38 = 4 by kernel_rfl] at u3
      obtain ⟨va4, vl4, vc4, rfl, hT4⟩ := Go.Px.trod_sl Try.underlying29 g4
      have u4 := Go.Px.rowOf_trod (α := ByteArray × Int × Int × ByteArray) (fun xe => [.string xe.1, .int .u16 xe.2.1, .int .u32 xe.2.2.1, .string xe.2.2.2]) (fun xe => xe.1.size ≤ maxLen ∧ (Lit.int .u16 xe.2.1).wf = true ∧ (Lit.int .u32 xe.2.2.1).wf = true ∧ xe.2.2.2.size ≤ maxLen) Try.underlying29 (by
        intro n cs x h hl
        have hl' : cs.length = 4 := hl.trans (by kernel_rfl)
        obtain ⟨c0, c1, c2, c3, rfl⟩ : ∃ c0 c1 c2 c3, cs = [c0, c1, c2, c3] := by
          match cs, hl' with
          | [c0, c1, c2, c3], _ => exact ⟨c0, c1, c2, c3, rfl⟩
        obtain ⟨n0, y0, g0⟩ := Go.Px.trod_field Try.underlying38 h 0 _ rfl
        replace g0 : DataW.trod enc Try.prog W 0 (fun _ => true) true n0 25 (List.take (Try.prog.cellsOf 25) (List.drop 0 [c0, c1, c2, c3])) = some y0 := g0
        rw [show Try.prog.cellsOf 25 = 1 by kernel_rfl] at g0
        replace g0 : DataW.trod enc Try.prog W 0 (fun _ => true) true n0 25 [c0] = some y0 := g0
        obtain ⟨n1, y1, g1⟩ := Go.Px.trod_field Try.underlying38 h 1 _ rfl
        replace g1 : DataW.trod enc Try.prog W 0 (fun _ => true) true n1 26 (List.take (Try.prog.cellsOf 26) (List.drop 1 [c0, c1, c2, c3])) = some y1 := g1
        rw [show Try.prog.cellsOf 26 = 1 by kernel_rfl] at g1
        replace g1 : DataW.trod enc Try.prog W 0 (fun _ => true) true n1 26 [c1] = some y1 := g1
        obtain ⟨n2, y2, g2⟩ := Go.Px.trod_field Try.underlying38 h 2 _ rfl
        replace g2 : DataW.trod enc Try.prog W 0 (fun _ => true) true n2 36 (List.take (Try.prog.cellsOf 36) (List.drop 2 [c0, c1, c2, c3])) = some y2 := g2
        rw [show Try.prog.cellsOf 36 = 1 by kernel_rfl] at g2
        replace g2 : DataW.trod enc Try.prog W 0 (fun _ => true) true n2 36 [c2] = some y2 := g2
        obtain ⟨n3, y3, g3⟩ := Go.Px.trod_field Try.underlying38 h 3 _ rfl
        replace g3 : DataW.trod enc Try.prog W 0 (fun _ => true) true n3 9 (List.take (Try.prog.cellsOf 9) (List.drop 3 [c0, c1, c2, c3])) = some y3 := g3
        rw [show Try.prog.cellsOf 9 = 1 by kernel_rfl] at g3
        replace g3 : DataW.trod enc Try.prog W 0 (fun _ => true) true n3 9 [c3] = some y3 := g3
        obtain ⟨v0, rfl, u0⟩ := Go.Px.trod_str Try.underlying25 g0
        obtain ⟨v1, rfl, u1⟩ := Go.Px.trod_int Try.underlying26 g1
        obtain ⟨v2, rfl, u2⟩ := Go.Px.trod_int Try.underlying36 g2
        obtain ⟨v3, rfl, u3⟩ := Go.Px.trod_str Try.underlying9 g3
        exact ⟨⟨v0, v1, v2, v3⟩, rfl, u0, u1, u2, u3⟩
        ) hT4
      rw [show Try.prog.cellsOf 38 = 4 by kernel_rfl] at u4
      obtain ⟨v5, rfl, u5⟩ := Go.Px.trod_int Try.underlying3 g5
      exact ⟨⟨v0, v1, ⟨va2, vl2, vc2⟩, ⟨va3, vl3, vc3⟩, ⟨va4, vl4, vc4⟩, v5⟩, rfl, u0, u1, u2, u3, u4, u5⟩
    obtain ⟨y, h1, h2⟩ := key m cs1.toList _ g (by rw [Array.length_toList]; exact hs1)
    exact ⟨y, by rw [← h1], h2⟩
  subst hy1
  obtain ⟨a2, rfl, rfl, rfl, w2⟩ := open_int Try.underlying22 (hval 2 22 v2 rfl rfl) h2
  clear hA0 hval0 hsz0 hsz
  refine (Go.Px.Runs.below (TransferOther_row W a0 (y1.1.1) (y1.1.2.1) (y1.1.2.2.1) (y1.1.2.2.2.1) (y1.1.2.2.2.2.1) (y1.1.2.2.2.2.2.1) (y1.1.2.2.2.2.2.2.1) (y1.1.2.2.2.2.2.2.2) (y1.2.1.1) (y1.2.1.2) (y1.2.2.1.1) (y1.2.2.1.2.1) (y1.2.2.1.2.2) (y1.2.2.2.1.1) (y1.2.2.2.1.2.1) (y1.2.2.2.1.2.2) (y1.2.2.2.2.1.1) (y1.2.2.2.2.1.2.1) (y1.2.2.2.2.1.2.2) (y1.2.2.2.2.2) a2 w0 w1 w2)).mono fun e W' ⟨he, bel⟩ => ?_
  subst he
  exact ⟨_, rfl, _, _, _, [], _, [], hW', trodAll_mk1 (shut_bool Try.underlying4 _), (trodAll_cons_mk (shut_int Try.underlying5 w0) (trodAll_cons_mk (Below.trod laidOut (by kernel_rfl) (of_decide_eq_true (by kernel_rfl)) k1 bel lt1) (trodAll_cons_mk (shut_int Try.underlying22 w2) trodAll_mk0))), rfl, bel.frame _, fun h => by cases h⟩
theorem over : Rows.transferOtherRow.holds Try.pinned (OpenSpec.ofChange Rows.transferOtherSpec) :=
  OpenClaim.holds_of_wide 3 Try.f3 rfl rfl rfl rfl rfl rfl rfl ⟨rfl, rfl, rfl, rfl, rfl⟩ rfl rfl rfl rfl rfl (by kernel_rfl) Try.func3 (by kernel_rfl)
    (of_decide_eq_true (by kernel_rfl)) (by unfold Func.isWrapper; first | (rw [if_pos (by decide +kernel)]; kernel_rfl) | (rw [if_neg (by decide +kernel)]; exact ⟨rfl, rfl⟩))
    (fun os started H enc _ => lifted os started H enc)
theorem proved : Rows.TransferOtherSaid := over
end Go.Proofs.Ythlkeokfmedjhaa.transferOther
namespace Go.Proofs.Ythlkeokfmedjhaa
/-- The row, under a short name. -/
theorem transferOther_holds : Rows.TransferOtherSaid := transferOther.proved
#print axioms transferOther_holds
end Go.Proofs.Ythlkeokfmedjhaa
