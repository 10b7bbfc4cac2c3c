/- EventRead: for every input the law returns true, and its arguments read afterwards as they read before. No condition. -/
import Derived.Test.YtkagfmlaolmdnaaDoorRows
import Derived.Test.YtkagfmlaolmdnaaDoorEv10
import Derived.Test.YtkagfmlaolmdnaaDoorPx8
import Derived.WalkKit
import Derived.ProofKit
import Derived.OpenShut
import Derived.ShutString
import Derived.ChangeOld
import Derived.Below
import Derived.SizedLaws
import Derived.Test.YtkagfmlaolmdnaaDoorPx9
import Derived.Test.YtkagfmlaolmdnaaDoorLd1
import Derived.Test.YtkagfmlaolmdnaaDoorCards
import Derived.Test.YtkagfmlaolmdnaaDoorTie
import Derived.SevenTiedAt
namespace Go.Proofs.YtkagfmlaolmdnaaDoor.eventRead
open Go.ChangeShapes Go.WideShapes Go.ChangeAt Go.RowKit
open Go.ChangeMaps (open_string shut_string)
set_option linter.unusedVariables false
theorem own : ownKnob Tryd.prog.godebug = none := by kernel_rfl
theorem laidOut : laidOutB Tryd.prog = true := by kernel_rfl
set_option maxRecDepth 100000 in
theorem lifted (os : Os) (started : os.Started) (H : Type) (enc : TypeId × Value → H) :
    ReturnsInHanded {} Tryd.checked os 13 .any (fun w args => (Rows.eventReadSpec.pre enc Tryd.prog Tryd.f13 Rows.eventReadRow.domain false w args ∧ laidMetH Tryd.prog LaidL w) ∧ sizedMet enc Tryd.prog Tryd.f13 (OpenSpec.ofChange Rows.eventReadSpec) false w args) (Rows.eventReadSpec.post enc Tryd.prog Tryd.f13 false true false false) := by
  refine returnsInHanded_of_change_and (C := Tryd.checked) (X := fun w _ => laidMetH Tryd.prog LaidL w) (fun _ _ _ hh h => h.of_heap hh) own started (by kernel_rfl) Tryd.func13
    (ChangeSpec.witness_shaped (enc := enc) (C := Tryd.checked) (os := os) (X := fun w _ => laidMetH Tryd.prog LaidL w) false (laidWorld os) #[.slice none 0 0, .agg #[.int .u32 0, .slice none 0 0, .slice none 0 0, .int .u16 0, .int .u8 0, .int .u8 0, .slice none 0 0, .bool false, .int .u8 0, .int .u8 0], .int .u8 0, .int .u8 0] 8 (laidWorld_os os) (laidWorld_shaped os _) (by kernel_rfl) (by kernel_rfl) (by kernel_rfl) (laidWorld_met os _)) ?_
  intro W base args ds gs before hval0 hW hcnd hsz0 hL _
  have hg := handle_of_laid hL
  have hsz : (DataW.weightsEach Tryd.prog (Tryd.f13.params.toList ++ Rows.eventReadSpec.plain.varTypes Tryd.prog) (ds ++ gs)).all (· ≤ reachBytes) = true := hsz0
  have hval : ∀ (j : Nat) t v, Tryd.f13.params[j]? = some t → args[j]? = some v → Value.okWide Tryd.prog W .any base t v := hval0
  have hW' := hW
  obtain ⟨p, q, hA0, hV, rfl, hfz, hnd⟩ := hW
  have hA : DataW.TrodAll enc Tryd.prog W 0 (fun _ => true) true Tryd.f13.params.toList args.toList ds p := hA0
  rw [Tryd.params13] at hA hval hsz
  obtain ⟨v0, vs0, d0, ds0, p0, q0, hargs, rfl, rfl, h0, r0⟩ := trodAll_cons hA
  obtain ⟨v1, vs1, d1, ds1, p1, q1, rfl, rfl, rfl, h1, r1⟩ := trodAll_cons r0
  obtain ⟨v2, vs2, d2, ds2, p2, q2, rfl, rfl, rfl, h2, r2⟩ := trodAll_cons r1
  obtain ⟨v3, vs3, d3, ds3, p3, q3, rfl, rfl, rfl, h3, r3⟩ := trodAll_cons r2
  obtain ⟨rfl, rfl, rfl⟩ := trodAll_nil r3
  obtain rfl : args = #[v0, v1, v2, v3] := by cases args; simp_all
  obtain ⟨rfl, rfl⟩ := trodVars_none hV
  obtain ⟨a0, len0, cap0, rfl⟩ := okWide_slice Tryd.underlying22 (hval 0 22 v0 rfl rfl)
  have k0 := h0
  have lt0 : ∀ x ∈ p0, x.block < W.heap.size := by obtain ⟨m, hm⟩ := k0; exact DataW.trod_lt m _ _ _ hm
  have w0 := Go.Px.rowOf_trod (α := Int) (fun x => [.int .u8 x]) (fun x => (Lit.int .u8 x).wf = true) Tryd.underlying22 (by
    intro n cs x h hl
    obtain ⟨c, rfl⟩ := Go.Px.trod_len Tryd.underlying5 rfl h
    obtain ⟨m, rfl, w⟩ := Go.Px.trod_int Tryd.underlying5 h
    exact ⟨m, rfl, w⟩
    ) k0
  rw [show Tryd.prog.cellsOf 5 = 1 by kernel_rfl] at w0
  have z0 := Go.Px.weight_of 0 hsz rfl rfl Tryd.underlying22 (by decide +kernel) k0
  obtain ⟨cs1, rfl, hs1⟩ := okWide_struct Tryd.underlying72 (hval 1 72 v1 rfl rfl)
  have k1 := h1
  have lt1 : ∀ x ∈ p1, x.block < W.heap.size := by obtain ⟨m, hm⟩ := k1; exact DataW.trod_lt m _ _ _ hm
  obtain ⟨y1, hy1, w1⟩ : ∃ y : Int × (Option Addr × Nat × Nat) × (Option Addr × Nat × Nat) × Int × Int × (Int × (Option Addr × Nat × Nat) × Bool × Int) × Int, cs1 = ((fun x => [.int .u32 x.1, .slice x.2.1.1 x.2.1.2.1 x.2.1.2.2, .slice x.2.2.1.1 x.2.2.1.2.1 x.2.2.1.2.2, .int .u16 x.2.2.2.1, .int .u8 x.2.2.2.2.1, .int .u8 x.2.2.2.2.2.1.1, .slice x.2.2.2.2.2.1.2.1.1 x.2.2.2.2.2.1.2.1.2.1 x.2.2.2.2.2.1.2.1.2.2, .bool x.2.2.2.2.2.1.2.2.1, .int .u8 x.2.2.2.2.2.1.2.2.2, .int .u8 x.2.2.2.2.2.2]) y).toArray ∧ (fun x => (Lit.int .u32 x.1).wf = true ∧ (x.2.1.2.1 ≤ x.2.1.2.2 ∧ x.2.1.2.2 ≤ maxLen ∧ ∃ ys : List (Int), Go.Px.SlIn (Go.Px.imW W) x.2.1.1 x.2.1.2.1 1 (fun xe => [.int .u8 xe]) ys ∧ ∀ y ∈ ys, (fun xe => (Lit.int .u8 xe).wf = true) y) ∧ (x.2.2.1.2.1 ≤ x.2.2.1.2.2 ∧ x.2.2.1.2.2 ≤ maxLen ∧ ∃ ys : List (Int), Go.Px.SlIn (Go.Px.imW W) x.2.2.1.1 x.2.2.1.2.1 1 (fun xe => [.int .u8 xe]) ys ∧ ∀ y ∈ ys, (fun xe => (Lit.int .u8 xe).wf = true) y) ∧ (Lit.int .u16 x.2.2.2.1).wf = true ∧ (Lit.int .u8 x.2.2.2.2.1).wf = true ∧ ((Lit.int .u8 x.2.2.2.2.2.1.1).wf = true ∧ (x.2.2.2.2.2.1.2.1.2.1 ≤ x.2.2.2.2.2.1.2.1.2.2 ∧ x.2.2.2.2.2.1.2.1.2.2 ≤ maxLen ∧ ∃ ys : List (Int), Go.Px.SlIn (Go.Px.imW W) x.2.2.2.2.2.1.2.1.1 x.2.2.2.2.2.1.2.1.2.1 1 (fun xe => [.int .u8 xe]) ys ∧ ∀ y ∈ ys, (fun xe => (Lit.int .u8 xe).wf = true) y) ∧ True ∧ (Lit.int .u8 x.2.2.2.2.2.1.2.2.2).wf = true) ∧ (Lit.int .u8 x.2.2.2.2.2.2).wf = true) y := by
    obtain ⟨m, g⟩ := h1
    have key : ∀ (n : Nat) (cs : List Value) (x : DataW H × List MemPlace), DataW.trod enc Tryd.prog W 0 (fun _ => true) true n 72 cs = some x → cs.length = Tryd.prog.cellsOf 72 → ∃ y : Int × (Option Addr × Nat × Nat) × (Option Addr × Nat × Nat) × Int × Int × (Int × (Option Addr × Nat × Nat) × Bool × Int) × Int, cs = (fun x => [.int .u32 x.1, .slice x.2.1.1 x.2.1.2.1 x.2.1.2.2, .slice x.2.2.1.1 x.2.2.1.2.1 x.2.2.1.2.2, .int .u16 x.2.2.2.1, .int .u8 x.2.2.2.2.1, .int .u8 x.2.2.2.2.2.1.1, .slice x.2.2.2.2.2.1.2.1.1 x.2.2.2.2.2.1.2.1.2.1 x.2.2.2.2.2.1.2.1.2.2, .bool x.2.2.2.2.2.1.2.2.1, .int .u8 x.2.2.2.2.2.1.2.2.2, .int .u8 x.2.2.2.2.2.2]) y ∧ (fun x => (Lit.int .u32 x.1).wf = true ∧ (x.2.1.2.1 ≤ x.2.1.2.2 ∧ x.2.1.2.2 ≤ maxLen ∧ ∃ ys : List (Int), Go.Px.SlIn (Go.Px.imW W) x.2.1.1 x.2.1.2.1 1 (fun xe => [.int .u8 xe]) ys ∧ ∀ y ∈ ys, (fun xe => (Lit.int .u8 xe).wf = true) y) ∧ (x.2.2.1.2.1 ≤ x.2.2.1.2.2 ∧ x.2.2.1.2.2 ≤ maxLen ∧ ∃ ys : List (Int), Go.Px.SlIn (Go.Px.imW W) x.2.2.1.1 x.2.2.1.2.1 1 (fun xe => [.int .u8 xe]) ys ∧ ∀ y ∈ ys, (fun xe => (Lit.int .u8 xe).wf = true) y) ∧ (Lit.int .u16 x.2.2.2.1).wf = true ∧ (Lit.int .u8 x.2.2.2.2.1).wf = true ∧ ((Lit.int .u8 x.2.2.2.2.2.1.1).wf = true ∧ (x.2.2.2.2.2.1.2.1.2.1 ≤ x.2.2.2.2.2.1.2.1.2.2 ∧ x.2.2.2.2.2.1.2.1.2.2 ≤ maxLen ∧ ∃ ys : List (Int), Go.Px.SlIn (Go.Px.imW W) x.2.2.2.2.2.1.2.1.1 x.2.2.2.2.2.1.2.1.2.1 1 (fun xe => [.int .u8 xe]) ys ∧ ∀ y ∈ ys, (fun xe => (Lit.int .u8 xe).wf = true) y) ∧ True ∧ (Lit.int .u8 x.2.2.2.2.2.1.2.2.2).wf = true) ∧ (Lit.int .u8 x.2.2.2.2.2.2).wf = true) y := by
      intro n cs x h hl
      have hl' : cs.length = 10 := hl.trans (by kernel_rfl)
      obtain ⟨c0, c1, c2, c3, c4, c5, c6, c7, c8, c9, rfl⟩ : ∃ c0 c1 c2 c3 c4 c5 c6 c7 c8 c9, cs = [c0, c1, c2, c3, c4, c5, c6, c7, c8, c9] := by
        match cs, hl' with
        | [c0, c1, c2, c3, c4, c5, c6, c7, c8, c9], _ => exact ⟨c0, c1, c2, c3, c4, c5, c6, c7, c8, c9, rfl⟩
      obtain ⟨n0, y0, g0⟩ := Go.Px.trod_field Tryd.underlying72 h 0 _ rfl
      replace g0 : DataW.trod enc Tryd.prog W 0 (fun _ => true) true n0 70 (List.take (Tryd.prog.cellsOf 70) (List.drop 0 [c0, c1, c2, c3, c4, c5, c6, c7, c8, c9])) = some y0 := g0
      rw [show Tryd.prog.cellsOf 70 = 1 by kernel_rfl] at g0
      replace g0 : DataW.trod enc Tryd.prog W 0 (fun _ => true) true n0 70 [c0] = some y0 := g0
      obtain ⟨n1, y1, g1⟩ := Go.Px.trod_field Tryd.underlying72 h 1 _ rfl
      replace g1 : DataW.trod enc Tryd.prog W 0 (fun _ => true) true n1 22 (List.take (Tryd.prog.cellsOf 22) (List.drop 1 [c0, c1, c2, c3, c4, c5, c6, c7, c8, c9])) = some y1 := g1
      rw [show Tryd.prog.cellsOf 22 = 1 by kernel_rfl] at g1
      replace g1 : DataW.trod enc Tryd.prog W 0 (fun _ => true) true n1 22 [c1] = some y1 := g1
      obtain ⟨n2, y2, g2⟩ := Go.Px.trod_field Tryd.underlying72 h 2 _ rfl
      replace g2 : DataW.trod enc Tryd.prog W 0 (fun _ => true) true n2 22 (List.take (Tryd.prog.cellsOf 22) (List.drop 2 [c0, c1, c2, c3, c4, c5, c6, c7, c8, c9])) = some y2 := g2
      rw [show Tryd.prog.cellsOf 22 = 1 by kernel_rfl] at g2
      replace g2 : DataW.trod enc Tryd.prog W 0 (fun _ => true) true n2 22 [c2] = some y2 := g2
      obtain ⟨n3, y3, g3⟩ := Go.Px.trod_field Tryd.underlying72 h 3 _ rfl
      replace g3 : DataW.trod enc Tryd.prog W 0 (fun _ => true) true n3 61 (List.take (Tryd.prog.cellsOf 61) (List.drop 3 [c0, c1, c2, c3, c4, c5, c6, c7, c8, c9])) = some y3 := g3
      rw [show Tryd.prog.cellsOf 61 = 1 by kernel_rfl] at g3
      replace g3 : DataW.trod enc Tryd.prog W 0 (fun _ => true) true n3 61 [c3] = some y3 := g3
      obtain ⟨n4, y4, g4⟩ := Go.Px.trod_field Tryd.underlying72 h 4 _ rfl
      replace g4 : DataW.trod enc Tryd.prog W 0 (fun _ => true) true n4 5 (List.take (Tryd.prog.cellsOf 5) (List.drop 4 [c0, c1, c2, c3, c4, c5, c6, c7, c8, c9])) = some y4 := g4
      rw [show Tryd.prog.cellsOf 5 = 1 by kernel_rfl] at g4
      replace g4 : DataW.trod enc Tryd.prog W 0 (fun _ => true) true n4 5 [c4] = some y4 := g4
      obtain ⟨n5, y5, g5⟩ := Go.Px.trod_field Tryd.underlying72 h 5 _ rfl
      replace g5 : DataW.trod enc Tryd.prog W 0 (fun _ => true) true n5 49 (List.take (Tryd.prog.cellsOf 49) (List.drop 5 [c0, c1, c2, c3, c4, c5, c6, c7, c8, c9])) = some y5 := g5
      rw [show Tryd.prog.cellsOf 49 = 4 by kernel_rfl] at g5
      replace g5 : DataW.trod enc Tryd.prog W 0 (fun _ => true) true n5 49 [c5, c6, c7, c8] = some y5 := g5
      obtain ⟨n6, y6, g6⟩ := Go.Px.trod_field Tryd.underlying72 h 6 _ rfl
      replace g6 : DataW.trod enc Tryd.prog W 0 (fun _ => true) true n6 5 (List.take (Tryd.prog.cellsOf 5) (List.drop 9 [c0, c1, c2, c3, c4, c5, c6, c7, c8, c9])) = some y6 := g6
      rw [show Tryd.prog.cellsOf 5 = 1 by kernel_rfl] at g6
      replace g6 : DataW.trod enc Tryd.prog W 0 (fun _ => true) true n6 5 [c9] = some y6 := g6
      obtain ⟨v0, rfl, u0⟩ := Go.Px.trod_int Tryd.underlying70 g0
      obtain ⟨va1, vl1, vc1, rfl, hT1⟩ := Go.Px.trod_sl Tryd.underlying22 g1
      have u1 := Go.Px.rowOf_trod (α := Int) (fun xe => [.int .u8 xe]) (fun xe => (Lit.int .u8 xe).wf = true) Tryd.underlying22 (by
        intro n cs x h hl
        obtain ⟨c, rfl⟩ := Go.Px.trod_len Tryd.underlying5 rfl h
        obtain ⟨m, rfl, w⟩ := Go.Px.trod_int Tryd.underlying5 h
        exact ⟨m, rfl, w⟩
        ) hT1
      rw [show Tryd.prog.cellsOf 5 = 1 by kernel_rfl] at u1
      obtain ⟨va2, vl2, vc2, rfl, hT2⟩ := Go.Px.trod_sl Tryd.underlying22 g2
      have u2 := Go.Px.rowOf_trod (α := Int) (fun xe => [.int .u8 xe]) (fun xe => (Lit.int .u8 xe).wf = true) Tryd.underlying22 (by
        intro n cs x h hl
        obtain ⟨c, rfl⟩ := Go.Px.trod_len Tryd.underlying5 rfl h
        obtain ⟨m, rfl, w⟩ := Go.Px.trod_int Tryd.underlying5 h
        exact ⟨m, rfl, w⟩
        ) hT2
      rw [show Tryd.prog.cellsOf 5 = 1 by kernel_rfl] at u2
      obtain ⟨v3, rfl, u3⟩ := Go.Px.trod_int Tryd.underlying61 g3
      obtain ⟨v4, rfl, u4⟩ := Go.Px.trod_int Tryd.underlying5 g4
      obtain ⟨v5, e5, u5⟩ : ∃ y : Int × (Option Addr × Nat × Nat) × Bool × Int, [c5, c6, c7, c8] = (fun x => [.int .u8 x.1, .slice x.2.1.1 x.2.1.2.1 x.2.1.2.2, .bool x.2.2.1, .int .u8 x.2.2.2]) y ∧ (fun x => (Lit.int .u8 x.1).wf = true ∧ (x.2.1.2.1 ≤ x.2.1.2.2 ∧ x.2.1.2.2 ≤ maxLen ∧ ∃ ys : List (Int), Go.Px.SlIn (Go.Px.imW W) x.2.1.1 x.2.1.2.1 1 (fun xe => [.int .u8 xe]) ys ∧ ∀ y ∈ ys, (fun xe => (Lit.int .u8 xe).wf = true) y) ∧ True ∧ (Lit.int .u8 x.2.2.2).wf = true) y := by
        have key5 : ∀ (n : Nat) (cs : List Value) (x : DataW H × List MemPlace), DataW.trod enc Tryd.prog W 0 (fun _ => true) true n 49 cs = some x → cs.length = Tryd.prog.cellsOf 49 → ∃ y : Int × (Option Addr × Nat × Nat) × Bool × Int, cs = (fun x => [.int .u8 x.1, .slice x.2.1.1 x.2.1.2.1 x.2.1.2.2, .bool x.2.2.1, .int .u8 x.2.2.2]) y ∧ (fun x => (Lit.int .u8 x.1).wf = true ∧ (x.2.1.2.1 ≤ x.2.1.2.2 ∧ x.2.1.2.2 ≤ maxLen ∧ ∃ ys : List (Int), Go.Px.SlIn (Go.Px.imW W) x.2.1.1 x.2.1.2.1 1 (fun xe => [.int .u8 xe]) ys ∧ ∀ y ∈ ys, (fun xe => (Lit.int .u8 xe).wf = true) y) ∧ True ∧ (Lit.int .u8 x.2.2.2).wf = true) y := by
          intro n cs x h hl
          have hl' : cs.length = 4 := hl.trans (by kernel_rfl)
          obtain ⟨c0, c1, c2, c3, rfl⟩ : ∃ c0 c1 c2 c3, cs = [c0, c1, c2, c3] := by
            match cs, hl' with
            | [c0, c1, c2, c3], _ => exact ⟨c0, c1, c2, c3, rfl⟩
          obtain ⟨n0, y0, g0⟩ := Go.Px.trod_field Tryd.underlying49 h 0 _ rfl
          replace g0 : DataW.trod enc Tryd.prog W 0 (fun _ => true) true n0 5 (List.take (Tryd.prog.cellsOf 5) (List.drop 0 [c0, c1, c2, c3])) = some y0 := g0
          rw [show Tryd.prog.cellsOf 5 = 1 by kernel_rfl] at g0
          replace g0 : DataW.trod enc Tryd.prog W 0 (fun _ => true) true n0 5 [c0] = some y0 := g0
          obtain ⟨n1, y1, g1⟩ := Go.Px.trod_field Tryd.underlying49 h 1 _ rfl
          replace g1 : DataW.trod enc Tryd.prog W 0 (fun _ => true) true n1 22 (List.take (Tryd.prog.cellsOf 22) (List.drop 1 [c0, c1, c2, c3])) = some y1 := g1
          rw [show Tryd.prog.cellsOf 22 = 1 by kernel_rfl] at g1
          replace g1 : DataW.trod enc Tryd.prog W 0 (fun _ => true) true n1 22 [c1] = some y1 := g1
          obtain ⟨n2, y2, g2⟩ := Go.Px.trod_field Tryd.underlying49 h 2 _ rfl
          replace g2 : DataW.trod enc Tryd.prog W 0 (fun _ => true) true n2 4 (List.take (Tryd.prog.cellsOf 4) (List.drop 2 [c0, c1, c2, c3])) = some y2 := g2
          rw [show Tryd.prog.cellsOf 4 = 1 by kernel_rfl] at g2
          replace g2 : DataW.trod enc Tryd.prog W 0 (fun _ => true) true n2 4 [c2] = some y2 := g2
          obtain ⟨n3, y3, g3⟩ := Go.Px.trod_field Tryd.underlying49 h 3 _ rfl
          replace g3 : DataW.trod enc Tryd.prog W 0 (fun _ => true) true n3 5 (List.take (Tryd.prog.cellsOf 5) (List.drop 3 [c0, c1, c2, c3])) = some y3 := g3
          rw [show Tryd.prog.cellsOf 5 = 1 by kernel_rfl] at g3
          replace g3 : DataW.trod enc Tryd.prog W 0 (fun _ => true) true n3 5 [c3] = some y3 := g3
          obtain ⟨v0, rfl, u0⟩ := Go.Px.trod_int Tryd.underlying5 g0
          obtain ⟨va1, vl1, vc1, rfl, hT1⟩ := Go.Px.trod_sl Tryd.underlying22 g1
          have u1 := Go.Px.rowOf_trod (α := Int) (fun xe => [.int .u8 xe]) (fun xe => (Lit.int .u8 xe).wf = true) Tryd.underlying22 (by
            intro n cs x h hl
            obtain ⟨c, rfl⟩ := Go.Px.trod_len Tryd.underlying5 rfl h
            obtain ⟨m, rfl, w⟩ := Go.Px.trod_int Tryd.underlying5 h
            exact ⟨m, rfl, w⟩
            ) hT1
          rw [show Tryd.prog.cellsOf 5 = 1 by kernel_rfl] at u1
          obtain ⟨v2, rfl⟩ := Go.Px.trod_bool Tryd.underlying4 g2
          obtain ⟨v3, rfl, u3⟩ := Go.Px.trod_int Tryd.underlying5 g3
          exact ⟨⟨v0, ⟨va1, vl1, vc1⟩, v2, v3⟩, rfl, u0, u1, trivial, u3⟩
        exact key5 _ _ _ g5 (by kernel_rfl)
      simp only [List.cons.injEq, and_true] at e5
      obtain ⟨rfl, rfl, rfl, rfl⟩ := e5
      obtain ⟨v6, rfl, u6⟩ := Go.Px.trod_int Tryd.underlying5 g6
      exact ⟨⟨v0, ⟨va1, vl1, vc1⟩, ⟨va2, vl2, vc2⟩, v3, v4, v5, v6⟩, rfl, u0, u1, u2, u3, u4, u5, u6⟩
    obtain ⟨y, h1, h2⟩ := key m cs1.toList _ g (by rw [Array.length_toList]; exact hs1)
    exact ⟨y, by rw [← h1], h2⟩
  subst hy1
  obtain ⟨a2, rfl, rfl, rfl, w2⟩ := open_int Tryd.underlying5 (hval 2 5 v2 rfl rfl) h2
  obtain ⟨a3, rfl, rfl, rfl, w3⟩ := open_int Tryd.underlying5 (hval 3 5 v3 rfl rfl) h3
  clear hA0 hval0 hsz0 hsz
  refine (Go.Px.Runs.below (EventRead_row W hg a0 len0 cap0 (y1.1) (y1.2.1.1) (y1.2.1.2.1) (y1.2.1.2.2) (y1.2.2.1.1) (y1.2.2.1.2.1) (y1.2.2.1.2.2) (y1.2.2.2.1) (y1.2.2.2.2.1) (y1.2.2.2.2.2.1.1) (y1.2.2.2.2.2.1.2.1.1) (y1.2.2.2.2.2.1.2.1.2.1) (y1.2.2.2.2.2.1.2.1.2.2) (y1.2.2.2.2.2.1.2.2.1) (y1.2.2.2.2.2.1.2.2.2) (y1.2.2.2.2.2.2) a2 a3 w0 z0 w1 w2 w3)).mono fun e W' ⟨he, bel⟩ => ?_
  subst he
  exact ⟨_, rfl, _, _, _, [], _, [], hW', trodAll_mk1 (shut_bool Tryd.underlying4 _), (trodAll_cons_mk (Below.trod laidOut (by kernel_rfl) (of_decide_eq_true (by kernel_rfl)) k0 bel lt0) (trodAll_cons_mk (Below.trod laidOut (by kernel_rfl) (of_decide_eq_true (by kernel_rfl)) k1 bel lt1) (trodAll_cons_mk (shut_int Tryd.underlying5 w2) (trodAll_cons_mk (shut_int Tryd.underlying5 w3) trodAll_mk0)))), rfl, bel.frame _, fun h => by cases h⟩
theorem over : Rows.eventReadRow.holds Tryd.pinned (OpenSpec.ofChange Rows.eventReadSpec) :=
  OpenClaim.holds_of_wide 13 Tryd.f13 rfl rfl rfl rfl rfl rfl rfl ⟨rfl, rfl, rfl, rfl, rfl⟩ rfl rfl rfl rfl rfl (by kernel_rfl) Tryd.func13 (by kernel_rfl)
    (of_decide_eq_true (by kernel_rfl)) (by unfold Func.isWrapper; first | (rw [if_pos (by decide +kernel)]; kernel_rfl) | (rw [if_neg (by decide +kernel)]; exact ⟨rfl, rfl⟩))
    (fun os started H enc _ => lifted os started H enc)
theorem proved : Rows.EventReadCardSaid :=
  Claim7.holds_tied_plain_at .later [] [.data, .data, .data, .sentinel, .sentinel] true (true, "a858432808440719c3b53b1a9cd1cc5de2c898acf837f385c72f387707531c3d") true
    over (fun _ h => by cases h) (by kernel_rfl) (fun _ h => by cases h) eventRead_row_tie rfl ⟨rfl, rfl⟩ (by kernel_rfl) rfl
    (fun f fn hf hfn => by
      obtain rfl : f = 13 := Option.some.inj ((show Tryd.prog.funcNamed "bolter/bolterlaw25.EventRead" = some 13 by kernel_rfl).symm.trans hf) |>.symm
      obtain rfl : fn = Tryd.f13 := (Option.some.inj (Tryd.func13.symm.trans hfn)).symm
      exact ⟨by kernel_rfl, fun j t ht => by
        rw [Tryd.params13] at ht
        match j, ht with
        | 0, ht =>
          have h : t = 22 := by simpa using ht.symm
          subst h
          exact (show Tryd.prog.wantsStandIn 22 = false by kernel_rfl)
        | 1, ht =>
          have h : t = 72 := by simpa using ht.symm
          subst h
          exact (show Tryd.prog.wantsStandIn 72 = false by kernel_rfl)
        | 2, ht =>
          have h : t = 5 := by simpa using ht.symm
          subst h
          exact (show Tryd.prog.wantsStandIn 5 = false by kernel_rfl)
        | 3, ht =>
          have h : t = 5 := by simpa using ht.symm
          subst h
          exact (show Tryd.prog.wantsStandIn 5 = false by kernel_rfl)
        | j + 4, ht => simp at ht⟩)
    (by kernel_rfl)
end Go.Proofs.YtkagfmlaolmdnaaDoor.eventRead
namespace Go.Proofs.YtkagfmlaolmdnaaDoor
/-- The tied card, under a short name. -/
theorem eventRead_holds : Rows.EventReadCardSaid := eventRead.proved
#print axioms eventRead_holds
end Go.Proofs.YtkagfmlaolmdnaaDoor
