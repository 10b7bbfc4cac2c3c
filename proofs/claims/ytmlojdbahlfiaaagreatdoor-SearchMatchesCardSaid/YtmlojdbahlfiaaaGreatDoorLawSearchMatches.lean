/- SearchMatches: for every input the law returns true, and its arguments read afterwards as they read before. No condition. -/
import Derived.Test.YtmlojdbahlfiaaaGreatDoorRows
import Derived.Test.YtmlojdbahlfiaaaGreatDoorM1SearchMatches
import Derived.Test.YtmlojdbahlfiaaaGreatDoorM2SearchMatches
import Derived.Test.YtmlojdbahlfiaaaGreatDoorM3SearchMatches
import Derived.Test.YtmlojdbahlfiaaaGreatDoorM4SearchMatches
import Derived.Test.YtmlojdbahlfiaaaGreatDoorM5SearchMatches
import Derived.WalkKit
import Derived.ProofKit
import Derived.OpenShut
import Derived.ShutString
import Derived.ChangeOld
import Derived.Below
import Derived.SizedLaws
import Derived.Test.YtmlojdbahlfiaaaGreatDoorCards
import Derived.Test.YtmlojdbahlfiaaaGreatDoorTie
import Derived.SevenTiedAt
namespace Go.Proofs.YtmlojdbahlfiaaaGreatDoor.searchMatches
open Go.ChangeShapes Go.WideShapes Go.ChangeAt Go.RowKit
open Go.ChangeMaps (open_string shut_string)
set_option linter.unusedVariables false
theorem own : ownKnob Tryz.prog.godebug = none := by kernel_rfl
theorem laidOut : laidOutB Tryz.prog = true := by kernel_rfl
set_option maxRecDepth 100000 in
theorem lifted (os : Os) (started : os.Started) (H : Type) (enc : TypeId × Value → H) :
    ReturnsInHanded {} Tryz.checked os 3 .any (fun w args => (Rows.searchMatchesSpec.pre enc Tryz.prog Tryz.f3 Rows.searchMatchesRow.domain false w args ∧ laidMetH Tryz.prog LaidL w) ∧ sizedMet enc Tryz.prog Tryz.f3 (OpenSpec.ofChange Rows.searchMatchesSpec) false w args) (Rows.searchMatchesSpec.post enc Tryz.prog Tryz.f3 false true false false) := by
  refine returnsInHanded_of_change_and (C := Tryz.checked) (X := fun w _ => laidMetH Tryz.prog LaidL w) (fun _ _ _ hh h => h.of_heap hh) own started (by kernel_rfl) Tryz.func3
    (ChangeSpec.witness_shaped (enc := enc) (C := Tryz.checked) (os := os) (X := fun w _ => laidMetH Tryz.prog LaidL w) false (laidWorld os) #[.agg #[.bool false, .slice none 0 0, .slice none 0 0, .slice none 0 0, .slice none 0 0, .slice none 0 0], .agg #[.int .u8 0, .slice none 0 0, .bool false, .int .u8 0, .int .u8 0], .agg #[.int .i64 0, .string ByteArray.empty, .string ByteArray.empty, .int .i64 0], .agg #[.string ByteArray.empty, .string ByteArray.empty, .slice none 0 0, .slice none 0 0, .slice none 0 0]] 8 (laidWorld_os os) (laidWorld_shaped os _) (by kernel_rfl) (by kernel_rfl) (by kernel_rfl) (laidWorld_met os _)) ?_
  intro W base args ds gs before hval0 hW hcnd hsz0 hL _
  have hg := handle_of_laid hL
  have hsz : (DataW.weightsEach Tryz.prog (Tryz.f3.params.toList ++ Rows.searchMatchesSpec.plain.varTypes Tryz.prog) (ds ++ gs)).all (· ≤ reachBytes) = true := hsz0
  have hval : ∀ (j : Nat) t v, Tryz.f3.params[j]? = some t → args[j]? = some v → Value.okWide Tryz.prog W .any base t v := hval0
  have hW' := hW
  obtain ⟨p, q, hA0, hV, rfl, hfz, hnd⟩ := hW
  have hA : DataW.TrodAll enc Tryz.prog W 0 (fun _ => true) true Tryz.f3.params.toList args.toList ds p := hA0
  rw [Tryz.params3] at hA hval hsz
  obtain ⟨v0, vs0, d0, ds0, p0, q0, hargs, rfl, rfl, h0, r0⟩ := trodAll_cons hA
  obtain ⟨v1, vs1, d1, ds1, p1, q1, rfl, rfl, rfl, h1, r1⟩ := trodAll_cons r0
  obtain ⟨v2, vs2, d2, ds2, p2, q2, rfl, rfl, rfl, h2, r2⟩ := trodAll_cons r1
  obtain ⟨v3, vs3, d3, ds3, p3, q3, rfl, rfl, rfl, h3, r3⟩ := trodAll_cons r2
  obtain ⟨rfl, rfl, rfl⟩ := trodAll_nil r3
  obtain rfl : args = #[v0, v1, v2, v3] := by cases args; simp_all
  obtain ⟨rfl, rfl⟩ := trodVars_none hV
  obtain ⟨cs0, rfl, hs0⟩ := okWide_struct Tryz.underlying25 (hval 0 25 v0 rfl rfl)
  have k0 := h0
  have lt0 : ∀ x ∈ p0, x.block < W.heap.size := by obtain ⟨m, hm⟩ := k0; exact DataW.trod_lt m _ _ _ hm
  obtain ⟨y0, hy0, w0⟩ : ∃ y : Bool × (Option Addr × Nat × Nat) × (Option Addr × Nat × Nat) × (Option Addr × Nat × Nat) × (Option Addr × Nat × Nat) × (Option Addr × Nat × Nat), cs0 = ((fun x => [.bool x.1, .slice x.2.1.1 x.2.1.2.1 x.2.1.2.2, .slice x.2.2.1.1 x.2.2.1.2.1 x.2.2.1.2.2, .slice x.2.2.2.1.1 x.2.2.2.1.2.1 x.2.2.2.1.2.2, .slice x.2.2.2.2.1.1 x.2.2.2.2.1.2.1 x.2.2.2.2.1.2.2, .slice x.2.2.2.2.2.1 x.2.2.2.2.2.2.1 x.2.2.2.2.2.2.2]) y).toArray ∧ (fun x => True ∧ (x.2.1.2.1 ≤ x.2.1.2.2 ∧ x.2.1.2.2 ≤ maxLen ∧ ∃ ys : List (Int), Go.Px.SlIn (Go.Px.imW W) x.2.1.1 x.2.1.2.1 1 (fun xe => [.int .u8 xe]) ys ∧ ∀ y ∈ ys, (fun xe => (Lit.int .u8 xe).wf = true) y) ∧ (x.2.2.1.2.1 ≤ x.2.2.1.2.2 ∧ x.2.2.1.2.2 ≤ maxLen ∧ ∃ ys : List (Int), Go.Px.SlIn (Go.Px.imW W) x.2.2.1.1 x.2.2.1.2.1 1 (fun xe => [.int .u8 xe]) ys ∧ ∀ y ∈ ys, (fun xe => (Lit.int .u8 xe).wf = true) y) ∧ (x.2.2.2.1.2.1 ≤ x.2.2.2.1.2.2 ∧ x.2.2.2.1.2.2 ≤ maxLen ∧ ∃ ys : List ((Option Addr × Nat × Nat)), Go.Px.SlIn (Go.Px.imW W) x.2.2.2.1.1 x.2.2.2.1.2.1 1 (fun xe => [.slice xe.1 xe.2.1 xe.2.2]) ys ∧ ∀ y ∈ ys, (fun xe => (xe.2.1 ≤ xe.2.2 ∧ xe.2.2 ≤ maxLen ∧ ∃ ys : List (Int), Go.Px.SlIn (Go.Px.imW W) xe.1 xe.2.1 1 (fun xe => [.int .u8 xe]) ys ∧ ∀ y ∈ ys, (fun xe => (Lit.int .u8 xe).wf = true) y)) y) ∧ (x.2.2.2.2.1.2.1 ≤ x.2.2.2.2.1.2.2 ∧ x.2.2.2.2.1.2.2 ≤ maxLen ∧ ∃ ys : List ((Option Addr × Nat × Nat)), Go.Px.SlIn (Go.Px.imW W) x.2.2.2.2.1.1 x.2.2.2.2.1.2.1 1 (fun xe => [.slice xe.1 xe.2.1 xe.2.2]) ys ∧ ∀ y ∈ ys, (fun xe => (xe.2.1 ≤ xe.2.2 ∧ xe.2.2 ≤ maxLen ∧ ∃ ys : List (Int), Go.Px.SlIn (Go.Px.imW W) xe.1 xe.2.1 1 (fun xe => [.int .u8 xe]) ys ∧ ∀ y ∈ ys, (fun xe => (Lit.int .u8 xe).wf = true) y)) y) ∧ (x.2.2.2.2.2.2.1 ≤ x.2.2.2.2.2.2.2 ∧ x.2.2.2.2.2.2.2 ≤ maxLen ∧ ∃ ys : List ((Option Addr × Nat × Nat)), Go.Px.SlIn (Go.Px.imW W) x.2.2.2.2.2.1 x.2.2.2.2.2.2.1 1 (fun xe => [.slice xe.1 xe.2.1 xe.2.2]) ys ∧ ∀ y ∈ ys, (fun xe => (xe.2.1 ≤ xe.2.2 ∧ xe.2.2 ≤ maxLen ∧ ∃ ys : List (Int), Go.Px.SlIn (Go.Px.imW W) xe.1 xe.2.1 1 (fun xe => [.int .u8 xe]) ys ∧ ∀ y ∈ ys, (fun xe => (Lit.int .u8 xe).wf = true) y)) y)) y := by
    obtain ⟨m, g⟩ := h0
    have key : ∀ (n : Nat) (cs : List Value) (x : DataW H × List MemPlace), DataW.trod enc Tryz.prog W 0 (fun _ => true) true n 25 cs = some x → cs.length = Tryz.prog.cellsOf 25 → ∃ y : Bool × (Option Addr × Nat × Nat) × (Option Addr × Nat × Nat) × (Option Addr × Nat × Nat) × (Option Addr × Nat × Nat) × (Option Addr × Nat × Nat), cs = (fun x => [.bool x.1, .slice x.2.1.1 x.2.1.2.1 x.2.1.2.2, .slice x.2.2.1.1 x.2.2.1.2.1 x.2.2.1.2.2, .slice x.2.2.2.1.1 x.2.2.2.1.2.1 x.2.2.2.1.2.2, .slice x.2.2.2.2.1.1 x.2.2.2.2.1.2.1 x.2.2.2.2.1.2.2, .slice x.2.2.2.2.2.1 x.2.2.2.2.2.2.1 x.2.2.2.2.2.2.2]) y ∧ (fun x => True ∧ (x.2.1.2.1 ≤ x.2.1.2.2 ∧ x.2.1.2.2 ≤ maxLen ∧ ∃ ys : List (Int), Go.Px.SlIn (Go.Px.imW W) x.2.1.1 x.2.1.2.1 1 (fun xe => [.int .u8 xe]) ys ∧ ∀ y ∈ ys, (fun xe => (Lit.int .u8 xe).wf = true) y) ∧ (x.2.2.1.2.1 ≤ x.2.2.1.2.2 ∧ x.2.2.1.2.2 ≤ maxLen ∧ ∃ ys : List (Int), Go.Px.SlIn (Go.Px.imW W) x.2.2.1.1 x.2.2.1.2.1 1 (fun xe => [.int .u8 xe]) ys ∧ ∀ y ∈ ys, (fun xe => (Lit.int .u8 xe).wf = true) y) ∧ (x.2.2.2.1.2.1 ≤ x.2.2.2.1.2.2 ∧ x.2.2.2.1.2.2 ≤ maxLen ∧ ∃ ys : List ((Option Addr × Nat × Nat)), Go.Px.SlIn (Go.Px.imW W) x.2.2.2.1.1 x.2.2.2.1.2.1 1 (fun xe => [.slice xe.1 xe.2.1 xe.2.2]) ys ∧ ∀ y ∈ ys, (fun xe => (xe.2.1 ≤ xe.2.2 ∧ xe.2.2 ≤ maxLen ∧ ∃ ys : List (Int), Go.Px.SlIn (Go.Px.imW W) xe.1 xe.2.1 1 (fun xe => [.int .u8 xe]) ys ∧ ∀ y ∈ ys, (fun xe => (Lit.int .u8 xe).wf = true) y)) y) ∧ (x.2.2.2.2.1.2.1 ≤ x.2.2.2.2.1.2.2 ∧ x.2.2.2.2.1.2.2 ≤ maxLen ∧ ∃ ys : List ((Option Addr × Nat × Nat)), Go.Px.SlIn (Go.Px.imW W) x.2.2.2.2.1.1 x.2.2.2.2.1.2.1 1 (fun xe => [.slice xe.1 xe.2.1 xe.2.2]) ys ∧ ∀ y ∈ ys, (fun xe => (xe.2.1 ≤ xe.2.2 ∧ xe.2.2 ≤ maxLen ∧ ∃ ys : List (Int), Go.Px.SlIn (Go.Px.imW W) xe.1 xe.2.1 1 (fun xe => [.int .u8 xe]) ys ∧ ∀ y ∈ ys, (fun xe => (Lit.int .u8 xe).wf = true) y)) y) ∧ (x.2.2.2.2.2.2.1 ≤ x.2.2.2.2.2.2.2 ∧ x.2.2.2.2.2.2.2 ≤ maxLen ∧ ∃ ys : List ((Option Addr × Nat × Nat)), Go.Px.SlIn (Go.Px.imW W) x.2.2.2.2.2.1 x.2.2.2.2.2.2.1 1 (fun xe => [.slice xe.1 xe.2.1 xe.2.2]) ys ∧ ∀ y ∈ ys, (fun xe => (xe.2.1 ≤ xe.2.2 ∧ xe.2.2 ≤ maxLen ∧ ∃ ys : List (Int), Go.Px.SlIn (Go.Px.imW W) xe.1 xe.2.1 1 (fun xe => [.int .u8 xe]) ys ∧ ∀ y ∈ ys, (fun xe => (Lit.int .u8 xe).wf = true) y)) y)) y := by
      intro n cs x h hl
      have hl' : cs.length = 6 := hl.trans (by kernel_rfl)
      obtain ⟨c0, c1, c2, c3, c4, c5, rfl⟩ : ∃ c0 c1 c2 c3 c4 c5, cs = [c0, c1, c2, c3, c4, c5] := by
        match cs, hl' with
        | [c0, c1, c2, c3, c4, c5], _ => exact ⟨c0, c1, c2, c3, c4, c5, rfl⟩
      obtain ⟨n0, y0, g0⟩ := Go.Px.trod_field Tryz.underlying25 h 0 _ rfl
      replace g0 : DataW.trod enc Tryz.prog W 0 (fun _ => true) true n0 4 (List.take (Tryz.prog.cellsOf 4) (List.drop 0 [c0, c1, c2, c3, c4, c5])) = some y0 := g0
      rw [show Tryz.prog.cellsOf 4 = 1 by kernel_rfl] at g0
      replace g0 : DataW.trod enc Tryz.prog W 0 (fun _ => true) true n0 4 [c0] = some y0 := g0
      obtain ⟨n1, y1, g1⟩ := Go.Px.trod_field Tryz.underlying25 h 1 _ rfl
      replace g1 : DataW.trod enc Tryz.prog W 0 (fun _ => true) true n1 22 (List.take (Tryz.prog.cellsOf 22) (List.drop 1 [c0, c1, c2, c3, c4, c5])) = some y1 := g1
      rw [show Tryz.prog.cellsOf 22 = 1 by kernel_rfl] at g1
      replace g1 : DataW.trod enc Tryz.prog W 0 (fun _ => true) true n1 22 [c1] = some y1 := g1
      obtain ⟨n2, y2, g2⟩ := Go.Px.trod_field Tryz.underlying25 h 2 _ rfl
      replace g2 : DataW.trod enc Tryz.prog W 0 (fun _ => true) true n2 22 (List.take (Tryz.prog.cellsOf 22) (List.drop 2 [c0, c1, c2, c3, c4, c5])) = some y2 := g2
      rw [show Tryz.prog.cellsOf 22 = 1 by kernel_rfl] at g2
      replace g2 : DataW.trod enc Tryz.prog W 0 (fun _ => true) true n2 22 [c2] = some y2 := g2
      obtain ⟨n3, y3, g3⟩ := Go.Px.trod_field Tryz.underlying25 h 3 _ rfl
      replace g3 : DataW.trod enc Tryz.prog W 0 (fun _ => true) true n3 23 (List.take (Tryz.prog.cellsOf 23) (List.drop 3 [c0, c1, c2, c3, c4, c5])) = some y3 := g3
      rw [show Tryz.prog.cellsOf 23 = 1 by kernel_rfl] at g3
      replace g3 : DataW.trod enc Tryz.prog W 0 (fun _ => true) true n3 23 [c3] = some y3 := g3
      obtain ⟨n4, y4, g4⟩ := Go.Px.trod_field Tryz.underlying25 h 4 _ rfl
      replace g4 : DataW.trod enc Tryz.prog W 0 (fun _ => true) true n4 23 (List.take (Tryz.prog.cellsOf 23) (List.drop 4 [c0, c1, c2, c3, c4, c5])) = some y4 := g4
      rw [show Tryz.prog.cellsOf 23 = 1 by kernel_rfl] at g4
      replace g4 : DataW.trod enc Tryz.prog W 0 (fun _ => true) true n4 23 [c4] = some y4 := g4
      obtain ⟨n5, y5, g5⟩ := Go.Px.trod_field Tryz.underlying25 h 5 _ rfl
      replace g5 : DataW.trod enc Tryz.prog W 0 (fun _ => true) true n5 23 (List.take (Tryz.prog.cellsOf 23) (List.drop 5 [c0, c1, c2, c3, c4, c5])) = some y5 := g5
      rw [show Tryz.prog.cellsOf 23 = 1 by kernel_rfl] at g5
      replace g5 : DataW.trod enc Tryz.prog W 0 (fun _ => true) true n5 23 [c5] = some y5 := g5
      obtain ⟨v0, rfl⟩ := Go.Px.trod_bool Tryz.underlying4 g0
      obtain ⟨va1, vl1, vc1, rfl, hT1⟩ := Go.Px.trod_sl Tryz.underlying22 g1
      have u1 := Go.Px.rowOf_trod (α := Int) (fun xe => [.int .u8 xe]) (fun xe => (Lit.int .u8 xe).wf = true) Tryz.underlying22 (by
        intro n cs x h hl
        obtain ⟨c, rfl⟩ := Go.Px.trod_len Tryz.underlying5 rfl h
        obtain ⟨m, rfl, w⟩ := Go.Px.trod_int Tryz.underlying5 h
        exact ⟨m, rfl, w⟩
        ) hT1
      rw [show Tryz.prog.cellsOf 5 = 1 by kernel_rfl] at u1
      obtain ⟨va2, vl2, vc2, rfl, hT2⟩ := Go.Px.trod_sl Tryz.underlying22 g2
      have u2 := Go.Px.rowOf_trod (α := Int) (fun xe => [.int .u8 xe]) (fun xe => (Lit.int .u8 xe).wf = true) Tryz.underlying22 (by
        intro n cs x h hl
        obtain ⟨c, rfl⟩ := Go.Px.trod_len Tryz.underlying5 rfl h
        obtain ⟨m, rfl, w⟩ := Go.Px.trod_int Tryz.underlying5 h
        exact ⟨m, rfl, w⟩
        ) hT2
      rw [show Tryz.prog.cellsOf 5 = 1 by kernel_rfl] at u2
      obtain ⟨va3, vl3, vc3, rfl, hT3⟩ := Go.Px.trod_sl Tryz.underlying23 g3
      have u3 := Go.Px.rowOf_trod (α := (Option Addr × Nat × Nat)) (fun xe => [.slice xe.1 xe.2.1 xe.2.2]) (fun xe => (xe.2.1 ≤ xe.2.2 ∧ xe.2.2 ≤ maxLen ∧ ∃ ys : List (Int), Go.Px.SlIn (Go.Px.imW W) xe.1 xe.2.1 1 (fun xe => [.int .u8 xe]) ys ∧ ∀ y ∈ ys, (fun xe => (Lit.int .u8 xe).wf = true) y)) Tryz.underlying23 (by
        intro n cs x h hl
        obtain ⟨c, rfl⟩ := Go.Px.trod_len Tryz.underlying22 rfl h
        obtain ⟨va, vl, vc, rfl, hT⟩ := Go.Px.trod_sl Tryz.underlying22 h
        have u := Go.Px.rowOf_trod (α := Int) (fun xe => [.int .u8 xe]) (fun xe => (Lit.int .u8 xe).wf = true) Tryz.underlying22 (by
          intro n cs x h hl
          obtain ⟨c, rfl⟩ := Go.Px.trod_len Tryz.underlying5 rfl h
          obtain ⟨m, rfl, w⟩ := Go.Px.trod_int Tryz.underlying5 h
          exact ⟨m, rfl, w⟩
          ) hT
        rw [show Tryz.prog.cellsOf 5 = 1 by kernel_rfl] at u
        exact ⟨⟨va, vl, vc⟩, rfl, u⟩
        ) hT3
      rw [show Tryz.prog.cellsOf 22 = 1 by kernel_rfl] at u3
      obtain ⟨va4, vl4, vc4, rfl, hT4⟩ := Go.Px.trod_sl Tryz.underlying23 g4
      have u4 := Go.Px.rowOf_trod (α := (Option Addr × Nat × Nat)) (fun xe => [.slice xe.1 xe.2.1 xe.2.2]) (fun xe => (xe.2.1 ≤ xe.2.2 ∧ xe.2.2 ≤ maxLen ∧ ∃ ys : List (Int), Go.Px.SlIn (Go.Px.imW W) xe.1 xe.2.1 1 (fun xe => [.int .u8 xe]) ys ∧ ∀ y ∈ ys, (fun xe => (Lit.int .u8 xe).wf = true) y)) Tryz.underlying23 (by
        intro n cs x h hl
        obtain ⟨c, rfl⟩ := Go.Px.trod_len Tryz.underlying22 rfl h
        obtain ⟨va, vl, vc, rfl, hT⟩ := Go.Px.trod_sl Tryz.underlying22 h
        have u := Go.Px.rowOf_trod (α := Int) (fun xe => [.int .u8 xe]) (fun xe => (Lit.int .u8 xe).wf = true) Tryz.underlying22 (by
          intro n cs x h hl
          obtain ⟨c, rfl⟩ := Go.Px.trod_len Tryz.underlying5 rfl h
          obtain ⟨m, rfl, w⟩ := Go.Px.trod_int Tryz.underlying5 h
          exact ⟨m, rfl, w⟩
          ) hT
        rw [show Tryz.prog.cellsOf 5 = 1 by kernel_rfl] at u
        exact ⟨⟨va, vl, vc⟩, rfl, u⟩
        ) hT4
      rw [show Tryz.prog.cellsOf 22 = 1 by kernel_rfl] at u4
      obtain ⟨va5, vl5, vc5, rfl, hT5⟩ := Go.Px.trod_sl Tryz.underlying23 g5
      have u5 := Go.Px.rowOf_trod (α := (Option Addr × Nat × Nat)) (fun xe => [.slice xe.1 xe.2.1 xe.2.2]) (fun xe => (xe.2.1 ≤ xe.2.2 ∧ xe.2.2 ≤ maxLen ∧ ∃ ys : List (Int), Go.Px.SlIn (Go.Px.imW W) xe.1 xe.2.1 1 (fun xe => [.int .u8 xe]) ys ∧ ∀ y ∈ ys, (fun xe => (Lit.int .u8 xe).wf = true) y)) Tryz.underlying23 (by
        intro n cs x h hl
        obtain ⟨c, rfl⟩ := Go.Px.trod_len Tryz.underlying22 rfl h
        obtain ⟨va, vl, vc, rfl, hT⟩ := Go.Px.trod_sl Tryz.underlying22 h
        have u := Go.Px.rowOf_trod (α := Int) (fun xe => [.int .u8 xe]) (fun xe => (Lit.int .u8 xe).wf = true) Tryz.underlying22 (by
          intro n cs x h hl
          obtain ⟨c, rfl⟩ := Go.Px.trod_len Tryz.underlying5 rfl h
          obtain ⟨m, rfl, w⟩ := Go.Px.trod_int Tryz.underlying5 h
          exact ⟨m, rfl, w⟩
          ) hT
        rw [show Tryz.prog.cellsOf 5 = 1 by kernel_rfl] at u
        exact ⟨⟨va, vl, vc⟩, rfl, u⟩
        ) hT5
      rw [show Tryz.prog.cellsOf 22 = 1 by kernel_rfl] at u5
      exact ⟨⟨v0, ⟨va1, vl1, vc1⟩, ⟨va2, vl2, vc2⟩, ⟨va3, vl3, vc3⟩, ⟨va4, vl4, vc4⟩, ⟨va5, vl5, vc5⟩⟩, rfl, trivial, u1, u2, u3, u4, u5⟩
    obtain ⟨y, h1, h2⟩ := key m cs0.toList _ g (by rw [Array.length_toList]; exact hs0)
    exact ⟨y, by rw [← h1], h2⟩
  subst hy0
  obtain ⟨cs1, rfl, hs1⟩ := okWide_struct Tryz.underlying27 (hval 1 27 v1 rfl rfl)
  have k1 := h1
  have lt1 : ∀ x ∈ p1, x.block < W.heap.size := by obtain ⟨m, hm⟩ := k1; exact DataW.trod_lt m _ _ _ hm
  obtain ⟨y1, hy1, w1⟩ : ∃ y : Int × (Option Addr × Nat × Nat) × Bool × Int × Int, cs1 = ((fun x => [.int .u8 x.1, .slice x.2.1.1 x.2.1.2.1 x.2.1.2.2, .bool x.2.2.1, .int .u8 x.2.2.2.1, .int .u8 x.2.2.2.2]) y).toArray ∧ (fun x => (Lit.int .u8 x.1).wf = true ∧ (x.2.1.2.1 ≤ x.2.1.2.2 ∧ x.2.1.2.2 ≤ maxLen ∧ ∃ ys : List (Int), Go.Px.SlIn (Go.Px.imW W) x.2.1.1 x.2.1.2.1 1 (fun xe => [.int .u8 xe]) ys ∧ ∀ y ∈ ys, (fun xe => (Lit.int .u8 xe).wf = true) y) ∧ True ∧ (Lit.int .u8 x.2.2.2.1).wf = true ∧ (Lit.int .u8 x.2.2.2.2).wf = true) y := by
    obtain ⟨m, g⟩ := h1
    have key : ∀ (n : Nat) (cs : List Value) (x : DataW H × List MemPlace), DataW.trod enc Tryz.prog W 0 (fun _ => true) true n 27 cs = some x → cs.length = Tryz.prog.cellsOf 27 → ∃ y : Int × (Option Addr × Nat × Nat) × Bool × Int × Int, cs = (fun x => [.int .u8 x.1, .slice x.2.1.1 x.2.1.2.1 x.2.1.2.2, .bool x.2.2.1, .int .u8 x.2.2.2.1, .int .u8 x.2.2.2.2]) y ∧ (fun x => (Lit.int .u8 x.1).wf = true ∧ (x.2.1.2.1 ≤ x.2.1.2.2 ∧ x.2.1.2.2 ≤ maxLen ∧ ∃ ys : List (Int), Go.Px.SlIn (Go.Px.imW W) x.2.1.1 x.2.1.2.1 1 (fun xe => [.int .u8 xe]) ys ∧ ∀ y ∈ ys, (fun xe => (Lit.int .u8 xe).wf = true) y) ∧ True ∧ (Lit.int .u8 x.2.2.2.1).wf = true ∧ (Lit.int .u8 x.2.2.2.2).wf = true) y := by
      intro n cs x h hl
      have hl' : cs.length = 5 := hl.trans (by kernel_rfl)
      obtain ⟨c0, c1, c2, c3, c4, rfl⟩ : ∃ c0 c1 c2 c3 c4, cs = [c0, c1, c2, c3, c4] := by
        match cs, hl' with
        | [c0, c1, c2, c3, c4], _ => exact ⟨c0, c1, c2, c3, c4, rfl⟩
      obtain ⟨n0, y0, g0⟩ := Go.Px.trod_field Tryz.underlying27 h 0 _ rfl
      replace g0 : DataW.trod enc Tryz.prog W 0 (fun _ => true) true n0 5 (List.take (Tryz.prog.cellsOf 5) (List.drop 0 [c0, c1, c2, c3, c4])) = some y0 := g0
      rw [show Tryz.prog.cellsOf 5 = 1 by kernel_rfl] at g0
      replace g0 : DataW.trod enc Tryz.prog W 0 (fun _ => true) true n0 5 [c0] = some y0 := g0
      obtain ⟨n1, y1, g1⟩ := Go.Px.trod_field Tryz.underlying27 h 1 _ rfl
      replace g1 : DataW.trod enc Tryz.prog W 0 (fun _ => true) true n1 22 (List.take (Tryz.prog.cellsOf 22) (List.drop 1 [c0, c1, c2, c3, c4])) = some y1 := g1
      rw [show Tryz.prog.cellsOf 22 = 1 by kernel_rfl] at g1
      replace g1 : DataW.trod enc Tryz.prog W 0 (fun _ => true) true n1 22 [c1] = some y1 := g1
      obtain ⟨n2, y2, g2⟩ := Go.Px.trod_field Tryz.underlying27 h 2 _ rfl
      replace g2 : DataW.trod enc Tryz.prog W 0 (fun _ => true) true n2 4 (List.take (Tryz.prog.cellsOf 4) (List.drop 2 [c0, c1, c2, c3, c4])) = some y2 := g2
      rw [show Tryz.prog.cellsOf 4 = 1 by kernel_rfl] at g2
      replace g2 : DataW.trod enc Tryz.prog W 0 (fun _ => true) true n2 4 [c2] = some y2 := g2
      obtain ⟨n3, y3, g3⟩ := Go.Px.trod_field Tryz.underlying27 h 3 _ rfl
      replace g3 : DataW.trod enc Tryz.prog W 0 (fun _ => true) true n3 5 (List.take (Tryz.prog.cellsOf 5) (List.drop 3 [c0, c1, c2, c3, c4])) = some y3 := g3
      rw [show Tryz.prog.cellsOf 5 = 1 by kernel_rfl] at g3
      replace g3 : DataW.trod enc Tryz.prog W 0 (fun _ => true) true n3 5 [c3] = some y3 := g3
      obtain ⟨n4, y4, g4⟩ := Go.Px.trod_field Tryz.underlying27 h 4 _ rfl
      replace g4 : DataW.trod enc Tryz.prog W 0 (fun _ => true) true n4 5 (List.take (Tryz.prog.cellsOf 5) (List.drop 4 [c0, c1, c2, c3, c4])) = some y4 := g4
      rw [show Tryz.prog.cellsOf 5 = 1 by kernel_rfl] at g4
      replace g4 : DataW.trod enc Tryz.prog W 0 (fun _ => true) true n4 5 [c4] = some y4 := g4
      obtain ⟨v0, rfl, u0⟩ := Go.Px.trod_int Tryz.underlying5 g0
      obtain ⟨va1, vl1, vc1, rfl, hT1⟩ := Go.Px.trod_sl Tryz.underlying22 g1
      have u1 := Go.Px.rowOf_trod (α := Int) (fun xe => [.int .u8 xe]) (fun xe => (Lit.int .u8 xe).wf = true) Tryz.underlying22 (by
        intro n cs x h hl
        obtain ⟨c, rfl⟩ := Go.Px.trod_len Tryz.underlying5 rfl h
        obtain ⟨m, rfl, w⟩ := Go.Px.trod_int Tryz.underlying5 h
        exact ⟨m, rfl, w⟩
        ) hT1
      rw [show Tryz.prog.cellsOf 5 = 1 by kernel_rfl] at u1
      obtain ⟨v2, rfl⟩ := Go.Px.trod_bool Tryz.underlying4 g2
      obtain ⟨v3, rfl, u3⟩ := Go.Px.trod_int Tryz.underlying5 g3
      obtain ⟨v4, rfl, u4⟩ := Go.Px.trod_int Tryz.underlying5 g4
      exact ⟨⟨v0, ⟨va1, vl1, vc1⟩, v2, v3, v4⟩, rfl, u0, u1, trivial, u3, u4⟩
    obtain ⟨y, h1, h2⟩ := key m cs1.toList _ g (by rw [Array.length_toList]; exact hs1)
    exact ⟨y, by rw [← h1], h2⟩
  subst hy1
  obtain ⟨cs2, rfl, hs2⟩ := okWide_struct Tryz.underlying33 (hval 2 33 v2 rfl rfl)
  have k2 := h2
  have lt2 : ∀ x ∈ p2, x.block < W.heap.size := by obtain ⟨m, hm⟩ := k2; exact DataW.trod_lt m _ _ _ hm
  obtain ⟨y2, hy2, w2⟩ : ∃ y : Int × ByteArray × (ByteArray × Int), cs2 = ((fun x => [.int .i64 x.1, .string x.2.1, .string x.2.2.1, .int .i64 x.2.2.2]) y).toArray ∧ (fun x => (Lit.int .i64 x.1).wf = true ∧ x.2.1.size ≤ maxLen ∧ (x.2.2.1.size ≤ maxLen ∧ (Lit.int .i64 x.2.2.2).wf = true)) y := by
    obtain ⟨m, g⟩ := h2
    have key : ∀ (n : Nat) (cs : List Value) (x : DataW H × List MemPlace), DataW.trod enc Tryz.prog W 0 (fun _ => true) true n 33 cs = some x → cs.length = Tryz.prog.cellsOf 33 → ∃ y : Int × ByteArray × (ByteArray × Int), cs = (fun x => [.int .i64 x.1, .string x.2.1, .string x.2.2.1, .int .i64 x.2.2.2]) y ∧ (fun x => (Lit.int .i64 x.1).wf = true ∧ x.2.1.size ≤ maxLen ∧ (x.2.2.1.size ≤ maxLen ∧ (Lit.int .i64 x.2.2.2).wf = true)) y := by
      intro n cs x h hl
      have hl' : cs.length = 4 := hl.trans (by kernel_rfl)
      obtain ⟨c0, c1, c2, c3, rfl⟩ : ∃ c0 c1 c2 c3, cs = [c0, c1, c2, c3] := by
        match cs, hl' with
        | [c0, c1, c2, c3], _ => exact ⟨c0, c1, c2, c3, rfl⟩
      obtain ⟨n0, y0, g0⟩ := Go.Px.trod_field Tryz.underlying33 h 0 _ rfl
      replace g0 : DataW.trod enc Tryz.prog W 0 (fun _ => true) true n0 28 (List.take (Tryz.prog.cellsOf 28) (List.drop 0 [c0, c1, c2, c3])) = some y0 := g0
      rw [show Tryz.prog.cellsOf 28 = 1 by kernel_rfl] at g0
      replace g0 : DataW.trod enc Tryz.prog W 0 (fun _ => true) true n0 28 [c0] = some y0 := g0
      obtain ⟨n1, y1, g1⟩ := Go.Px.trod_field Tryz.underlying33 h 1 _ rfl
      replace g1 : DataW.trod enc Tryz.prog W 0 (fun _ => true) true n1 29 (List.take (Tryz.prog.cellsOf 29) (List.drop 1 [c0, c1, c2, c3])) = some y1 := g1
      rw [show Tryz.prog.cellsOf 29 = 1 by kernel_rfl] at g1
      replace g1 : DataW.trod enc Tryz.prog W 0 (fun _ => true) true n1 29 [c1] = some y1 := g1
      obtain ⟨n2, y2, g2⟩ := Go.Px.trod_field Tryz.underlying33 h 2 _ rfl
      replace g2 : DataW.trod enc Tryz.prog W 0 (fun _ => true) true n2 31 (List.take (Tryz.prog.cellsOf 31) (List.drop 2 [c0, c1, c2, c3])) = some y2 := g2
      rw [show Tryz.prog.cellsOf 31 = 2 by kernel_rfl] at g2
      replace g2 : DataW.trod enc Tryz.prog W 0 (fun _ => true) true n2 31 [c2, c3] = some y2 := g2
      obtain ⟨v0, rfl, u0⟩ := Go.Px.trod_int Tryz.underlying28 g0
      obtain ⟨v1, rfl, u1⟩ := Go.Px.trod_str Tryz.underlying29 g1
      obtain ⟨v2, e2, u2⟩ : ∃ y : ByteArray × Int, [c2, c3] = (fun x => [.string x.1, .int .i64 x.2]) y ∧ (fun x => x.1.size ≤ maxLen ∧ (Lit.int .i64 x.2).wf = true) y := by
        have key2 : ∀ (n : Nat) (cs : List Value) (x : DataW H × List MemPlace), DataW.trod enc Tryz.prog W 0 (fun _ => true) true n 31 cs = some x → cs.length = Tryz.prog.cellsOf 31 → ∃ y : ByteArray × Int, cs = (fun x => [.string x.1, .int .i64 x.2]) y ∧ (fun x => x.1.size ≤ maxLen ∧ (Lit.int .i64 x.2).wf = true) y := by
          intro n cs x h hl
          have hl' : cs.length = 2 := hl.trans (by kernel_rfl)
          obtain ⟨c0, c1, rfl⟩ : ∃ c0 c1, cs = [c0, c1] := by
            match cs, hl' with
            | [c0, c1], _ => exact ⟨c0, c1, rfl⟩
          obtain ⟨n0, y0, g0⟩ := Go.Px.trod_field Tryz.underlying31 h 0 _ rfl
          replace g0 : DataW.trod enc Tryz.prog W 0 (fun _ => true) true n0 9 (List.take (Tryz.prog.cellsOf 9) (List.drop 0 [c0, c1])) = some y0 := g0
          rw [show Tryz.prog.cellsOf 9 = 1 by kernel_rfl] at g0
          replace g0 : DataW.trod enc Tryz.prog W 0 (fun _ => true) true n0 9 [c0] = some y0 := g0
          obtain ⟨n1, y1, g1⟩ := Go.Px.trod_field Tryz.underlying31 h 1 _ rfl
          replace g1 : DataW.trod enc Tryz.prog W 0 (fun _ => true) true n1 3 (List.take (Tryz.prog.cellsOf 3) (List.drop 1 [c0, c1])) = some y1 := g1
          rw [show Tryz.prog.cellsOf 3 = 1 by kernel_rfl] at g1
          replace g1 : DataW.trod enc Tryz.prog W 0 (fun _ => true) true n1 3 [c1] = some y1 := g1
          obtain ⟨v0, rfl, u0⟩ := Go.Px.trod_str Tryz.underlying9 g0
          obtain ⟨v1, rfl, u1⟩ := Go.Px.trod_int Tryz.underlying3 g1
          exact ⟨⟨v0, v1⟩, rfl, u0, u1⟩
        exact key2 _ _ _ g2 (by kernel_rfl)
      simp only [List.cons.injEq, and_true] at e2
      obtain ⟨rfl, rfl⟩ := e2
      exact ⟨⟨v0, v1, v2⟩, rfl, u0, u1, u2⟩
    obtain ⟨y, h1, h2⟩ := key m cs2.toList _ g (by rw [Array.length_toList]; exact hs2)
    exact ⟨y, by rw [← h1], h2⟩
  subst hy2
  obtain ⟨cs3, rfl, hs3⟩ := okWide_struct Tryz.underlying37 (hval 3 37 v3 rfl rfl)
  have k3 := h3
  have lt3 : ∀ x ∈ p3, x.block < W.heap.size := by obtain ⟨m, hm⟩ := k3; exact DataW.trod_lt m _ _ _ hm
  obtain ⟨y3, hy3, w3⟩ : ∃ y : ByteArray × ByteArray × (Option Addr × Nat × Nat) × (Option Addr × Nat × Nat) × (Option Addr × Nat × Nat), cs3 = ((fun x => [.string x.1, .string x.2.1, .slice x.2.2.1.1 x.2.2.1.2.1 x.2.2.1.2.2, .slice x.2.2.2.1.1 x.2.2.2.1.2.1 x.2.2.2.1.2.2, .slice x.2.2.2.2.1 x.2.2.2.2.2.1 x.2.2.2.2.2.2]) y).toArray ∧ (fun x => x.1.size ≤ maxLen ∧ x.2.1.size ≤ maxLen ∧ (x.2.2.1.2.1 ≤ x.2.2.1.2.2 ∧ x.2.2.1.2.2 ≤ maxLen ∧ ∃ ys : List (ByteArray), Go.Px.SlIn (Go.Px.imW W) x.2.2.1.1 x.2.2.1.2.1 1 (fun xe => [.string xe]) ys ∧ ∀ y ∈ ys, (fun xe => xe.size ≤ maxLen) y) ∧ (x.2.2.2.1.2.1 ≤ x.2.2.2.1.2.2 ∧ x.2.2.2.1.2.2 ≤ maxLen ∧ ∃ ys : List (ByteArray), Go.Px.SlIn (Go.Px.imW W) x.2.2.2.1.1 x.2.2.2.1.2.1 1 (fun xe => [.string xe]) ys ∧ ∀ y ∈ ys, (fun xe => xe.size ≤ maxLen) y) ∧ (x.2.2.2.2.2.1 ≤ x.2.2.2.2.2.2 ∧ x.2.2.2.2.2.2 ≤ maxLen ∧ ∃ ys : List (ByteArray), Go.Px.SlIn (Go.Px.imW W) x.2.2.2.2.1 x.2.2.2.2.2.1 1 (fun xe => [.string xe]) ys ∧ ∀ y ∈ ys, (fun xe => xe.size ≤ maxLen) y)) y := by
    obtain ⟨m, g⟩ := h3
    have key : ∀ (n : Nat) (cs : List Value) (x : DataW H × List MemPlace), DataW.trod enc Tryz.prog W 0 (fun _ => true) true n 37 cs = some x → cs.length = Tryz.prog.cellsOf 37 → ∃ y : ByteArray × ByteArray × (Option Addr × Nat × Nat) × (Option Addr × Nat × Nat) × (Option Addr × Nat × Nat), cs = (fun x => [.string x.1, .string x.2.1, .slice x.2.2.1.1 x.2.2.1.2.1 x.2.2.1.2.2, .slice x.2.2.2.1.1 x.2.2.2.1.2.1 x.2.2.2.1.2.2, .slice x.2.2.2.2.1 x.2.2.2.2.2.1 x.2.2.2.2.2.2]) y ∧ (fun x => x.1.size ≤ maxLen ∧ x.2.1.size ≤ maxLen ∧ (x.2.2.1.2.1 ≤ x.2.2.1.2.2 ∧ x.2.2.1.2.2 ≤ maxLen ∧ ∃ ys : List (ByteArray), Go.Px.SlIn (Go.Px.imW W) x.2.2.1.1 x.2.2.1.2.1 1 (fun xe => [.string xe]) ys ∧ ∀ y ∈ ys, (fun xe => xe.size ≤ maxLen) y) ∧ (x.2.2.2.1.2.1 ≤ x.2.2.2.1.2.2 ∧ x.2.2.2.1.2.2 ≤ maxLen ∧ ∃ ys : List (ByteArray), Go.Px.SlIn (Go.Px.imW W) x.2.2.2.1.1 x.2.2.2.1.2.1 1 (fun xe => [.string xe]) ys ∧ ∀ y ∈ ys, (fun xe => xe.size ≤ maxLen) y) ∧ (x.2.2.2.2.2.1 ≤ x.2.2.2.2.2.2 ∧ x.2.2.2.2.2.2 ≤ maxLen ∧ ∃ ys : List (ByteArray), Go.Px.SlIn (Go.Px.imW W) x.2.2.2.2.1 x.2.2.2.2.2.1 1 (fun xe => [.string xe]) ys ∧ ∀ y ∈ ys, (fun xe => xe.size ≤ maxLen) y)) y := by
      intro n cs x h hl
      have hl' : cs.length = 5 := hl.trans (by kernel_rfl)
      obtain ⟨c0, c1, c2, c3, c4, rfl⟩ : ∃ c0 c1 c2 c3 c4, cs = [c0, c1, c2, c3, c4] := by
        match cs, hl' with
        | [c0, c1, c2, c3, c4], _ => exact ⟨c0, c1, c2, c3, c4, rfl⟩
      obtain ⟨n0, y0, g0⟩ := Go.Px.trod_field Tryz.underlying37 h 0 _ rfl
      replace g0 : DataW.trod enc Tryz.prog W 0 (fun _ => true) true n0 9 (List.take (Tryz.prog.cellsOf 9) (List.drop 0 [c0, c1, c2, c3, c4])) = some y0 := g0
      rw [show Tryz.prog.cellsOf 9 = 1 by kernel_rfl] at g0
      replace g0 : DataW.trod enc Tryz.prog W 0 (fun _ => true) true n0 9 [c0] = some y0 := g0
      obtain ⟨n1, y1, g1⟩ := Go.Px.trod_field Tryz.underlying37 h 1 _ rfl
      replace g1 : DataW.trod enc Tryz.prog W 0 (fun _ => true) true n1 29 (List.take (Tryz.prog.cellsOf 29) (List.drop 1 [c0, c1, c2, c3, c4])) = some y1 := g1
      rw [show Tryz.prog.cellsOf 29 = 1 by kernel_rfl] at g1
      replace g1 : DataW.trod enc Tryz.prog W 0 (fun _ => true) true n1 29 [c1] = some y1 := g1
      obtain ⟨n2, y2, g2⟩ := Go.Px.trod_field Tryz.underlying37 h 2 _ rfl
      replace g2 : DataW.trod enc Tryz.prog W 0 (fun _ => true) true n2 34 (List.take (Tryz.prog.cellsOf 34) (List.drop 2 [c0, c1, c2, c3, c4])) = some y2 := g2
      rw [show Tryz.prog.cellsOf 34 = 1 by kernel_rfl] at g2
      replace g2 : DataW.trod enc Tryz.prog W 0 (fun _ => true) true n2 34 [c2] = some y2 := g2
      obtain ⟨n3, y3, g3⟩ := Go.Px.trod_field Tryz.underlying37 h 3 _ rfl
      replace g3 : DataW.trod enc Tryz.prog W 0 (fun _ => true) true n3 35 (List.take (Tryz.prog.cellsOf 35) (List.drop 3 [c0, c1, c2, c3, c4])) = some y3 := g3
      rw [show Tryz.prog.cellsOf 35 = 1 by kernel_rfl] at g3
      replace g3 : DataW.trod enc Tryz.prog W 0 (fun _ => true) true n3 35 [c3] = some y3 := g3
      obtain ⟨n4, y4, g4⟩ := Go.Px.trod_field Tryz.underlying37 h 4 _ rfl
      replace g4 : DataW.trod enc Tryz.prog W 0 (fun _ => true) true n4 34 (List.take (Tryz.prog.cellsOf 34) (List.drop 4 [c0, c1, c2, c3, c4])) = some y4 := g4
      rw [show Tryz.prog.cellsOf 34 = 1 by kernel_rfl] at g4
      replace g4 : DataW.trod enc Tryz.prog W 0 (fun _ => true) true n4 34 [c4] = some y4 := g4
      obtain ⟨v0, rfl, u0⟩ := Go.Px.trod_str Tryz.underlying9 g0
      obtain ⟨v1, rfl, u1⟩ := Go.Px.trod_str Tryz.underlying29 g1
      obtain ⟨va2, vl2, vc2, rfl, hT2⟩ := Go.Px.trod_sl Tryz.underlying34 g2
      have u2 := Go.Px.rowOf_trod (α := ByteArray) (fun xe => [.string xe]) (fun xe => xe.size ≤ maxLen) Tryz.underlying34 (by
        intro n cs x h hl
        obtain ⟨c, rfl⟩ := Go.Px.trod_len Tryz.underlying9 rfl h
        obtain ⟨m, rfl, w⟩ := Go.Px.trod_str Tryz.underlying9 h
        exact ⟨m, rfl, w⟩
        ) hT2
      rw [show Tryz.prog.cellsOf 9 = 1 by kernel_rfl] at u2
      obtain ⟨va3, vl3, vc3, rfl, hT3⟩ := Go.Px.trod_sl Tryz.underlying35 g3
      have u3 := Go.Px.rowOf_trod (α := ByteArray) (fun xe => [.string xe]) (fun xe => xe.size ≤ maxLen) Tryz.underlying35 (by
        intro n cs x h hl
        obtain ⟨c, rfl⟩ := Go.Px.trod_len Tryz.underlying29 rfl h
        obtain ⟨m, rfl, w⟩ := Go.Px.trod_str Tryz.underlying29 h
        exact ⟨m, rfl, w⟩
        ) hT3
      rw [show Tryz.prog.cellsOf 29 = 1 by kernel_rfl] at u3
      obtain ⟨va4, vl4, vc4, rfl, hT4⟩ := Go.Px.trod_sl Tryz.underlying34 g4
      have u4 := Go.Px.rowOf_trod (α := ByteArray) (fun xe => [.string xe]) (fun xe => xe.size ≤ maxLen) Tryz.underlying34 (by
        intro n cs x h hl
        obtain ⟨c, rfl⟩ := Go.Px.trod_len Tryz.underlying9 rfl h
        obtain ⟨m, rfl, w⟩ := Go.Px.trod_str Tryz.underlying9 h
        exact ⟨m, rfl, w⟩
        ) hT4
      rw [show Tryz.prog.cellsOf 9 = 1 by kernel_rfl] at u4
      exact ⟨⟨v0, v1, ⟨va2, vl2, vc2⟩, ⟨va3, vl3, vc3⟩, ⟨va4, vl4, vc4⟩⟩, rfl, u0, u1, u2, u3, u4⟩
    obtain ⟨y, h1, h2⟩ := key m cs3.toList _ g (by rw [Array.length_toList]; exact hs3)
    exact ⟨y, by rw [← h1], h2⟩
  subst hy3
  clear hA0 hval0 hsz0 hsz
  refine (Go.Px.Runs.below (SearchMatches_row W hg (y0.1) (y0.2.1.1) (y0.2.1.2.1) (y0.2.1.2.2) (y0.2.2.1.1) (y0.2.2.1.2.1) (y0.2.2.1.2.2) (y0.2.2.2.1.1) (y0.2.2.2.1.2.1) (y0.2.2.2.1.2.2) (y0.2.2.2.2.1.1) (y0.2.2.2.2.1.2.1) (y0.2.2.2.2.1.2.2) (y0.2.2.2.2.2.1) (y0.2.2.2.2.2.2.1) (y0.2.2.2.2.2.2.2) (y1.1) (y1.2.1.1) (y1.2.1.2.1) (y1.2.1.2.2) (y1.2.2.1) (y1.2.2.2.1) (y1.2.2.2.2) (y2.1) (y2.2.1) (y2.2.2.1) (y2.2.2.2) (y3.1) (y3.2.1) (y3.2.2.1.1) (y3.2.2.1.2.1) (y3.2.2.1.2.2) (y3.2.2.2.1.1) (y3.2.2.2.1.2.1) (y3.2.2.2.1.2.2) (y3.2.2.2.2.1) (y3.2.2.2.2.2.1) (y3.2.2.2.2.2.2) w0 w1 w2 w3)).mono fun e W' ⟨he, bel⟩ => ?_
  subst he
  exact ⟨_, rfl, _, _, _, [], _, [], hW', trodAll_mk1 (shut_bool Tryz.underlying4 _), (trodAll_cons_mk (Below.trod laidOut (by kernel_rfl) (of_decide_eq_true (by kernel_rfl)) k0 bel lt0) (trodAll_cons_mk (Below.trod laidOut (by kernel_rfl) (of_decide_eq_true (by kernel_rfl)) k1 bel lt1) (trodAll_cons_mk (Below.trod laidOut (by kernel_rfl) (of_decide_eq_true (by kernel_rfl)) k2 bel lt2) (trodAll_cons_mk (Below.trod laidOut (by kernel_rfl) (of_decide_eq_true (by kernel_rfl)) k3 bel lt3) trodAll_mk0)))), rfl, bel.frame _, fun h => by cases h⟩
theorem over : Rows.searchMatchesRow.holds Tryz.pinned (OpenSpec.ofChange Rows.searchMatchesSpec) :=
  OpenClaim.holds_of_wide 3 Tryz.f3 rfl rfl rfl rfl rfl rfl rfl ⟨rfl, rfl, rfl, rfl, rfl⟩ rfl rfl rfl rfl rfl (by kernel_rfl) Tryz.func3 (by kernel_rfl)
    (of_decide_eq_true (by kernel_rfl)) (by unfold Func.isWrapper; first | (rw [if_pos (by decide +kernel)]; kernel_rfl) | (rw [if_neg (by decide +kernel)]; exact ⟨rfl, rfl⟩))
    (fun os started H enc _ => lifted os started H enc)
theorem proved : Rows.SearchMatchesCardSaid :=
  Claim7.holds_tied_plain_at .later [] [.data, .data, .data, .sentinel, .sentinel] true (true, "f613b22d704ef95f664b70cc0d092546cd638f37aa74690687501968d7efc847") true
    over (fun _ h => by cases h) (by kernel_rfl) (fun _ h => by cases h) searchMatches_row_tie rfl ⟨rfl, rfl⟩ (by kernel_rfl) rfl
    (fun f fn hf hfn => by
      obtain rfl : f = 3 := Option.some.inj ((show Tryz.prog.funcNamed "bolter/bolterlaw19.SearchMatches" = some 3 by kernel_rfl).symm.trans hf) |>.symm
      obtain rfl : fn = Tryz.f3 := (Option.some.inj (Tryz.func3.symm.trans hfn)).symm
      exact ⟨by kernel_rfl, fun j t ht => by
        rw [Tryz.params3] at ht
        match j, ht with
        | 0, ht =>
          have h : t = 25 := by simpa using ht.symm
          subst h
          exact (show Tryz.prog.wantsStandIn 25 = false by kernel_rfl)
        | 1, ht =>
          have h : t = 27 := by simpa using ht.symm
          subst h
          exact (show Tryz.prog.wantsStandIn 27 = false by kernel_rfl)
        | 2, ht =>
          have h : t = 33 := by simpa using ht.symm
          subst h
          exact (show Tryz.prog.wantsStandIn 33 = false by kernel_rfl)
        | 3, ht =>
          have h : t = 37 := by simpa using ht.symm
          subst h
          exact (show Tryz.prog.wantsStandIn 37 = false by kernel_rfl)
        | j + 4, ht => simp at ht⟩)
    (by kernel_rfl)
end Go.Proofs.YtmlojdbahlfiaaaGreatDoor.searchMatches
namespace Go.Proofs.YtmlojdbahlfiaaaGreatDoor
/-- The tied card, under a short name. -/
theorem searchMatches_holds : Rows.SearchMatchesCardSaid := searchMatches.proved
#print axioms searchMatches_holds
end Go.Proofs.YtmlojdbahlfiaaaGreatDoor
