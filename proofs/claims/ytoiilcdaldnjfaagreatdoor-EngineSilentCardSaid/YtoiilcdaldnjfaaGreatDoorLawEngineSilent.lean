/- EngineSilent: for every input the law returns true, and its arguments read afterwards as they read before. No condition. -/
import Derived.Test.YtoiilcdaldnjfaaGreatDoorRows
import Derived.Test.YtoiilcdaldnjfaaGreatDoorM1EngineSilent
import Derived.Test.YtoiilcdaldnjfaaGreatDoorM2EngineSilent
import Derived.Test.YtoiilcdaldnjfaaGreatDoorM3EngineSilent
import Derived.Test.YtoiilcdaldnjfaaGreatDoorM4EngineSilent
import Derived.Test.YtoiilcdaldnjfaaGreatDoorM5EngineSilent
import Derived.WalkKit
import Derived.ProofKit
import Derived.OpenShut
import Derived.ShutString
import Derived.ChangeOld
import Derived.Below
import Derived.SizedLaws
import Derived.Test.YtoiilcdaldnjfaaGreatDoorCards
import Derived.Test.YtoiilcdaldnjfaaGreatDoorTie
import Derived.SevenTiedAt
namespace Go.Proofs.YtoiilcdaldnjfaaGreatDoor.engineSilent
open Go.ChangeShapes Go.WideShapes Go.ChangeAt Go.RowKit
open Go.ChangeMaps (open_string shut_string)
set_option linter.unusedVariables false
theorem own : ownKnob Tryz.prog.godebug = none := by kernel_rfl
theorem laidOut : laidOutB Tryz.prog = true := by kernel_rfl
set_option maxRecDepth 100000 in
theorem lifted (os : Os) (started : os.Started) (H : Type) (enc : TypeId × Value -> H) :
  ReturnsInHanded {} Tryz.checked os 3 .any (fun w args => (Rows.engineSilentSpec.pre enc Tryz.prog Tryz.f3 Rows.engineSilentRow.domain false w args /\ laidMetH Tryz.prog Jy w) /\ sizedMet enc Tryz.prog Tryz.f3 (OpenSpec.ofChange Rows.engineSilentSpec) false w args) (Rows.engineSilentSpec.post enc Tryz.prog Tryz.f3 false true false false) := by
 refine returnsInHanded_of_change_and (C := Tryz.checked) (X := fun w _ => laidMetH Tryz.prog Jy w) (fun _ _ _ hh h => h.of_heap hh) own started (by kernel_rfl) Tryz.func3
  (ChangeSpec.witness_shaped (enc := enc) (C := Tryz.checked) (os := os) (X := fun w _ => laidMetH Tryz.prog Jy w) false (EJ os) #[.slice none 0 0, .agg #[.bool false, .slice none 0 0, .slice none 0 0, .slice none 0 0, .slice none 0 0, .slice none 0 0], .int .u8 0] 8 (MW os) (GG os _) (by kernel_rfl) (by kernel_rfl) (by kernel_rfl) (Lv os _)) ?_
 intro W base args ds gs before hval0 hW hcnd hsz0 hL _
 have hg := K7 hL
 have hsz : (DataW.weightsEach Tryz.prog (Tryz.f3.params.toList ++ Rows.engineSilentSpec.plain.varTypes Tryz.prog) (ds ++ gs)).all (· <= reachBytes) = true := hsz0
 have hval : ∀ (j : Nat) t v, Tryz.f3.params[j]? = some t -> args[j]? = some v -> Value.okWide Tryz.prog W .any base t v := hval0
 have hW' := hW
 obtain ⟨p, q, hA0, hV, rfl, hfz, hnd⟩ := hW
 have hA : DataW.TrodAll enc Tryz.prog W 0 (fun _ => true) true Tryz.f3.params.toList args.toList ds p := hA0
 rw [Tryz.params3] at hA hval hsz
 obtain ⟨v0, vs0, d0, ds0, p0, q0, hargs, rfl, rfl, h0, r0⟩ := trodAll_cons hA
 obtain ⟨v1, vs1, d1, ds1, p1, q1, rfl, rfl, rfl, h1, r1⟩ := trodAll_cons r0
 obtain ⟨v2, vs2, d2, ds2, p2, q2, rfl, rfl, rfl, h2, r2⟩ := trodAll_cons r1
 obtain ⟨rfl, rfl, rfl⟩ := trodAll_nil r2
 obtain rfl : args = #[v0, v1, v2] := by cases args; simp_all
 obtain ⟨rfl, rfl⟩ := trodVars_none hV
 obtain ⟨a0, len0, cap0, rfl⟩ := okWide_slice Tryz.underlying22 (hval 0 22 v0 rfl rfl)
 have k0 := h0
 have lt0 : ∀ x ∈ p0, x.block < W.heap.size := by obtain ⟨m, hm⟩ := k0; exact DataW.trod_lt m _ _ _ hm
 have w0 := Go.Px.rowOf_trod (α := Int × (Option Addr × Nat × Nat) × Bool × Int × Int) (fun x => [.int .u8 x.1, .slice x.2.1.1 x.2.1.2.1 x.2.1.2.2, .bool x.2.2.1, .int .u8 x.2.2.2.1, .int .u8 x.2.2.2.2]) (fun x => (Lit.int .u8 x.1).wf = true /\ (x.2.1.2.1 <= x.2.1.2.2 /\ x.2.1.2.2 <= maxLen /\ ∃ ys : List (Int), Go.Px.SlIn (Go.Px.imW W) x.2.1.1 x.2.1.2.1 1 (fun xe => [.int .u8 xe]) ys /\ ∀ y ∈ ys, (fun xe => (Lit.int .u8 xe).wf = true) y) /\ True /\ (Lit.int .u8 x.2.2.2.1).wf = true /\ (Lit.int .u8 x.2.2.2.2).wf = true) Tryz.underlying22 (by
  intro n cs x h hl
  have hl' : cs.length = 5 := hl.trans (by kernel_rfl)
  obtain ⟨c0, c1, c2, c3, c4, rfl⟩ : ∃ c0 c1 c2 c3 c4, cs = [c0, c1, c2, c3, c4] := by
   match cs, hl' with
   | [c0, c1, c2, c3, c4], _ => exact ⟨c0, c1, c2, c3, c4, rfl⟩
  obtain ⟨n0, y0, g0⟩ := Go.Px.trod_field Tryz.underlying95 h 0 _ rfl
  replace g0 : DataW.trod enc Tryz.prog W 0 (fun _ => true) true n0 5 (List.take (Tryz.prog.cellsOf 5) (List.drop 0 [c0, c1, c2, c3, c4])) = some y0 := g0
  rw [show Tryz.prog.cellsOf 5 = 1 by kernel_rfl] at g0
  replace g0 : DataW.trod enc Tryz.prog W 0 (fun _ => true) true n0 5 [c0] = some y0 := g0
  obtain ⟨n1, y1, g1⟩ := Go.Px.trod_field Tryz.underlying95 h 1 _ rfl
  replace g1 : DataW.trod enc Tryz.prog W 0 (fun _ => true) true n1 23 (List.take (Tryz.prog.cellsOf 23) (List.drop 1 [c0, c1, c2, c3, c4])) = some y1 := g1
  rw [show Tryz.prog.cellsOf 23 = 1 by kernel_rfl] at g1
  replace g1 : DataW.trod enc Tryz.prog W 0 (fun _ => true) true n1 23 [c1] = some y1 := g1
  obtain ⟨n2, y2, g2⟩ := Go.Px.trod_field Tryz.underlying95 h 2 _ rfl
  replace g2 : DataW.trod enc Tryz.prog W 0 (fun _ => true) true n2 4 (List.take (Tryz.prog.cellsOf 4) (List.drop 2 [c0, c1, c2, c3, c4])) = some y2 := g2
  rw [show Tryz.prog.cellsOf 4 = 1 by kernel_rfl] at g2
  replace g2 : DataW.trod enc Tryz.prog W 0 (fun _ => true) true n2 4 [c2] = some y2 := g2
  obtain ⟨n3, y3, g3⟩ := Go.Px.trod_field Tryz.underlying95 h 3 _ rfl
  replace g3 : DataW.trod enc Tryz.prog W 0 (fun _ => true) true n3 5 (List.take (Tryz.prog.cellsOf 5) (List.drop 3 [c0, c1, c2, c3, c4])) = some y3 := g3
  rw [show Tryz.prog.cellsOf 5 = 1 by kernel_rfl] at g3
  replace g3 : DataW.trod enc Tryz.prog W 0 (fun _ => true) true n3 5 [c3] = some y3 := g3
  obtain ⟨n4, y4, g4⟩ := Go.Px.trod_field Tryz.underlying95 h 4 _ rfl
  replace g4 : DataW.trod enc Tryz.prog W 0 (fun _ => true) true n4 5 (List.take (Tryz.prog.cellsOf 5) (List.drop 4 [c0, c1, c2, c3, c4])) = some y4 := g4
  rw [show Tryz.prog.cellsOf 5 = 1 by kernel_rfl] at g4
  replace g4 : DataW.trod enc Tryz.prog W 0 (fun _ => true) true n4 5 [c4] = some y4 := g4
  obtain ⟨v0, rfl, u0⟩ := Go.Px.trod_int Tryz.underlying5 g0
  obtain ⟨va1, vl1, vc1, rfl, hT1⟩ := Go.Px.trod_sl Tryz.underlying23 g1
  have u1 := Go.Px.rowOf_trod (α := Int) (fun xe => [.int .u8 xe]) (fun xe => (Lit.int .u8 xe).wf = true) Tryz.underlying23 (by
   intro n cs x h hl
   obtain ⟨c, rfl⟩ := Go.Px.trod_len Tryz.underlying5 rfl h
   obtain ⟨m, rfl, w⟩ := Go.Px.trod_int Tryz.underlying5 h
   exact ⟨m, rfl, w⟩
   ) hT1
  rw [show Tryz.prog.cellsOf 5 = 1 by kernel_rfl] at u1
  obtain ⟨v2, rfl⟩ := Go.Px.trod_bool Tryz.underlying4 g2
  obtain ⟨v3, rfl, u3⟩ := Go.Px.trod_int Tryz.underlying5 g3
  obtain ⟨v4, rfl, u4⟩ := Go.Px.trod_int Tryz.underlying5 g4
  exact ⟨⟨v0, ⟨va1, vl1, vc1⟩, v2, v3, v4⟩, rfl, u0, u1, trivial, u3, u4⟩
  ) k0
 rw [show Tryz.prog.cellsOf 95 = 5 by kernel_rfl] at w0
 have z0 := Go.Px.weight_of 0 hsz rfl rfl Tryz.underlying22 (by decide +kernel) k0
 obtain ⟨cs1, rfl, hs1⟩ := okWide_struct Tryz.underlying26 (hval 1 26 v1 rfl rfl)
 have k1 := h1
 have lt1 : ∀ x ∈ p1, x.block < W.heap.size := by obtain ⟨m, hm⟩ := k1; exact DataW.trod_lt m _ _ _ hm
 obtain ⟨y1, hy1, w1⟩ : ∃ y : Bool × (Option Addr × Nat × Nat) × (Option Addr × Nat × Nat) × (Option Addr × Nat × Nat) × (Option Addr × Nat × Nat) × (Option Addr × Nat × Nat), cs1 = ((fun x => [.bool x.1, .slice x.2.1.1 x.2.1.2.1 x.2.1.2.2, .slice x.2.2.1.1 x.2.2.1.2.1 x.2.2.1.2.2, .slice x.2.2.2.1.1 x.2.2.2.1.2.1 x.2.2.2.1.2.2, .slice x.2.2.2.2.1.1 x.2.2.2.2.1.2.1 x.2.2.2.2.1.2.2, .slice x.2.2.2.2.2.1 x.2.2.2.2.2.2.1 x.2.2.2.2.2.2.2]) y).toArray /\ (fun x => True /\ (x.2.1.2.1 <= x.2.1.2.2 /\ x.2.1.2.2 <= maxLen /\ ∃ ys : List (Int), Go.Px.SlIn (Go.Px.imW W) x.2.1.1 x.2.1.2.1 1 (fun xe => [.int .u8 xe]) ys /\ ∀ y ∈ ys, (fun xe => (Lit.int .u8 xe).wf = true) y) /\ (x.2.2.1.2.1 <= x.2.2.1.2.2 /\ x.2.2.1.2.2 <= maxLen /\ ∃ ys : List (Int), Go.Px.SlIn (Go.Px.imW W) x.2.2.1.1 x.2.2.1.2.1 1 (fun xe => [.int .u8 xe]) ys /\ ∀ y ∈ ys, (fun xe => (Lit.int .u8 xe).wf = true) y) /\ (x.2.2.2.1.2.1 <= x.2.2.2.1.2.2 /\ x.2.2.2.1.2.2 <= maxLen /\ ∃ ys : List ((Option Addr × Nat × Nat)), Go.Px.SlIn (Go.Px.imW W) x.2.2.2.1.1 x.2.2.2.1.2.1 1 (fun xe => [.slice xe.1 xe.2.1 xe.2.2]) ys /\ ∀ y ∈ ys, (fun xe => (xe.2.1 <= xe.2.2 /\ xe.2.2 <= maxLen /\ ∃ ys : List (Int), Go.Px.SlIn (Go.Px.imW W) xe.1 xe.2.1 1 (fun xe => [.int .u8 xe]) ys /\ ∀ y ∈ ys, (fun xe => (Lit.int .u8 xe).wf = true) y)) y) /\ (x.2.2.2.2.1.2.1 <= x.2.2.2.2.1.2.2 /\ x.2.2.2.2.1.2.2 <= maxLen /\ ∃ ys : List ((Option Addr × Nat × Nat)), Go.Px.SlIn (Go.Px.imW W) x.2.2.2.2.1.1 x.2.2.2.2.1.2.1 1 (fun xe => [.slice xe.1 xe.2.1 xe.2.2]) ys /\ ∀ y ∈ ys, (fun xe => (xe.2.1 <= xe.2.2 /\ xe.2.2 <= maxLen /\ ∃ ys : List (Int), Go.Px.SlIn (Go.Px.imW W) xe.1 xe.2.1 1 (fun xe => [.int .u8 xe]) ys /\ ∀ y ∈ ys, (fun xe => (Lit.int .u8 xe).wf = true) y)) y) /\ (x.2.2.2.2.2.2.1 <= x.2.2.2.2.2.2.2 /\ x.2.2.2.2.2.2.2 <= maxLen /\ ∃ ys : List ((Option Addr × Nat × Nat)), Go.Px.SlIn (Go.Px.imW W) x.2.2.2.2.2.1 x.2.2.2.2.2.2.1 1 (fun xe => [.slice xe.1 xe.2.1 xe.2.2]) ys /\ ∀ y ∈ ys, (fun xe => (xe.2.1 <= xe.2.2 /\ xe.2.2 <= maxLen /\ ∃ ys : List (Int), Go.Px.SlIn (Go.Px.imW W) xe.1 xe.2.1 1 (fun xe => [.int .u8 xe]) ys /\ ∀ y ∈ ys, (fun xe => (Lit.int .u8 xe).wf = true) y)) y)) y := by
  obtain ⟨m, g⟩ := h1
  have key : ∀ (n : Nat) (cs : List Value) (x : DataW H × List MemPlace), DataW.trod enc Tryz.prog W 0 (fun _ => true) true n 26 cs = some x -> cs.length = Tryz.prog.cellsOf 26 -> ∃ y : Bool × (Option Addr × Nat × Nat) × (Option Addr × Nat × Nat) × (Option Addr × Nat × Nat) × (Option Addr × Nat × Nat) × (Option Addr × Nat × Nat), cs = (fun x => [.bool x.1, .slice x.2.1.1 x.2.1.2.1 x.2.1.2.2, .slice x.2.2.1.1 x.2.2.1.2.1 x.2.2.1.2.2, .slice x.2.2.2.1.1 x.2.2.2.1.2.1 x.2.2.2.1.2.2, .slice x.2.2.2.2.1.1 x.2.2.2.2.1.2.1 x.2.2.2.2.1.2.2, .slice x.2.2.2.2.2.1 x.2.2.2.2.2.2.1 x.2.2.2.2.2.2.2]) y /\ (fun x => True /\ (x.2.1.2.1 <= x.2.1.2.2 /\ x.2.1.2.2 <= maxLen /\ ∃ ys : List (Int), Go.Px.SlIn (Go.Px.imW W) x.2.1.1 x.2.1.2.1 1 (fun xe => [.int .u8 xe]) ys /\ ∀ y ∈ ys, (fun xe => (Lit.int .u8 xe).wf = true) y) /\ (x.2.2.1.2.1 <= x.2.2.1.2.2 /\ x.2.2.1.2.2 <= maxLen /\ ∃ ys : List (Int), Go.Px.SlIn (Go.Px.imW W) x.2.2.1.1 x.2.2.1.2.1 1 (fun xe => [.int .u8 xe]) ys /\ ∀ y ∈ ys, (fun xe => (Lit.int .u8 xe).wf = true) y) /\ (x.2.2.2.1.2.1 <= x.2.2.2.1.2.2 /\ x.2.2.2.1.2.2 <= maxLen /\ ∃ ys : List ((Option Addr × Nat × Nat)), Go.Px.SlIn (Go.Px.imW W) x.2.2.2.1.1 x.2.2.2.1.2.1 1 (fun xe => [.slice xe.1 xe.2.1 xe.2.2]) ys /\ ∀ y ∈ ys, (fun xe => (xe.2.1 <= xe.2.2 /\ xe.2.2 <= maxLen /\ ∃ ys : List (Int), Go.Px.SlIn (Go.Px.imW W) xe.1 xe.2.1 1 (fun xe => [.int .u8 xe]) ys /\ ∀ y ∈ ys, (fun xe => (Lit.int .u8 xe).wf = true) y)) y) /\ (x.2.2.2.2.1.2.1 <= x.2.2.2.2.1.2.2 /\ x.2.2.2.2.1.2.2 <= maxLen /\ ∃ ys : List ((Option Addr × Nat × Nat)), Go.Px.SlIn (Go.Px.imW W) x.2.2.2.2.1.1 x.2.2.2.2.1.2.1 1 (fun xe => [.slice xe.1 xe.2.1 xe.2.2]) ys /\ ∀ y ∈ ys, (fun xe => (xe.2.1 <= xe.2.2 /\ xe.2.2 <= maxLen /\ ∃ ys : List (Int), Go.Px.SlIn (Go.Px.imW W) xe.1 xe.2.1 1 (fun xe => [.int .u8 xe]) ys /\ ∀ y ∈ ys, (fun xe => (Lit.int .u8 xe).wf = true) y)) y) /\ (x.2.2.2.2.2.2.1 <= x.2.2.2.2.2.2.2 /\ x.2.2.2.2.2.2.2 <= maxLen /\ ∃ ys : List ((Option Addr × Nat × Nat)), Go.Px.SlIn (Go.Px.imW W) x.2.2.2.2.2.1 x.2.2.2.2.2.2.1 1 (fun xe => [.slice xe.1 xe.2.1 xe.2.2]) ys /\ ∀ y ∈ ys, (fun xe => (xe.2.1 <= xe.2.2 /\ xe.2.2 <= maxLen /\ ∃ ys : List (Int), Go.Px.SlIn (Go.Px.imW W) xe.1 xe.2.1 1 (fun xe => [.int .u8 xe]) ys /\ ∀ y ∈ ys, (fun xe => (Lit.int .u8 xe).wf = true) y)) y)) y := by
   intro n cs x h hl
   have hl' : cs.length = 6 := hl.trans (by kernel_rfl)
   obtain ⟨c0, c1, c2, c3, c4, c5, rfl⟩ : ∃ c0 c1 c2 c3 c4 c5, cs = [c0, c1, c2, c3, c4, c5] := by
    match cs, hl' with
    | [c0, c1, c2, c3, c4, c5], _ => exact ⟨c0, c1, c2, c3, c4, c5, rfl⟩
   obtain ⟨n0, y0, g0⟩ := Go.Px.trod_field Tryz.underlying26 h 0 _ rfl
   replace g0 : DataW.trod enc Tryz.prog W 0 (fun _ => true) true n0 4 (List.take (Tryz.prog.cellsOf 4) (List.drop 0 [c0, c1, c2, c3, c4, c5])) = some y0 := g0
   rw [show Tryz.prog.cellsOf 4 = 1 by kernel_rfl] at g0
   replace g0 : DataW.trod enc Tryz.prog W 0 (fun _ => true) true n0 4 [c0] = some y0 := g0
   obtain ⟨n1, y1, g1⟩ := Go.Px.trod_field Tryz.underlying26 h 1 _ rfl
   replace g1 : DataW.trod enc Tryz.prog W 0 (fun _ => true) true n1 23 (List.take (Tryz.prog.cellsOf 23) (List.drop 1 [c0, c1, c2, c3, c4, c5])) = some y1 := g1
   rw [show Tryz.prog.cellsOf 23 = 1 by kernel_rfl] at g1
   replace g1 : DataW.trod enc Tryz.prog W 0 (fun _ => true) true n1 23 [c1] = some y1 := g1
   obtain ⟨n2, y2, g2⟩ := Go.Px.trod_field Tryz.underlying26 h 2 _ rfl
   replace g2 : DataW.trod enc Tryz.prog W 0 (fun _ => true) true n2 23 (List.take (Tryz.prog.cellsOf 23) (List.drop 2 [c0, c1, c2, c3, c4, c5])) = some y2 := g2
   rw [show Tryz.prog.cellsOf 23 = 1 by kernel_rfl] at g2
   replace g2 : DataW.trod enc Tryz.prog W 0 (fun _ => true) true n2 23 [c2] = some y2 := g2
   obtain ⟨n3, y3, g3⟩ := Go.Px.trod_field Tryz.underlying26 h 3 _ rfl
   replace g3 : DataW.trod enc Tryz.prog W 0 (fun _ => true) true n3 24 (List.take (Tryz.prog.cellsOf 24) (List.drop 3 [c0, c1, c2, c3, c4, c5])) = some y3 := g3
   rw [show Tryz.prog.cellsOf 24 = 1 by kernel_rfl] at g3
   replace g3 : DataW.trod enc Tryz.prog W 0 (fun _ => true) true n3 24 [c3] = some y3 := g3
   obtain ⟨n4, y4, g4⟩ := Go.Px.trod_field Tryz.underlying26 h 4 _ rfl
   replace g4 : DataW.trod enc Tryz.prog W 0 (fun _ => true) true n4 24 (List.take (Tryz.prog.cellsOf 24) (List.drop 4 [c0, c1, c2, c3, c4, c5])) = some y4 := g4
   rw [show Tryz.prog.cellsOf 24 = 1 by kernel_rfl] at g4
   replace g4 : DataW.trod enc Tryz.prog W 0 (fun _ => true) true n4 24 [c4] = some y4 := g4
   obtain ⟨n5, y5, g5⟩ := Go.Px.trod_field Tryz.underlying26 h 5 _ rfl
   replace g5 : DataW.trod enc Tryz.prog W 0 (fun _ => true) true n5 24 (List.take (Tryz.prog.cellsOf 24) (List.drop 5 [c0, c1, c2, c3, c4, c5])) = some y5 := g5
   rw [show Tryz.prog.cellsOf 24 = 1 by kernel_rfl] at g5
   replace g5 : DataW.trod enc Tryz.prog W 0 (fun _ => true) true n5 24 [c5] = some y5 := g5
   obtain ⟨v0, rfl⟩ := Go.Px.trod_bool Tryz.underlying4 g0
   obtain ⟨va1, vl1, vc1, rfl, hT1⟩ := Go.Px.trod_sl Tryz.underlying23 g1
   have u1 := Go.Px.rowOf_trod (α := Int) (fun xe => [.int .u8 xe]) (fun xe => (Lit.int .u8 xe).wf = true) Tryz.underlying23 (by
    intro n cs x h hl
    obtain ⟨c, rfl⟩ := Go.Px.trod_len Tryz.underlying5 rfl h
    obtain ⟨m, rfl, w⟩ := Go.Px.trod_int Tryz.underlying5 h
    exact ⟨m, rfl, w⟩
    ) hT1
   rw [show Tryz.prog.cellsOf 5 = 1 by kernel_rfl] at u1
   obtain ⟨va2, vl2, vc2, rfl, hT2⟩ := Go.Px.trod_sl Tryz.underlying23 g2
   have u2 := Go.Px.rowOf_trod (α := Int) (fun xe => [.int .u8 xe]) (fun xe => (Lit.int .u8 xe).wf = true) Tryz.underlying23 (by
    intro n cs x h hl
    obtain ⟨c, rfl⟩ := Go.Px.trod_len Tryz.underlying5 rfl h
    obtain ⟨m, rfl, w⟩ := Go.Px.trod_int Tryz.underlying5 h
    exact ⟨m, rfl, w⟩
    ) hT2
   rw [show Tryz.prog.cellsOf 5 = 1 by kernel_rfl] at u2
   obtain ⟨va3, vl3, vc3, rfl, hT3⟩ := Go.Px.trod_sl Tryz.underlying24 g3
   have u3 := Go.Px.rowOf_trod (α := (Option Addr × Nat × Nat)) (fun xe => [.slice xe.1 xe.2.1 xe.2.2]) (fun xe => (xe.2.1 <= xe.2.2 /\ xe.2.2 <= maxLen /\ ∃ ys : List (Int), Go.Px.SlIn (Go.Px.imW W) xe.1 xe.2.1 1 (fun xe => [.int .u8 xe]) ys /\ ∀ y ∈ ys, (fun xe => (Lit.int .u8 xe).wf = true) y)) Tryz.underlying24 (by
    intro n cs x h hl
    obtain ⟨c, rfl⟩ := Go.Px.trod_len Tryz.underlying23 rfl h
    obtain ⟨va, vl, vc, rfl, hT⟩ := Go.Px.trod_sl Tryz.underlying23 h
    have u := Go.Px.rowOf_trod (α := Int) (fun xe => [.int .u8 xe]) (fun xe => (Lit.int .u8 xe).wf = true) Tryz.underlying23 (by
     intro n cs x h hl
     obtain ⟨c, rfl⟩ := Go.Px.trod_len Tryz.underlying5 rfl h
     obtain ⟨m, rfl, w⟩ := Go.Px.trod_int Tryz.underlying5 h
     exact ⟨m, rfl, w⟩
     ) hT
    rw [show Tryz.prog.cellsOf 5 = 1 by kernel_rfl] at u
    exact ⟨⟨va, vl, vc⟩, rfl, u⟩
    ) hT3
   rw [show Tryz.prog.cellsOf 23 = 1 by kernel_rfl] at u3
   obtain ⟨va4, vl4, vc4, rfl, hT4⟩ := Go.Px.trod_sl Tryz.underlying24 g4
   have u4 := Go.Px.rowOf_trod (α := (Option Addr × Nat × Nat)) (fun xe => [.slice xe.1 xe.2.1 xe.2.2]) (fun xe => (xe.2.1 <= xe.2.2 /\ xe.2.2 <= maxLen /\ ∃ ys : List (Int), Go.Px.SlIn (Go.Px.imW W) xe.1 xe.2.1 1 (fun xe => [.int .u8 xe]) ys /\ ∀ y ∈ ys, (fun xe => (Lit.int .u8 xe).wf = true) y)) Tryz.underlying24 (by
    intro n cs x h hl
    obtain ⟨c, rfl⟩ := Go.Px.trod_len Tryz.underlying23 rfl h
    obtain ⟨va, vl, vc, rfl, hT⟩ := Go.Px.trod_sl Tryz.underlying23 h
    have u := Go.Px.rowOf_trod (α := Int) (fun xe => [.int .u8 xe]) (fun xe => (Lit.int .u8 xe).wf = true) Tryz.underlying23 (by
     intro n cs x h hl
     obtain ⟨c, rfl⟩ := Go.Px.trod_len Tryz.underlying5 rfl h
     obtain ⟨m, rfl, w⟩ := Go.Px.trod_int Tryz.underlying5 h
     exact ⟨m, rfl, w⟩
     ) hT
    rw [show Tryz.prog.cellsOf 5 = 1 by kernel_rfl] at u
    exact ⟨⟨va, vl, vc⟩, rfl, u⟩
    ) hT4
   rw [show Tryz.prog.cellsOf 23 = 1 by kernel_rfl] at u4
   obtain ⟨va5, vl5, vc5, rfl, hT5⟩ := Go.Px.trod_sl Tryz.underlying24 g5
   have u5 := Go.Px.rowOf_trod (α := (Option Addr × Nat × Nat)) (fun xe => [.slice xe.1 xe.2.1 xe.2.2]) (fun xe => (xe.2.1 <= xe.2.2 /\ xe.2.2 <= maxLen /\ ∃ ys : List (Int), Go.Px.SlIn (Go.Px.imW W) xe.1 xe.2.1 1 (fun xe => [.int .u8 xe]) ys /\ ∀ y ∈ ys, (fun xe => (Lit.int .u8 xe).wf = true) y)) Tryz.underlying24 (by
    intro n cs x h hl
    obtain ⟨c, rfl⟩ := Go.Px.trod_len Tryz.underlying23 rfl h
    obtain ⟨va, vl, vc, rfl, hT⟩ := Go.Px.trod_sl Tryz.underlying23 h
    have u := Go.Px.rowOf_trod (α := Int) (fun xe => [.int .u8 xe]) (fun xe => (Lit.int .u8 xe).wf = true) Tryz.underlying23 (by
     intro n cs x h hl
     obtain ⟨c, rfl⟩ := Go.Px.trod_len Tryz.underlying5 rfl h
     obtain ⟨m, rfl, w⟩ := Go.Px.trod_int Tryz.underlying5 h
     exact ⟨m, rfl, w⟩
     ) hT
    rw [show Tryz.prog.cellsOf 5 = 1 by kernel_rfl] at u
    exact ⟨⟨va, vl, vc⟩, rfl, u⟩
    ) hT5
   rw [show Tryz.prog.cellsOf 23 = 1 by kernel_rfl] at u5
   exact ⟨⟨v0, ⟨va1, vl1, vc1⟩, ⟨va2, vl2, vc2⟩, ⟨va3, vl3, vc3⟩, ⟨va4, vl4, vc4⟩, ⟨va5, vl5, vc5⟩⟩, rfl, trivial, u1, u2, u3, u4, u5⟩
  obtain ⟨y, h1, h2⟩ := key m cs1.toList _ g (by rw [Array.length_toList]; exact hs1)
  exact ⟨y, by rw [<- h1], h2⟩
 subst hy1
 obtain ⟨a2, rfl, rfl, rfl, w2⟩ := open_int Tryz.underlying5 (hval 2 5 v2 rfl rfl) h2
 clear hA0 hval0 hsz0 hsz
 refine (Go.Px.Runs.below (Gt W hg a0 len0 cap0 (y1.1) (y1.2.1.1) (y1.2.1.2.1) (y1.2.1.2.2) (y1.2.2.1.1) (y1.2.2.1.2.1) (y1.2.2.1.2.2) (y1.2.2.2.1.1) (y1.2.2.2.1.2.1) (y1.2.2.2.1.2.2) (y1.2.2.2.2.1.1) (y1.2.2.2.2.1.2.1) (y1.2.2.2.2.1.2.2) (y1.2.2.2.2.2.1) (y1.2.2.2.2.2.2.1) (y1.2.2.2.2.2.2.2) a2 w0 z0 w1 w2)).mono fun e W' ⟨he, bel⟩ => ?_
 subst he
 exact ⟨_, rfl, _, _, _, [], _, [], hW', trodAll_mk1 (shut_bool Tryz.underlying4 _), (trodAll_cons_mk (Below.trod laidOut (by kernel_rfl) (of_decide_eq_true (by kernel_rfl)) k0 bel lt0) (trodAll_cons_mk (Below.trod laidOut (by kernel_rfl) (of_decide_eq_true (by kernel_rfl)) k1 bel lt1) (trodAll_cons_mk (shut_int Tryz.underlying5 w2) trodAll_mk0))), rfl, bel.frame _, fun h => by cases h⟩
theorem over : Rows.engineSilentRow.holds Tryz.pinned (OpenSpec.ofChange Rows.engineSilentSpec) :=
 OpenClaim.holds_of_wide 3 Tryz.f3 rfl rfl rfl rfl rfl rfl rfl ⟨rfl, rfl, rfl, rfl, rfl⟩ rfl rfl rfl rfl rfl (by kernel_rfl) Tryz.func3 (by kernel_rfl)
  (of_decide_eq_true (by kernel_rfl)) (by unfold Func.isWrapper; first | (rw [if_pos (by decide +kernel)]; kernel_rfl) | (rw [if_neg (by decide +kernel)]; exact ⟨rfl, rfl⟩))
  (fun os started H enc _ => lifted os started H enc)
theorem proved : Rows.EngineSilentCardSaid :=
 Claim7.holds_tied_plain_at .later [] [.data, .data, .data, .sentinel, .sentinel] true (true, "564d382dd431c48224a1f1bbcd10dc27733122982130fcdba79a01edd12d630f") true
  over (fun _ h => by cases h) (by kernel_rfl) (fun _ h => by cases h) engineSilent_row_tie rfl ⟨rfl, rfl⟩ (by kernel_rfl) rfl
  (fun f fn hf hfn => by
   obtain rfl : f = 3 := Option.some.inj ((show Tryz.prog.funcNamed "bolter/bolterlaw20.EngineSilent" = some 3 by kernel_rfl).symm.trans hf) |>.symm
   obtain rfl : fn = Tryz.f3 := (Option.some.inj (Tryz.func3.symm.trans hfn)).symm
   exact ⟨by kernel_rfl, fun j t ht => by
    rw [Tryz.params3] at ht
    match j, ht with
    | 0, ht =>
     have h : t = 22 := by simpa using ht.symm
     subst h
     exact (show Tryz.prog.wantsStandIn 22 = false by kernel_rfl)
    | 1, ht =>
     have h : t = 26 := by simpa using ht.symm
     subst h
     exact (show Tryz.prog.wantsStandIn 26 = false by kernel_rfl)
    | 2, ht =>
     have h : t = 5 := by simpa using ht.symm
     subst h
     exact (show Tryz.prog.wantsStandIn 5 = false by kernel_rfl)
    | j + 3, ht => simp at ht⟩)
  (by kernel_rfl)
end Go.Proofs.YtoiilcdaldnjfaaGreatDoor.engineSilent
namespace Go.Proofs.YtoiilcdaldnjfaaGreatDoor
theorem engineSilent_holds : Rows.EngineSilentCardSaid := engineSilent.proved
#print axioms engineSilent_holds
end Go.Proofs.YtoiilcdaldnjfaaGreatDoor
