/- EngineScript: for every input the law returns true, and its arguments read afterwards as they read before. No condition. -/
import Derived.Test.YtoiilcdaldnjfaaGreatDoorRows
import Derived.Test.YtoiilcdaldnjfaaGreatDoorM1EngineScript
import Derived.Test.YtoiilcdaldnjfaaGreatDoorM2EngineScript
import Derived.Test.YtoiilcdaldnjfaaGreatDoorM3EngineScript
import Derived.Test.YtoiilcdaldnjfaaGreatDoorM4EngineScript
import Derived.Test.YtoiilcdaldnjfaaGreatDoorM5EngineScript
import Derived.WalkKit
import Derived.ProofKit
import Derived.OpenShut
import Derived.ShutString
import Derived.ChangeOld
import Derived.Below
import Derived.SizedLaws
import Derived.Test.YtoiilcdaldnjfaaGreatDoorCards
import Derived.Test.YtoiilcdaldnjfaaGreatDoorTie
import Derived.SevenTiedAt
namespace Go.Proofs.YtoiilcdaldnjfaaGreatDoor.engineScript
open Go.ChangeShapes Go.WideShapes Go.ChangeAt Go.RowKit
open Go.ChangeMaps (open_string shut_string)
set_option linter.unusedVariables false
theorem own : ownKnob Tryz.prog.godebug = none := by kernel_rfl
theorem laidOut : laidOutB Tryz.prog = true := by kernel_rfl
set_option maxRecDepth 100000 in
theorem lifted (os : Os) (started : os.Started) (H : Type) (enc : TypeId × Value -> H) :
  ReturnsInHanded {} Tryz.checked os 7 .any (fun w args => (Rows.engineScriptSpec.pre enc Tryz.prog Tryz.f7 Rows.engineScriptRow.domain false w args /\ laidMetH Tryz.prog KN w) /\ sizedMet enc Tryz.prog Tryz.f7 (OpenSpec.ofChange Rows.engineScriptSpec) false w args) (Rows.engineScriptSpec.post enc Tryz.prog Tryz.f7 false true false false) := by
 refine returnsInHanded_of_change_and (C := Tryz.checked) (X := fun w _ => laidMetH Tryz.prog KN w) (fun _ _ _ hh h => h.of_heap hh) own started (by kernel_rfl) Tryz.func7
  (ChangeSpec.witness_shaped (enc := enc) (C := Tryz.checked) (os := os) (X := fun w _ => laidMetH Tryz.prog KN w) false (Fd os) #[.slice none 0 0, .slice none 0 0, .slice none 0 0] 8 (Pn os) (Hx os _) (by kernel_rfl) (by kernel_rfl) (by kernel_rfl) (MY os _)) ?_
 intro W base args ds gs before hval0 hW hcnd hsz0 hL _
 have hg := Lm hL
 have hsz : (DataW.weightsEach Tryz.prog (Tryz.f7.params.toList ++ Rows.engineScriptSpec.plain.varTypes Tryz.prog) (ds ++ gs)).all (· <= reachBytes) = true := hsz0
 have hval : ∀ (j : Nat) t v, Tryz.f7.params[j]? = some t -> args[j]? = some v -> Value.okWide Tryz.prog W .any base t v := hval0
 have hW' := hW
 obtain ⟨p, q, hA0, hV, rfl, hfz, hnd⟩ := hW
 have hA : DataW.TrodAll enc Tryz.prog W 0 (fun _ => true) true Tryz.f7.params.toList args.toList ds p := hA0
 rw [Tryz.params7] at hA hval hsz
 obtain ⟨v0, vs0, d0, ds0, p0, q0, hargs, rfl, rfl, h0, r0⟩ := trodAll_cons hA
 obtain ⟨v1, vs1, d1, ds1, p1, q1, rfl, rfl, rfl, h1, r1⟩ := trodAll_cons r0
 obtain ⟨v2, vs2, d2, ds2, p2, q2, rfl, rfl, rfl, h2, r2⟩ := trodAll_cons r1
 obtain ⟨rfl, rfl, rfl⟩ := trodAll_nil r2
 obtain rfl : args = #[v0, v1, v2] := by cases args; simp_all
 obtain ⟨rfl, rfl⟩ := trodVars_none hV
 obtain ⟨a0, len0, cap0, rfl⟩ := okWide_slice Tryz.underlying23 (hval 0 23 v0 rfl rfl)
 have k0 := h0
 have lt0 : ∀ x ∈ p0, x.block < W.heap.size := by obtain ⟨m, hm⟩ := k0; exact DataW.trod_lt m _ _ _ hm
 have w0 := Go.Px.rowOf_trod (α := Int) (fun x => [.int .u8 x]) (fun x => (Lit.int .u8 x).wf = true) Tryz.underlying23 (by
  intro n cs x h hl
  obtain ⟨c, rfl⟩ := Go.Px.trod_len Tryz.underlying5 rfl h
  obtain ⟨m, rfl, w⟩ := Go.Px.trod_int Tryz.underlying5 h
  exact ⟨m, rfl, w⟩
  ) k0
 rw [show Tryz.prog.cellsOf 5 = 1 by kernel_rfl] at w0
 have z0 := Go.Px.weight_of 0 hsz rfl rfl Tryz.underlying23 (by decide +kernel) k0
 obtain ⟨a1, len1, cap1, rfl⟩ := okWide_slice Tryz.underlying70 (hval 1 70 v1 rfl rfl)
 have k1 := h1
 have lt1 : ∀ x ∈ p1, x.block < W.heap.size := by obtain ⟨m, hm⟩ := k1; exact DataW.trod_lt m _ _ _ hm
 have w1 := Go.Px.rowOf_trod (α := Int × Int × (Option Addr × Nat × Nat)) (fun x => [.int .u8 x.1, .int .u8 x.2.1, .slice x.2.2.1 x.2.2.2.1 x.2.2.2.2]) (fun x => (Lit.int .u8 x.1).wf = true /\ (Lit.int .u8 x.2.1).wf = true /\ (x.2.2.2.1 <= x.2.2.2.2 /\ x.2.2.2.2 <= maxLen /\ ∃ ys : List (Int × (Option Addr × Nat × Nat) × Bool × Int × Int), Go.Px.SlIn (Go.Px.imW W) x.2.2.1 x.2.2.2.1 5 (fun xe => [.int .u8 xe.1, .slice xe.2.1.1 xe.2.1.2.1 xe.2.1.2.2, .bool xe.2.2.1, .int .u8 xe.2.2.2.1, .int .u8 xe.2.2.2.2]) ys /\ ∀ y ∈ ys, (fun xe => (Lit.int .u8 xe.1).wf = true /\ (xe.2.1.2.1 <= xe.2.1.2.2 /\ xe.2.1.2.2 <= maxLen /\ ∃ ys : List (Int), Go.Px.SlIn (Go.Px.imW W) xe.2.1.1 xe.2.1.2.1 1 (fun xe => [.int .u8 xe]) ys /\ ∀ y ∈ ys, (fun xe => (Lit.int .u8 xe).wf = true) y) /\ True /\ (Lit.int .u8 xe.2.2.2.1).wf = true /\ (Lit.int .u8 xe.2.2.2.2).wf = true) y)) Tryz.underlying70 (by
  intro n cs x h hl
  have hl' : cs.length = 3 := hl.trans (by kernel_rfl)
  obtain ⟨c0, c1, c2, rfl⟩ : ∃ c0 c1 c2, cs = [c0, c1, c2] := by
   match cs, hl' with
   | [c0, c1, c2], _ => exact ⟨c0, c1, c2, rfl⟩
  obtain ⟨n0, y0, g0⟩ := Go.Px.trod_field Tryz.underlying73 h 0 _ rfl
  replace g0 : DataW.trod enc Tryz.prog W 0 (fun _ => true) true n0 5 (List.take (Tryz.prog.cellsOf 5) (List.drop 0 [c0, c1, c2])) = some y0 := g0
  rw [show Tryz.prog.cellsOf 5 = 1 by kernel_rfl] at g0
  replace g0 : DataW.trod enc Tryz.prog W 0 (fun _ => true) true n0 5 [c0] = some y0 := g0
  obtain ⟨n1, y1, g1⟩ := Go.Px.trod_field Tryz.underlying73 h 1 _ rfl
  replace g1 : DataW.trod enc Tryz.prog W 0 (fun _ => true) true n1 5 (List.take (Tryz.prog.cellsOf 5) (List.drop 1 [c0, c1, c2])) = some y1 := g1
  rw [show Tryz.prog.cellsOf 5 = 1 by kernel_rfl] at g1
  replace g1 : DataW.trod enc Tryz.prog W 0 (fun _ => true) true n1 5 [c1] = some y1 := g1
  obtain ⟨n2, y2, g2⟩ := Go.Px.trod_field Tryz.underlying73 h 2 _ rfl
  replace g2 : DataW.trod enc Tryz.prog W 0 (fun _ => true) true n2 22 (List.take (Tryz.prog.cellsOf 22) (List.drop 2 [c0, c1, c2])) = some y2 := g2
  rw [show Tryz.prog.cellsOf 22 = 1 by kernel_rfl] at g2
  replace g2 : DataW.trod enc Tryz.prog W 0 (fun _ => true) true n2 22 [c2] = some y2 := g2
  obtain ⟨v0, rfl, u0⟩ := Go.Px.trod_int Tryz.underlying5 g0
  obtain ⟨v1, rfl, u1⟩ := Go.Px.trod_int Tryz.underlying5 g1
  obtain ⟨va2, vl2, vc2, rfl, hT2⟩ := Go.Px.trod_sl Tryz.underlying22 g2
  have u2 := Go.Px.rowOf_trod (α := Int × (Option Addr × Nat × Nat) × Bool × Int × Int) (fun xe => [.int .u8 xe.1, .slice xe.2.1.1 xe.2.1.2.1 xe.2.1.2.2, .bool xe.2.2.1, .int .u8 xe.2.2.2.1, .int .u8 xe.2.2.2.2]) (fun xe => (Lit.int .u8 xe.1).wf = true /\ (xe.2.1.2.1 <= xe.2.1.2.2 /\ xe.2.1.2.2 <= maxLen /\ ∃ ys : List (Int), Go.Px.SlIn (Go.Px.imW W) xe.2.1.1 xe.2.1.2.1 1 (fun xe => [.int .u8 xe]) ys /\ ∀ y ∈ ys, (fun xe => (Lit.int .u8 xe).wf = true) y) /\ True /\ (Lit.int .u8 xe.2.2.2.1).wf = true /\ (Lit.int .u8 xe.2.2.2.2).wf = true) Tryz.underlying22 (by
   intro n cs x h hl
   have hl' : cs.length = 5 := hl.trans (by kernel_rfl)
   obtain ⟨c0, c1, c2, c3, c4, rfl⟩ : ∃ c0 c1 c2 c3 c4, cs = [c0, c1, c2, c3, c4] := by
    match cs, hl' with
    | [c0, c1, c2, c3, c4], _ => exact ⟨c0, c1, c2, c3, c4, rfl⟩
   obtain ⟨n0, y0, g0⟩ := Go.Px.trod_field Tryz.underlying95 h 0 _ rfl
   replace g0 : DataW.trod enc Tryz.prog W 0 (fun _ => true) true n0 5 (List.take (Tryz.prog.cellsOf 5) (List.drop 0 [c0, c1, c2, c3, c4])) = some y0 := g0
   rw [show Tryz.prog.cellsOf 5 = 1 by kernel_rfl] at g0
   replace g0 : DataW.trod enc Tryz.prog W 0 (fun _ => true) true n0 5 [c0] = some y0 := g0
   obtain ⟨n1, y1, g1⟩ := Go.Px.trod_field Tryz.underlying95 h 1 _ rfl
   replace g1 : DataW.trod enc Tryz.prog W 0 (fun _ => true) true n1 23 (List.take (Tryz.prog.cellsOf 23) (List.drop 1 [c0, c1, c2, c3, c4])) = some y1 := g1
   rw [show Tryz.prog.cellsOf 23 = 1 by kernel_rfl] at g1
   replace g1 : DataW.trod enc Tryz.prog W 0 (fun _ => true) true n1 23 [c1] = some y1 := g1
   obtain ⟨n2, y2, g2⟩ := Go.Px.trod_field Tryz.underlying95 h 2 _ rfl
   replace g2 : DataW.trod enc Tryz.prog W 0 (fun _ => true) true n2 4 (List.take (Tryz.prog.cellsOf 4) (List.drop 2 [c0, c1, c2, c3, c4])) = some y2 := g2
   rw [show Tryz.prog.cellsOf 4 = 1 by kernel_rfl] at g2
   replace g2 : DataW.trod enc Tryz.prog W 0 (fun _ => true) true n2 4 [c2] = some y2 := g2
   obtain ⟨n3, y3, g3⟩ := Go.Px.trod_field Tryz.underlying95 h 3 _ rfl
   replace g3 : DataW.trod enc Tryz.prog W 0 (fun _ => true) true n3 5 (List.take (Tryz.prog.cellsOf 5) (List.drop 3 [c0, c1, c2, c3, c4])) = some y3 := g3
   rw [show Tryz.prog.cellsOf 5 = 1 by kernel_rfl] at g3
   replace g3 : DataW.trod enc Tryz.prog W 0 (fun _ => true) true n3 5 [c3] = some y3 := g3
   obtain ⟨n4, y4, g4⟩ := Go.Px.trod_field Tryz.underlying95 h 4 _ rfl
   replace g4 : DataW.trod enc Tryz.prog W 0 (fun _ => true) true n4 5 (List.take (Tryz.prog.cellsOf 5) (List.drop 4 [c0, c1, c2, c3, c4])) = some y4 := g4
   rw [show Tryz.prog.cellsOf 5 = 1 by kernel_rfl] at g4
   replace g4 : DataW.trod enc Tryz.prog W 0 (fun _ => true) true n4 5 [c4] = some y4 := g4
   obtain ⟨v0, rfl, u0⟩ := Go.Px.trod_int Tryz.underlying5 g0
   obtain ⟨va1, vl1, vc1, rfl, hT1⟩ := Go.Px.trod_sl Tryz.underlying23 g1
   have u1 := Go.Px.rowOf_trod (α := Int) (fun xe => [.int .u8 xe]) (fun xe => (Lit.int .u8 xe).wf = true) Tryz.underlying23 (by
    intro n cs x h hl
    obtain ⟨c, rfl⟩ := Go.Px.trod_len Tryz.underlying5 rfl h
    obtain ⟨m, rfl, w⟩ := Go.Px.trod_int Tryz.underlying5 h
    exact ⟨m, rfl, w⟩
    ) hT1
   rw [show Tryz.prog.cellsOf 5 = 1 by kernel_rfl] at u1
   obtain ⟨v2, rfl⟩ := Go.Px.trod_bool Tryz.underlying4 g2
   obtain ⟨v3, rfl, u3⟩ := Go.Px.trod_int Tryz.underlying5 g3
   obtain ⟨v4, rfl, u4⟩ := Go.Px.trod_int Tryz.underlying5 g4
   exact ⟨⟨v0, ⟨va1, vl1, vc1⟩, v2, v3, v4⟩, rfl, u0, u1, trivial, u3, u4⟩
   ) hT2
  rw [show Tryz.prog.cellsOf 95 = 5 by kernel_rfl] at u2
  exact ⟨⟨v0, v1, ⟨va2, vl2, vc2⟩⟩, rfl, u0, u1, u2⟩
  ) k1
 rw [show Tryz.prog.cellsOf 73 = 3 by kernel_rfl] at w1
 have z1 := Go.Px.weight_of 1 hsz rfl rfl Tryz.underlying70 (by decide +kernel) k1
 obtain ⟨a2, len2, cap2, rfl⟩ := okWide_slice Tryz.underlying71 (hval 2 71 v2 rfl rfl)
 have k2 := h2
 have lt2 : ∀ x ∈ p2, x.block < W.heap.size := by obtain ⟨m, hm⟩ := k2; exact DataW.trod_lt m _ _ _ hm
 have w2 := Go.Px.rowOf_trod (α := Bool × (Option Addr × Nat × Nat) × (Option Addr × Nat × Nat) × (Option Addr × Nat × Nat) × (Option Addr × Nat × Nat) × (Option Addr × Nat × Nat)) (fun x => [.bool x.1, .slice x.2.1.1 x.2.1.2.1 x.2.1.2.2, .slice x.2.2.1.1 x.2.2.1.2.1 x.2.2.1.2.2, .slice x.2.2.2.1.1 x.2.2.2.1.2.1 x.2.2.2.1.2.2, .slice x.2.2.2.2.1.1 x.2.2.2.2.1.2.1 x.2.2.2.2.1.2.2, .slice x.2.2.2.2.2.1 x.2.2.2.2.2.2.1 x.2.2.2.2.2.2.2]) (fun x => True /\ (x.2.1.2.1 <= x.2.1.2.2 /\ x.2.1.2.2 <= maxLen /\ ∃ ys : List (Int), Go.Px.SlIn (Go.Px.imW W) x.2.1.1 x.2.1.2.1 1 (fun xe => [.int .u8 xe]) ys /\ ∀ y ∈ ys, (fun xe => (Lit.int .u8 xe).wf = true) y) /\ (x.2.2.1.2.1 <= x.2.2.1.2.2 /\ x.2.2.1.2.2 <= maxLen /\ ∃ ys : List (Int), Go.Px.SlIn (Go.Px.imW W) x.2.2.1.1 x.2.2.1.2.1 1 (fun xe => [.int .u8 xe]) ys /\ ∀ y ∈ ys, (fun xe => (Lit.int .u8 xe).wf = true) y) /\ (x.2.2.2.1.2.1 <= x.2.2.2.1.2.2 /\ x.2.2.2.1.2.2 <= maxLen /\ ∃ ys : List ((Option Addr × Nat × Nat)), Go.Px.SlIn (Go.Px.imW W) x.2.2.2.1.1 x.2.2.2.1.2.1 1 (fun xe => [.slice xe.1 xe.2.1 xe.2.2]) ys /\ ∀ y ∈ ys, (fun xe => (xe.2.1 <= xe.2.2 /\ xe.2.2 <= maxLen /\ ∃ ys : List (Int), Go.Px.SlIn (Go.Px.imW W) xe.1 xe.2.1 1 (fun xe => [.int .u8 xe]) ys /\ ∀ y ∈ ys, (fun xe => (Lit.int .u8 xe).wf = true) y)) y) /\ (x.2.2.2.2.1.2.1 <= x.2.2.2.2.1.2.2 /\ x.2.2.2.2.1.2.2 <= maxLen /\ ∃ ys : List ((Option Addr × Nat × Nat)), Go.Px.SlIn (Go.Px.imW W) x.2.2.2.2.1.1 x.2.2.2.2.1.2.1 1 (fun xe => [.slice xe.1 xe.2.1 xe.2.2]) ys /\ ∀ y ∈ ys, (fun xe => (xe.2.1 <= xe.2.2 /\ xe.2.2 <= maxLen /\ ∃ ys : List (Int), Go.Px.SlIn (Go.Px.imW W) xe.1 xe.2.1 1 (fun xe => [.int .u8 xe]) ys /\ ∀ y ∈ ys, (fun xe => (Lit.int .u8 xe).wf = true) y)) y) /\ (x.2.2.2.2.2.2.1 <= x.2.2.2.2.2.2.2 /\ x.2.2.2.2.2.2.2 <= maxLen /\ ∃ ys : List ((Option Addr × Nat × Nat)), Go.Px.SlIn (Go.Px.imW W) x.2.2.2.2.2.1 x.2.2.2.2.2.2.1 1 (fun xe => [.slice xe.1 xe.2.1 xe.2.2]) ys /\ ∀ y ∈ ys, (fun xe => (xe.2.1 <= xe.2.2 /\ xe.2.2 <= maxLen /\ ∃ ys : List (Int), Go.Px.SlIn (Go.Px.imW W) xe.1 xe.2.1 1 (fun xe => [.int .u8 xe]) ys /\ ∀ y ∈ ys, (fun xe => (Lit.int .u8 xe).wf = true) y)) y)) Tryz.underlying71 (by
  intro n cs x h hl
  have hl' : cs.length = 6 := hl.trans (by kernel_rfl)
  obtain ⟨c0, c1, c2, c3, c4, c5, rfl⟩ : ∃ c0 c1 c2 c3 c4 c5, cs = [c0, c1, c2, c3, c4, c5] := by
   match cs, hl' with
   | [c0, c1, c2, c3, c4, c5], _ => exact ⟨c0, c1, c2, c3, c4, c5, rfl⟩
  obtain ⟨n0, y0, g0⟩ := Go.Px.trod_field Tryz.underlying26 h 0 _ rfl
  replace g0 : DataW.trod enc Tryz.prog W 0 (fun _ => true) true n0 4 (List.take (Tryz.prog.cellsOf 4) (List.drop 0 [c0, c1, c2, c3, c4, c5])) = some y0 := g0
  rw [show Tryz.prog.cellsOf 4 = 1 by kernel_rfl] at g0
  replace g0 : DataW.trod enc Tryz.prog W 0 (fun _ => true) true n0 4 [c0] = some y0 := g0
  obtain ⟨n1, y1, g1⟩ := Go.Px.trod_field Tryz.underlying26 h 1 _ rfl
  replace g1 : DataW.trod enc Tryz.prog W 0 (fun _ => true) true n1 23 (List.take (Tryz.prog.cellsOf 23) (List.drop 1 [c0, c1, c2, c3, c4, c5])) = some y1 := g1
  rw [show Tryz.prog.cellsOf 23 = 1 by kernel_rfl] at g1
  replace g1 : DataW.trod enc Tryz.prog W 0 (fun _ => true) true n1 23 [c1] = some y1 := g1
  obtain ⟨n2, y2, g2⟩ := Go.Px.trod_field Tryz.underlying26 h 2 _ rfl
  replace g2 : DataW.trod enc Tryz.prog W 0 (fun _ => true) true n2 23 (List.take (Tryz.prog.cellsOf 23) (List.drop 2 [c0, c1, c2, c3, c4, c5])) = some y2 := g2
  rw [show Tryz.prog.cellsOf 23 = 1 by kernel_rfl] at g2
  replace g2 : DataW.trod enc Tryz.prog W 0 (fun _ => true) true n2 23 [c2] = some y2 := g2
  obtain ⟨n3, y3, g3⟩ := Go.Px.trod_field Tryz.underlying26 h 3 _ rfl
  replace g3 : DataW.trod enc Tryz.prog W 0 (fun _ => true) true n3 24 (List.take (Tryz.prog.cellsOf 24) (List.drop 3 [c0, c1, c2, c3, c4, c5])) = some y3 := g3
  rw [show Tryz.prog.cellsOf 24 = 1 by kernel_rfl] at g3
  replace g3 : DataW.trod enc Tryz.prog W 0 (fun _ => true) true n3 24 [c3] = some y3 := g3
  obtain ⟨n4, y4, g4⟩ := Go.Px.trod_field Tryz.underlying26 h 4 _ rfl
  replace g4 : DataW.trod enc Tryz.prog W 0 (fun _ => true) true n4 24 (List.take (Tryz.prog.cellsOf 24) (List.drop 4 [c0, c1, c2, c3, c4, c5])) = some y4 := g4
  rw [show Tryz.prog.cellsOf 24 = 1 by kernel_rfl] at g4
  replace g4 : DataW.trod enc Tryz.prog W 0 (fun _ => true) true n4 24 [c4] = some y4 := g4
  obtain ⟨n5, y5, g5⟩ := Go.Px.trod_field Tryz.underlying26 h 5 _ rfl
  replace g5 : DataW.trod enc Tryz.prog W 0 (fun _ => true) true n5 24 (List.take (Tryz.prog.cellsOf 24) (List.drop 5 [c0, c1, c2, c3, c4, c5])) = some y5 := g5
  rw [show Tryz.prog.cellsOf 24 = 1 by kernel_rfl] at g5
  replace g5 : DataW.trod enc Tryz.prog W 0 (fun _ => true) true n5 24 [c5] = some y5 := g5
  obtain ⟨v0, rfl⟩ := Go.Px.trod_bool Tryz.underlying4 g0
  obtain ⟨va1, vl1, vc1, rfl, hT1⟩ := Go.Px.trod_sl Tryz.underlying23 g1
  have u1 := Go.Px.rowOf_trod (α := Int) (fun xe => [.int .u8 xe]) (fun xe => (Lit.int .u8 xe).wf = true) Tryz.underlying23 (by
   intro n cs x h hl
   obtain ⟨c, rfl⟩ := Go.Px.trod_len Tryz.underlying5 rfl h
   obtain ⟨m, rfl, w⟩ := Go.Px.trod_int Tryz.underlying5 h
   exact ⟨m, rfl, w⟩
   ) hT1
  rw [show Tryz.prog.cellsOf 5 = 1 by kernel_rfl] at u1
  obtain ⟨va2, vl2, vc2, rfl, hT2⟩ := Go.Px.trod_sl Tryz.underlying23 g2
  have u2 := Go.Px.rowOf_trod (α := Int) (fun xe => [.int .u8 xe]) (fun xe => (Lit.int .u8 xe).wf = true) Tryz.underlying23 (by
   intro n cs x h hl
   obtain ⟨c, rfl⟩ := Go.Px.trod_len Tryz.underlying5 rfl h
   obtain ⟨m, rfl, w⟩ := Go.Px.trod_int Tryz.underlying5 h
   exact ⟨m, rfl, w⟩
   ) hT2
  rw [show Tryz.prog.cellsOf 5 = 1 by kernel_rfl] at u2
  obtain ⟨va3, vl3, vc3, rfl, hT3⟩ := Go.Px.trod_sl Tryz.underlying24 g3
  have u3 := Go.Px.rowOf_trod (α := (Option Addr × Nat × Nat)) (fun xe => [.slice xe.1 xe.2.1 xe.2.2]) (fun xe => (xe.2.1 <= xe.2.2 /\ xe.2.2 <= maxLen /\ ∃ ys : List (Int), Go.Px.SlIn (Go.Px.imW W) xe.1 xe.2.1 1 (fun xe => [.int .u8 xe]) ys /\ ∀ y ∈ ys, (fun xe => (Lit.int .u8 xe).wf = true) y)) Tryz.underlying24 (by
   intro n cs x h hl
   obtain ⟨c, rfl⟩ := Go.Px.trod_len Tryz.underlying23 rfl h
   obtain ⟨va, vl, vc, rfl, hT⟩ := Go.Px.trod_sl Tryz.underlying23 h
   have u := Go.Px.rowOf_trod (α := Int) (fun xe => [.int .u8 xe]) (fun xe => (Lit.int .u8 xe).wf = true) Tryz.underlying23 (by
    intro n cs x h hl
    obtain ⟨c, rfl⟩ := Go.Px.trod_len Tryz.underlying5 rfl h
    obtain ⟨m, rfl, w⟩ := Go.Px.trod_int Tryz.underlying5 h
    exact ⟨m, rfl, w⟩
    ) hT
   rw [show Tryz.prog.cellsOf 5 = 1 by kernel_rfl] at u
   exact ⟨⟨va, vl, vc⟩, rfl, u⟩
   ) hT3
  rw [show Tryz.prog.cellsOf 23 = 1 by kernel_rfl] at u3
  obtain ⟨va4, vl4, vc4, rfl, hT4⟩ := Go.Px.trod_sl Tryz.underlying24 g4
  have u4 := Go.Px.rowOf_trod (α := (Option Addr × Nat × Nat)) (fun xe => [.slice xe.1 xe.2.1 xe.2.2]) (fun xe => (xe.2.1 <= xe.2.2 /\ xe.2.2 <= maxLen /\ ∃ ys : List (Int), Go.Px.SlIn (Go.Px.imW W) xe.1 xe.2.1 1 (fun xe => [.int .u8 xe]) ys /\ ∀ y ∈ ys, (fun xe => (Lit.int .u8 xe).wf = true) y)) Tryz.underlying24 (by
   intro n cs x h hl
   obtain ⟨c, rfl⟩ := Go.Px.trod_len Tryz.underlying23 rfl h
   obtain ⟨va, vl, vc, rfl, hT⟩ := Go.Px.trod_sl Tryz.underlying23 h
   have u := Go.Px.rowOf_trod (α := Int) (fun xe => [.int .u8 xe]) (fun xe => (Lit.int .u8 xe).wf = true) Tryz.underlying23 (by
    intro n cs x h hl
    obtain ⟨c, rfl⟩ := Go.Px.trod_len Tryz.underlying5 rfl h
    obtain ⟨m, rfl, w⟩ := Go.Px.trod_int Tryz.underlying5 h
    exact ⟨m, rfl, w⟩
    ) hT
   rw [show Tryz.prog.cellsOf 5 = 1 by kernel_rfl] at u
   exact ⟨⟨va, vl, vc⟩, rfl, u⟩
   ) hT4
  rw [show Tryz.prog.cellsOf 23 = 1 by kernel_rfl] at u4
  obtain ⟨va5, vl5, vc5, rfl, hT5⟩ := Go.Px.trod_sl Tryz.underlying24 g5
  have u5 := Go.Px.rowOf_trod (α := (Option Addr × Nat × Nat)) (fun xe => [.slice xe.1 xe.2.1 xe.2.2]) (fun xe => (xe.2.1 <= xe.2.2 /\ xe.2.2 <= maxLen /\ ∃ ys : List (Int), Go.Px.SlIn (Go.Px.imW W) xe.1 xe.2.1 1 (fun xe => [.int .u8 xe]) ys /\ ∀ y ∈ ys, (fun xe => (Lit.int .u8 xe).wf = true) y)) Tryz.underlying24 (by
   intro n cs x h hl
   obtain ⟨c, rfl⟩ := Go.Px.trod_len Tryz.underlying23 rfl h
   obtain ⟨va, vl, vc, rfl, hT⟩ := Go.Px.trod_sl Tryz.underlying23 h
   have u := Go.Px.rowOf_trod (α := Int) (fun xe => [.int .u8 xe]) (fun xe => (Lit.int .u8 xe).wf = true) Tryz.underlying23 (by
    intro n cs x h hl
    obtain ⟨c, rfl⟩ := Go.Px.trod_len Tryz.underlying5 rfl h
    obtain ⟨m, rfl, w⟩ := Go.Px.trod_int Tryz.underlying5 h
    exact ⟨m, rfl, w⟩
    ) hT
   rw [show Tryz.prog.cellsOf 5 = 1 by kernel_rfl] at u
   exact ⟨⟨va, vl, vc⟩, rfl, u⟩
   ) hT5
  rw [show Tryz.prog.cellsOf 23 = 1 by kernel_rfl] at u5
  exact ⟨⟨v0, ⟨va1, vl1, vc1⟩, ⟨va2, vl2, vc2⟩, ⟨va3, vl3, vc3⟩, ⟨va4, vl4, vc4⟩, ⟨va5, vl5, vc5⟩⟩, rfl, trivial, u1, u2, u3, u4, u5⟩
  ) k2
 rw [show Tryz.prog.cellsOf 26 = 6 by kernel_rfl] at w2
 have z2 := Go.Px.weight_of 2 hsz rfl rfl Tryz.underlying71 (by decide +kernel) k2
 clear hA0 hval0 hsz0 hsz
 refine (Go.Px.Runs.below (He W hg a0 len0 cap0 a1 len1 cap1 a2 len2 cap2 w0 z0 w1 z1 w2 z2)).mono fun e W' ⟨he, bel⟩ => ?_
 subst he
 exact ⟨_, rfl, _, _, _, [], _, [], hW', trodAll_mk1 (shut_bool Tryz.underlying4 _), (trodAll_cons_mk (Below.trod laidOut (by kernel_rfl) (of_decide_eq_true (by kernel_rfl)) k0 bel lt0) (trodAll_cons_mk (Below.trod laidOut (by kernel_rfl) (of_decide_eq_true (by kernel_rfl)) k1 bel lt1) (trodAll_cons_mk (Below.trod laidOut (by kernel_rfl) (of_decide_eq_true (by kernel_rfl)) k2 bel lt2) trodAll_mk0))), rfl, bel.frame _, fun h => by cases h⟩
theorem over : Rows.engineScriptRow.holds Tryz.pinned (OpenSpec.ofChange Rows.engineScriptSpec) :=
 OpenClaim.holds_of_wide 7 Tryz.f7 rfl rfl rfl rfl rfl rfl rfl ⟨rfl, rfl, rfl, rfl, rfl⟩ rfl rfl rfl rfl rfl (by kernel_rfl) Tryz.func7 (by kernel_rfl)
  (of_decide_eq_true (by kernel_rfl)) (by unfold Func.isWrapper; first | (rw [if_pos (by decide +kernel)]; kernel_rfl) | (rw [if_neg (by decide +kernel)]; exact ⟨rfl, rfl⟩))
  (fun os started H enc _ => lifted os started H enc)
theorem proved : Rows.EngineScriptCardSaid :=
 Claim7.holds_tied_plain_at .later [] [.data, .data, .data, .sentinel, .sentinel] true (true, "564d382dd431c48224a1f1bbcd10dc27733122982130fcdba79a01edd12d630f") true
  over (fun _ h => by cases h) (by kernel_rfl) (fun _ h => by cases h) engineScript_row_tie rfl ⟨rfl, rfl⟩ (by kernel_rfl) rfl
  (fun f fn hf hfn => by
   obtain rfl : f = 7 := Option.some.inj ((show Tryz.prog.funcNamed "bolter/bolterlaw20.EngineScript" = some 7 by kernel_rfl).symm.trans hf) |>.symm
   obtain rfl : fn = Tryz.f7 := (Option.some.inj (Tryz.func7.symm.trans hfn)).symm
   exact ⟨by kernel_rfl, fun j t ht => by
    rw [Tryz.params7] at ht
    match j, ht with
    | 0, ht =>
     have h : t = 23 := by simpa using ht.symm
     subst h
     exact (show Tryz.prog.wantsStandIn 23 = false by kernel_rfl)
    | 1, ht =>
     have h : t = 70 := by simpa using ht.symm
     subst h
     exact (show Tryz.prog.wantsStandIn 70 = false by kernel_rfl)
    | 2, ht =>
     have h : t = 71 := by simpa using ht.symm
     subst h
     exact (show Tryz.prog.wantsStandIn 71 = false by kernel_rfl)
    | j + 3, ht => simp at ht⟩)
  (by kernel_rfl)
end Go.Proofs.YtoiilcdaldnjfaaGreatDoor.engineScript
namespace Go.Proofs.YtoiilcdaldnjfaaGreatDoor
theorem engineScript_holds : Rows.EngineScriptCardSaid := engineScript.proved
#print axioms engineScript_holds
end Go.Proofs.YtoiilcdaldnjfaaGreatDoor
