/- EngineMany: for every input the law returns true, and its arguments read afterwards as they read before. No condition. -/
import Derived.Test.YtoiilcdaldnjfaaGreatDoorRows
import Derived.Test.YtoiilcdaldnjfaaGreatDoorM1EngineMany
import Derived.Test.YtoiilcdaldnjfaaGreatDoorM2EngineMany
import Derived.Test.YtoiilcdaldnjfaaGreatDoorM3EngineMany
import Derived.Test.YtoiilcdaldnjfaaGreatDoorM4EngineMany
import Derived.Test.YtoiilcdaldnjfaaGreatDoorM5EngineMany
import Derived.Test.YtoiilcdaldnjfaaGreatDoorM6EngineMany
import Derived.Test.YtoiilcdaldnjfaaGreatDoorM7EngineMany
import Derived.WalkKit
import Derived.ProofKit
import Derived.OpenShut
import Derived.ShutString
import Derived.ChangeOld
import Derived.Below
import Derived.SizedLaws
import Derived.Test.YtoiilcdaldnjfaaGreatDoorCards
import Derived.Test.YtoiilcdaldnjfaaGreatDoorTie
import Derived.SevenTiedAt
namespace Go.Proofs.YtoiilcdaldnjfaaGreatDoor.engineMany
open Go.ChangeShapes Go.WideShapes Go.ChangeAt Go.RowKit
open Go.ChangeMaps (open_string shut_string)
set_option linter.unusedVariables false
theorem own : ownKnob Tryz.prog.godebug = none := by kernel_rfl
set_option maxRecDepth 100000 in
theorem lifted (os : Os) (started : os.Started) (H : Type) (enc : TypeId × Value → H) :
    ReturnsInHanded {} Tryz.checked os 4 .any (fun w args => (Rows.engineManySpec.pre enc Tryz.prog Tryz.f4 Rows.engineManyRow.domain false w args ∧ laidMetH Tryz.prog LaidL w) ∧ sizedMet enc Tryz.prog Tryz.f4 (OpenSpec.ofChange Rows.engineManySpec) false w args) (Rows.engineManySpec.post enc Tryz.prog Tryz.f4 false true false false) := by
  refine returnsInHanded_of_change_and (C := Tryz.checked) (X := fun w _ => laidMetH Tryz.prog LaidL w) (fun _ _ _ hh h => h.of_heap hh) own started (by kernel_rfl) Tryz.func4
    (ChangeSpec.witness_shaped (enc := enc) (C := Tryz.checked) (os := os) (X := fun w _ => laidMetH Tryz.prog LaidL w) false (laidWorld os) #[.int .u8 0, .int .i64 0] 8 (laidWorld_os os) (laidWorld_shaped os _) (by kernel_rfl) (by kernel_rfl) (by kernel_rfl) (laidWorld_met os _)) ?_
  intro W base args ds gs before hval0 hW hcnd hsz0 hL _
  have hg := handle_of_laid hL
  have hsz : (DataW.weightsEach Tryz.prog (Tryz.f4.params.toList ++ Rows.engineManySpec.plain.varTypes Tryz.prog) (ds ++ gs)).all (· ≤ reachBytes) = true := hsz0
  have hval : ∀ (j : Nat) t v, Tryz.f4.params[j]? = some t → args[j]? = some v → Value.okWide Tryz.prog W .any base t v := hval0
  have hW' := hW
  obtain ⟨p, q, hA0, hV, rfl, hfz, hnd⟩ := hW
  have hA : DataW.TrodAll enc Tryz.prog W 0 (fun _ => true) true Tryz.f4.params.toList args.toList ds p := hA0
  rw [Tryz.params4] at hA hval hsz
  obtain ⟨v0, vs0, d0, ds0, p0, q0, hargs, rfl, rfl, h0, r0⟩ := trodAll_cons hA
  obtain ⟨v1, vs1, d1, ds1, p1, q1, rfl, rfl, rfl, h1, r1⟩ := trodAll_cons r0
  obtain ⟨rfl, rfl, rfl⟩ := trodAll_nil r1
  obtain rfl : args = #[v0, v1] := by cases args; simp_all
  obtain ⟨rfl, rfl⟩ := trodVars_none hV
  obtain ⟨a0, rfl, rfl, rfl, w0⟩ := open_int Tryz.underlying5 (hval 0 5 v0 rfl rfl) h0
  obtain ⟨a1, rfl, rfl, rfl, w1⟩ := open_int Tryz.underlying3 (hval 1 3 v1 rfl rfl) h1
  clear hA0 hval0 hsz0 hsz
  refine (Go.Px.Runs.below (EngineMany_row W hg a0 a1 w0 w1)).mono fun e W' ⟨he, bel⟩ => ?_
  subst he
  exact ⟨_, rfl, _, _, _, [], _, [], hW', trodAll_mk1 (shut_bool Tryz.underlying4 _), (trodAll_cons_mk (shut_int Tryz.underlying5 w0) (trodAll_cons_mk (shut_int Tryz.underlying3 w1) trodAll_mk0)), rfl, bel.frame _, fun h => by cases h⟩
theorem over : Rows.engineManyRow.holds Tryz.pinned (OpenSpec.ofChange Rows.engineManySpec) :=
  OpenClaim.holds_of_wide 4 Tryz.f4 rfl rfl rfl rfl rfl rfl rfl ⟨rfl, rfl, rfl, rfl, rfl⟩ rfl rfl rfl rfl rfl (by kernel_rfl) Tryz.func4 (by kernel_rfl)
    (of_decide_eq_true (by kernel_rfl)) (by unfold Func.isWrapper; first | (rw [if_pos (by decide +kernel)]; kernel_rfl) | (rw [if_neg (by decide +kernel)]; exact ⟨rfl, rfl⟩))
    (fun os started H enc _ => lifted os started H enc)
theorem proved : Rows.EngineManyCardSaid :=
  Claim7.holds_tied_plain_at .later [] [.data, .data, .data, .sentinel, .sentinel] true (true, "564d382dd431c48224a1f1bbcd10dc27733122982130fcdba79a01edd12d630f") true
    over (fun _ h => by cases h) (by kernel_rfl) (fun _ h => by cases h) engineMany_row_tie rfl ⟨rfl, rfl⟩ (by kernel_rfl) rfl
    (fun f fn hf hfn => by
      obtain rfl : f = 4 := Option.some.inj ((show Tryz.prog.funcNamed "bolter/bolterlaw20.EngineMany" = some 4 by kernel_rfl).symm.trans hf) |>.symm
      obtain rfl : fn = Tryz.f4 := (Option.some.inj (Tryz.func4.symm.trans hfn)).symm
      exact ⟨by kernel_rfl, fun j t ht => by
        rw [Tryz.params4] at ht
        match j, ht with
        | 0, ht =>
          have h : t = 5 := by simpa using ht.symm
          subst h
          exact (show Tryz.prog.wantsStandIn 5 = false by kernel_rfl)
        | 1, ht =>
          have h : t = 3 := by simpa using ht.symm
          subst h
          exact (show Tryz.prog.wantsStandIn 3 = false by kernel_rfl)
        | j + 2, ht => simp at ht⟩)
    (by kernel_rfl)
end Go.Proofs.YtoiilcdaldnjfaaGreatDoor.engineMany
namespace Go.Proofs.YtoiilcdaldnjfaaGreatDoor
/-- The tied card, under a short name. -/
theorem engineMany_holds : Rows.EngineManyCardSaid := engineMany.proved
#print axioms engineMany_holds
end Go.Proofs.YtoiilcdaldnjfaaGreatDoor
