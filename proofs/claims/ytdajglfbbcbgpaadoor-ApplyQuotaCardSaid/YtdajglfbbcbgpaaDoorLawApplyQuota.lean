/- ApplyQuota: for every input the law returns true, and its arguments read afterwards as they read before. No condition. -/
import Derived.Test.YtdajglfbbcbgpaaDoorRows
import Derived.Test.YtdajglfbbcbgpaaDoorYr4
import Derived.Test.YtdajglfbbcbgpaaDoorPx8
import Derived.WalkKit
import Derived.ProofKit
import Derived.OpenShut
import Derived.ShutString
import Derived.ChangeOld
import Derived.Below
import Derived.SizedLaws
import Derived.Test.YtdajglfbbcbgpaaDoorEr3
import Derived.Test.YtdajglfbbcbgpaaDoorCards
import Derived.Test.YtdajglfbbcbgpaaDoorTie
import Derived.SevenTiedAt
namespace Go.Proofs.YtdajglfbbcbgpaaDoor.applyQuota
open Go.ChangeShapes Go.WideShapes Go.ChangeAt Go.RowKit
open Go.ChangeMaps (open_string shut_string)
set_option linter.unusedVariables false
theorem own : ownKnob Tryd.prog.godebug = none := by kernel_rfl
set_option maxRecDepth 100000 in
theorem lifted (os : Os) (started : os.Started) (H : Type) (enc : TypeId × Value → H) :
    ReturnsInHanded {} Tryd.checked os 8 .any (fun w args => (Rows.applyQuotaSpec.pre enc Tryd.prog Tryd.f8 Rows.applyQuotaRow.domain false w args ∧ laidMetH Tryd.prog LaidL w) ∧ sizedMet enc Tryd.prog Tryd.f8 (OpenSpec.ofChange Rows.applyQuotaSpec) false w args) (Rows.applyQuotaSpec.post enc Tryd.prog Tryd.f8 false true false false) := by
  refine returnsInHanded_of_change_and (C := Tryd.checked) (X := fun w _ => laidMetH Tryd.prog LaidL w) (fun _ _ _ hh h => h.of_heap hh) own started (by kernel_rfl) Tryd.func8
    (ChangeSpec.witness_at (enc := enc) (C := Tryd.checked) (os := os) (X := fun w _ => laidMetH Tryd.prog LaidL w) false (laidWorld os) #[.int .u16 0, .int .u8 0] 8 rfl (by kernel_rfl) (by kernel_rfl) (by kernel_rfl) (by kernel_rfl) (by kernel_rfl) (laidWorld_met os _)) ?_
  intro W base args ds gs before hval0 hW hcnd hsz0 hL _
  have hg := handle_of_laid hL
  have hsz : (DataW.weightsEach Tryd.prog (Tryd.f8.params.toList ++ Rows.applyQuotaSpec.plain.varTypes Tryd.prog) (ds ++ gs)).all (· ≤ reachBytes) = true := hsz0
  have hval : ∀ (j : Nat) t v, Tryd.f8.params[j]? = some t → args[j]? = some v → Value.okWide Tryd.prog W .any base t v := hval0
  have hW' := hW
  obtain ⟨p, q, hA0, hV, rfl, hfz, hnd⟩ := hW
  have hA : DataW.TrodAll enc Tryd.prog W 0 (fun _ => true) true Tryd.f8.params.toList args.toList ds p := hA0
  rw [Tryd.params8] at hA hval hsz
  obtain ⟨v0, vs0, d0, ds0, p0, q0, hargs, rfl, rfl, h0, r0⟩ := trodAll_cons hA
  obtain ⟨v1, vs1, d1, ds1, p1, q1, rfl, rfl, rfl, h1, r1⟩ := trodAll_cons r0
  obtain ⟨rfl, rfl, rfl⟩ := trodAll_nil r1
  obtain rfl : args = #[v0, v1] := by cases args; simp_all
  obtain ⟨rfl, rfl⟩ := trodVars_none hV
  obtain ⟨a0, rfl, rfl, rfl, w0⟩ := open_int Tryd.underlying33 (hval 0 33 v0 rfl rfl) h0
  obtain ⟨a1, rfl, rfl, rfl, w1⟩ := open_int Tryd.underlying5 (hval 1 5 v1 rfl rfl) h1
  clear hA0 hval0 hsz0 hsz
  refine (Go.Px.Runs.below (ApplyQuota_row W hg a0 a1 w0 w1)).mono fun e W' ⟨he, bel⟩ => ?_
  subst he
  exact ⟨_, rfl, _, _, _, [], _, [], hW', trodAll_mk1 (shut_bool Tryd.underlying4 _), (trodAll_cons_mk (shut_int Tryd.underlying33 w0) (trodAll_cons_mk (shut_int Tryd.underlying5 w1) trodAll_mk0)), rfl, bel.frame _, fun h => by cases h⟩
theorem over : Rows.applyQuotaRow.holds Tryd.pinned (OpenSpec.ofChange Rows.applyQuotaSpec) :=
  OpenClaim.holds_of_wide 8 Tryd.f8 rfl rfl rfl rfl rfl rfl rfl ⟨rfl, rfl, rfl, rfl, rfl⟩ rfl rfl rfl rfl rfl (by kernel_rfl) Tryd.func8 (by kernel_rfl)
    (of_decide_eq_true (by kernel_rfl)) (by unfold Func.isWrapper; first | (rw [if_pos (by decide +kernel)]; kernel_rfl) | (rw [if_neg (by decide +kernel)]; exact ⟨rfl, rfl⟩))
    (fun os started H enc _ => lifted os started H enc)
theorem proved : Rows.ApplyQuotaCardSaid :=
  Claim7.holds_tied_plain_at .later [] [.handle] true (true, "a12128b3625d938c4a78380329e1d4718852546533b91d37352ef6041dbabd86") true
    over (fun _ h => by cases h) (by kernel_rfl) (fun _ h => by cases h) applyQuota_row_tie rfl ⟨rfl, rfl⟩ (by kernel_rfl) rfl
    (fun f fn hf hfn => by
      obtain rfl : f = 8 := Option.some.inj ((show Tryd.prog.funcNamed "bolter/bolterlaw10.ApplyQuota" = some 8 by kernel_rfl).symm.trans hf) |>.symm
      obtain rfl : fn = Tryd.f8 := (Option.some.inj (Tryd.func8.symm.trans hfn)).symm
      exact ⟨by kernel_rfl, fun j t ht => by
        rw [Tryd.params8] at ht
        match j, ht with
        | 0, ht =>
          have h : t = 33 := by simpa using ht.symm
          subst h
          exact (show Tryd.prog.wantsStandIn 33 = false by kernel_rfl)
        | 1, ht =>
          have h : t = 5 := by simpa using ht.symm
          subst h
          exact (show Tryd.prog.wantsStandIn 5 = false by kernel_rfl)
        | j + 2, ht => simp at ht⟩)
    (by kernel_rfl)
end Go.Proofs.YtdajglfbbcbgpaaDoor.applyQuota
namespace Go.Proofs.YtdajglfbbcbgpaaDoor
/-- The tied card, under a short name. -/
theorem applyQuota_holds : Rows.ApplyQuotaCardSaid := applyQuota.proved
#print axioms applyQuota_holds
end Go.Proofs.YtdajglfbbcbgpaaDoor
