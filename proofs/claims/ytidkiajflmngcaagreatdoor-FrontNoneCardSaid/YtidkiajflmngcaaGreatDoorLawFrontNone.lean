/- FrontNone: for every input the law returns true, and its arguments read afterwards as they read before. No condition. -/
import Derived.Test.YtidkiajflmngcaaGreatDoorRows
import Derived.Test.YtidkiajflmngcaaGreatDoorM1FrontNone
import Derived.Test.YtidkiajflmngcaaGreatDoorM2FrontNone
import Derived.Test.YtidkiajflmngcaaGreatDoorM3FrontNone
import Derived.WalkKit
import Derived.ProofKit
import Derived.OpenShut
import Derived.ShutString
import Derived.ChangeOld
import Derived.Below
import Derived.SizedLaws
import Derived.Test.YtidkiajflmngcaaGreatDoorCards
import Derived.Test.YtidkiajflmngcaaGreatDoorTie
import Derived.SevenTiedAt
namespace Go.Proofs.YtidkiajflmngcaaGreatDoor.frontNone
open Go.ChangeShapes Go.WideShapes Go.ChangeAt Go.RowKit
open Go.ChangeMaps (open_string shut_string)
set_option linter.unusedVariables false
theorem own : ownKnob Tryz.prog.godebug = none := by kernel_rfl
theorem laidOut : laidOutB Tryz.prog = true := by kernel_rfl
set_option maxRecDepth 100000 in
theorem lifted (os : Os) (started : os.Started) (H : Type) (enc : TypeId × Value -> H) :
  ReturnsInHanded {} Tryz.checked os 3 .any (fun w args => (Rows.frontNoneSpec.pre enc Tryz.prog Tryz.f3 Rows.frontNoneRow.domain false w args /\ laidMetH Tryz.prog ET w) /\ sizedMet enc Tryz.prog Tryz.f3 (OpenSpec.ofChange Rows.frontNoneSpec) false w args) (Rows.frontNoneSpec.post enc Tryz.prog Tryz.f3 false true false false) := by
 refine returnsInHanded_of_change_and (C := Tryz.checked) (X := fun w _ => laidMetH Tryz.prog ET w) (fun _ _ _ hh h => h.of_heap hh) own started (by kernel_rfl) Tryz.func3
  (ChangeSpec.witness_shaped (enc := enc) (C := Tryz.checked) (os := os) (X := fun w _ => laidMetH Tryz.prog ET w) false (Ce os) #[.int .i64 0, .slice none 0 0] 8 (Fp os) (D2 os _) (by kernel_rfl) (by kernel_rfl) (by kernel_rfl) (EL os _)) ?_
 intro W base args ds gs before hval0 hW hcnd hsz0 hL _
 have hg := E2 hL
 have hsz : (DataW.weightsEach Tryz.prog (Tryz.f3.params.toList ++ Rows.frontNoneSpec.plain.varTypes Tryz.prog) (ds ++ gs)).all (· <= reachBytes) = true := hsz0
 have hval : ∀ (j : Nat) t v, Tryz.f3.params[j]? = some t -> args[j]? = some v -> Value.okWide Tryz.prog W .any base t v := hval0
 have hW' := hW
 obtain ⟨p, q, hA0, hV, rfl, hfz, hnd⟩ := hW
 have hA : DataW.TrodAll enc Tryz.prog W 0 (fun _ => true) true Tryz.f3.params.toList args.toList ds p := hA0
 rw [Tryz.params3] at hA hval hsz
 obtain ⟨v0, vs0, d0, ds0, p0, q0, hargs, rfl, rfl, h0, r0⟩ := trodAll_cons hA
 obtain ⟨v1, vs1, d1, ds1, p1, q1, rfl, rfl, rfl, h1, r1⟩ := trodAll_cons r0
 obtain ⟨rfl, rfl, rfl⟩ := trodAll_nil r1
 obtain rfl : args = #[v0, v1] := by cases args; simp_all
 obtain ⟨rfl, rfl⟩ := trodVars_none hV
 obtain ⟨a0, rfl, rfl, rfl, w0⟩ := open_int Tryz.underlying3 (hval 0 3 v0 rfl rfl) h0
 obtain ⟨a1, len1, cap1, rfl⟩ := okWide_slice Tryz.underlying22 (hval 1 22 v1 rfl rfl)
 have k1 := h1
 have lt1 : ∀ x ∈ p1, x.block < W.heap.size := by obtain ⟨m, hm⟩ := k1; exact DataW.trod_lt m _ _ _ hm
 have w1 := Go.Px.rowOf_trod (α := Int) (fun x => [.int .u8 x]) (fun x => (Lit.int .u8 x).wf = true) Tryz.underlying22 (by
  intro n cs x h hl
  obtain ⟨c, rfl⟩ := Go.Px.trod_len Tryz.underlying5 rfl h
  obtain ⟨m, rfl, w⟩ := Go.Px.trod_int Tryz.underlying5 h
  exact ⟨m, rfl, w⟩
  ) k1
 rw [show Tryz.prog.cellsOf 5 = 1 by kernel_rfl] at w1
 have z1 := Go.Px.weight_of 1 hsz rfl rfl Tryz.underlying22 (by decide +kernel) k1
 clear hA0 hval0 hsz0 hsz
 refine (Go.Px.Runs.below (EH W hg a0 a1 len1 cap1 w0 w1 z1)).mono fun e W' ⟨he, bel⟩ => ?_
 subst he
 exact ⟨_, rfl, _, _, _, [], _, [], hW', trodAll_mk1 (shut_bool Tryz.underlying4 _), (trodAll_cons_mk (shut_int Tryz.underlying3 w0) (trodAll_cons_mk (Below.trod laidOut (by kernel_rfl) (of_decide_eq_true (by kernel_rfl)) k1 bel lt1) trodAll_mk0)), rfl, bel.frame _, fun h => by cases h⟩
theorem over : Rows.frontNoneRow.holds Tryz.pinned (OpenSpec.ofChange Rows.frontNoneSpec) :=
 OpenClaim.holds_of_wide 3 Tryz.f3 rfl rfl rfl rfl rfl rfl rfl ⟨rfl, rfl, rfl, rfl, rfl⟩ rfl rfl rfl rfl rfl (by kernel_rfl) Tryz.func3 (by kernel_rfl)
  (of_decide_eq_true (by kernel_rfl)) (by unfold Func.isWrapper; first | (rw [if_pos (by decide +kernel)]; kernel_rfl) | (rw [if_neg (by decide +kernel)]; exact ⟨rfl, rfl⟩))
  (fun os started H enc _ => lifted os started H enc)
theorem proved : Rows.FrontNoneCardSaid :=
 Claim7.holds_tied_plain_at .later [] [.data, .data, .data, .sentinel, .sentinel] true (true, "c7a541eb0f7326b9461119e59521a95b39be5db1af8e251c8d3f0a6abeee51c9") true
  over (fun _ h => by cases h) (by kernel_rfl) (fun _ h => by cases h) frontNone_row_tie rfl ⟨rfl, rfl⟩ (by kernel_rfl) rfl
  (fun f fn hf hfn => by
   obtain rfl : f = 3 := Option.some.inj ((show Tryz.prog.funcNamed "bolter/bolterlaw27.FrontNone" = some 3 by kernel_rfl).symm.trans hf) |>.symm
   obtain rfl : fn = Tryz.f3 := (Option.some.inj (Tryz.func3.symm.trans hfn)).symm
   exact ⟨by kernel_rfl, fun j t ht => by
    rw [Tryz.params3] at ht
    match j, ht with
    | 0, ht =>
     have h : t = 3 := by simpa using ht.symm
     subst h
     exact (show Tryz.prog.wantsStandIn 3 = false by kernel_rfl)
    | 1, ht =>
     have h : t = 22 := by simpa using ht.symm
     subst h
     exact (show Tryz.prog.wantsStandIn 22 = false by kernel_rfl)
    | j + 2, ht => simp at ht⟩)
  (by kernel_rfl)
end Go.Proofs.YtidkiajflmngcaaGreatDoor.frontNone
namespace Go.Proofs.YtidkiajflmngcaaGreatDoor
theorem frontNone_holds : Rows.FrontNoneCardSaid := frontNone.proved
#print axioms frontNone_holds
end Go.Proofs.YtidkiajflmngcaaGreatDoor
