/- IndexAll: for every input the law returns true, and its arguments read afterwards as they read before. No condition. -/
import Derived.Test.YtmlojdbahlfiaaaDoorRows
import Derived.Test.YtmlojdbahlfiaaaDoorM1IndexAll
import Derived.Test.YtmlojdbahlfiaaaDoorM2IndexAll
import Derived.Test.YtmlojdbahlfiaaaDoorM3IndexAll
import Derived.Test.YtmlojdbahlfiaaaDoorM4IndexAll
import Derived.Test.YtmlojdbahlfiaaaDoorM5IndexAll
import Derived.WalkKit
import Derived.ProofKit
import Derived.OpenShut
import Derived.ShutString
import Derived.ChangeOld
import Derived.Below
import Derived.SizedLaws
import Derived.Test.YtmlojdbahlfiaaaDoorCards
import Derived.Test.YtmlojdbahlfiaaaDoorTie
import Derived.SevenTiedAt
namespace Go.Proofs.YtmlojdbahlfiaaaDoor.indexAll
open Go.ChangeShapes Go.WideShapes Go.ChangeAt Go.RowKit
open Go.ChangeMaps (open_string shut_string)
set_option linter.unusedVariables false
theorem own : ownKnob Tryd.prog.godebug = none := by kernel_rfl
theorem laidOut : laidOutB Tryd.prog = true := by kernel_rfl
set_option maxRecDepth 100000 in
theorem lifted (os : Os) (started : os.Started) (H : Type) (enc : TypeId × Value → H) :
    ReturnsInHanded {} Tryd.checked os 4 .any (fun w args => (Rows.indexAllSpec.pre enc Tryd.prog Tryd.f4 Rows.indexAllRow.domain false w args ∧ laidMetH Tryd.prog LaidL w) ∧ sizedMet enc Tryd.prog Tryd.f4 (OpenSpec.ofChange Rows.indexAllSpec) false w args) (Rows.indexAllSpec.post enc Tryd.prog Tryd.f4 false true false false) := by
  refine returnsInHanded_of_change_and (C := Tryd.checked) (X := fun w _ => laidMetH Tryd.prog LaidL w) (fun _ _ _ hh h => h.of_heap hh) own started (by kernel_rfl) Tryd.func4
    (ChangeSpec.witness_shaped (enc := enc) (C := Tryd.checked) (os := os) (X := fun w _ => laidMetH Tryd.prog LaidL w) false (laidWorld os) #[.slice none 0 0, .bool false, .slice none 0 0] 8 (laidWorld_os os) (laidWorld_shaped os _) (by kernel_rfl) (by kernel_rfl) (by kernel_rfl) (laidWorld_met os _)) ?_
  intro W base args ds gs before hval0 hW hcnd hsz0 hL _
  have hg := handle_of_laid hL
  have hsz : (DataW.weightsEach Tryd.prog (Tryd.f4.params.toList ++ Rows.indexAllSpec.plain.varTypes Tryd.prog) (ds ++ gs)).all (· ≤ reachBytes) = true := hsz0
  have hval : ∀ (j : Nat) t v, Tryd.f4.params[j]? = some t → args[j]? = some v → Value.okWide Tryd.prog W .any base t v := hval0
  have hW' := hW
  obtain ⟨p, q, hA0, hV, rfl, hfz, hnd⟩ := hW
  have hA : DataW.TrodAll enc Tryd.prog W 0 (fun _ => true) true Tryd.f4.params.toList args.toList ds p := hA0
  rw [Tryd.params4] at hA hval hsz
  obtain ⟨v0, vs0, d0, ds0, p0, q0, hargs, rfl, rfl, h0, r0⟩ := trodAll_cons hA
  obtain ⟨v1, vs1, d1, ds1, p1, q1, rfl, rfl, rfl, h1, r1⟩ := trodAll_cons r0
  obtain ⟨v2, vs2, d2, ds2, p2, q2, rfl, rfl, rfl, h2, r2⟩ := trodAll_cons r1
  obtain ⟨rfl, rfl, rfl⟩ := trodAll_nil r2
  obtain rfl : args = #[v0, v1, v2] := by cases args; simp_all
  obtain ⟨rfl, rfl⟩ := trodVars_none hV
  obtain ⟨a0, len0, cap0, rfl⟩ := okWide_slice Tryd.underlying31 (hval 0 31 v0 rfl rfl)
  have k0 := h0
  have lt0 : ∀ x ∈ p0, x.block < W.heap.size := by obtain ⟨m, hm⟩ := k0; exact DataW.trod_lt m _ _ _ hm
  have w0 := Go.Px.rowOf_trod (α := Int) (fun x => [.int .u8 x]) (fun x => (Lit.int .u8 x).wf = true) Tryd.underlying31 (by
    intro n cs x h hl
    obtain ⟨c, rfl⟩ := Go.Px.trod_len Tryd.underlying5 rfl h
    obtain ⟨m, rfl, w⟩ := Go.Px.trod_int Tryd.underlying5 h
    exact ⟨m, rfl, w⟩
    ) k0
  rw [show Tryd.prog.cellsOf 5 = 1 by kernel_rfl] at w0
  have z0 := Go.Px.weight_of 0 hsz rfl rfl Tryd.underlying31 (by decide +kernel) k0
  obtain ⟨a1, rfl, rfl, rfl⟩ := open_bool Tryd.underlying4 (hval 1 4 v1 rfl rfl) h1
  obtain ⟨a2, len2, cap2, rfl⟩ := okWide_slice Tryd.underlying31 (hval 2 31 v2 rfl rfl)
  have k2 := h2
  have lt2 : ∀ x ∈ p2, x.block < W.heap.size := by obtain ⟨m, hm⟩ := k2; exact DataW.trod_lt m _ _ _ hm
  have w2 := Go.Px.rowOf_trod (α := Int) (fun x => [.int .u8 x]) (fun x => (Lit.int .u8 x).wf = true) Tryd.underlying31 (by
    intro n cs x h hl
    obtain ⟨c, rfl⟩ := Go.Px.trod_len Tryd.underlying5 rfl h
    obtain ⟨m, rfl, w⟩ := Go.Px.trod_int Tryd.underlying5 h
    exact ⟨m, rfl, w⟩
    ) k2
  rw [show Tryd.prog.cellsOf 5 = 1 by kernel_rfl] at w2
  have z2 := Go.Px.weight_of 2 hsz rfl rfl Tryd.underlying31 (by decide +kernel) k2
  clear hA0 hval0 hsz0 hsz
  refine (Go.Px.Runs.below (IndexAll_row W hg a0 len0 cap0 a1 a2 len2 cap2 w0 z0 w2 z2)).mono fun e W' ⟨he, bel⟩ => ?_
  subst he
  exact ⟨_, rfl, _, _, _, [], _, [], hW', trodAll_mk1 (shut_bool Tryd.underlying4 _), (trodAll_cons_mk (Below.trod laidOut (by kernel_rfl) (of_decide_eq_true (by kernel_rfl)) k0 bel lt0) (trodAll_cons_mk (shut_bool Tryd.underlying4 _) (trodAll_cons_mk (Below.trod laidOut (by kernel_rfl) (of_decide_eq_true (by kernel_rfl)) k2 bel lt2) trodAll_mk0))), rfl, bel.frame _, fun h => by cases h⟩
theorem over : Rows.indexAllRow.holds Tryd.pinned (OpenSpec.ofChange Rows.indexAllSpec) :=
  OpenClaim.holds_of_wide 4 Tryd.f4 rfl rfl rfl rfl rfl rfl rfl ⟨rfl, rfl, rfl, rfl, rfl⟩ rfl rfl rfl rfl rfl (by kernel_rfl) Tryd.func4 (by kernel_rfl)
    (of_decide_eq_true (by kernel_rfl)) (by unfold Func.isWrapper; first | (rw [if_pos (by decide +kernel)]; kernel_rfl) | (rw [if_neg (by decide +kernel)]; exact ⟨rfl, rfl⟩))
    (fun os started H enc _ => lifted os started H enc)
theorem proved : Rows.IndexAllCardSaid :=
  Claim7.holds_tied_plain_at .later [] [.data, .data, .data, .sentinel, .sentinel] true (true, "05cca0dec2e43c46265e7509ea3a29e68aa0e0124c91dc084018f3ccd082c65b") true
    over (fun _ h => by cases h) (by kernel_rfl) (fun _ h => by cases h) indexAll_row_tie rfl ⟨rfl, rfl⟩ (by kernel_rfl) rfl
    (fun f fn hf hfn => by
      obtain rfl : f = 4 := Option.some.inj ((show Tryd.prog.funcNamed "bolter/bolterlaw17.IndexAll" = some 4 by kernel_rfl).symm.trans hf) |>.symm
      obtain rfl : fn = Tryd.f4 := (Option.some.inj (Tryd.func4.symm.trans hfn)).symm
      exact ⟨by kernel_rfl, fun j t ht => by
        rw [Tryd.params4] at ht
        match j, ht with
        | 0, ht =>
          have h : t = 31 := by simpa using ht.symm
          subst h
          exact (show Tryd.prog.wantsStandIn 31 = false by kernel_rfl)
        | 1, ht =>
          have h : t = 4 := by simpa using ht.symm
          subst h
          exact (show Tryd.prog.wantsStandIn 4 = false by kernel_rfl)
        | 2, ht =>
          have h : t = 31 := by simpa using ht.symm
          subst h
          exact (show Tryd.prog.wantsStandIn 31 = false by kernel_rfl)
        | j + 3, ht => simp at ht⟩)
    (by kernel_rfl)
end Go.Proofs.YtmlojdbahlfiaaaDoor.indexAll
namespace Go.Proofs.YtmlojdbahlfiaaaDoor
/-- The tied card, under a short name. -/
theorem indexAll_holds : Rows.IndexAllCardSaid := indexAll.proved
#print axioms indexAll_holds
end Go.Proofs.YtmlojdbahlfiaaaDoor
