/- IndexRound: for every input the law returns true, and its arguments read afterwards as they read before. No condition. -/
import Derived.Test.YtmlojdbahlfiaaaGreatDoorRows
import Derived.Test.YtmlojdbahlfiaaaGreatDoorM1IndexRound
import Derived.Test.YtmlojdbahlfiaaaGreatDoorM2IndexRound
import Derived.Test.YtmlojdbahlfiaaaGreatDoorM3IndexRound
import Derived.Test.YtmlojdbahlfiaaaGreatDoorM4IndexRound
import Derived.Test.YtmlojdbahlfiaaaGreatDoorM5IndexRound
import Derived.Test.YtmlojdbahlfiaaaGreatDoorM6IndexRound
import Derived.WalkKit
import Derived.ProofKit
import Derived.OpenShut
import Derived.ShutString
import Derived.ChangeOld
import Derived.Below
import Derived.SizedLaws
import Derived.Test.YtmlojdbahlfiaaaGreatDoorCards
import Derived.Test.YtmlojdbahlfiaaaGreatDoorTie
import Derived.SevenTiedAt
namespace Go.Proofs.YtmlojdbahlfiaaaGreatDoor.indexRound
open Go.ChangeShapes Go.WideShapes Go.ChangeAt Go.RowKit
open Go.ChangeMaps (open_string shut_string)
set_option linter.unusedVariables false
theorem own : ownKnob Tryz.prog.godebug = none := by kernel_rfl
theorem laidOut : laidOutB Tryz.prog = true := by kernel_rfl
set_option maxRecDepth 100000 in
theorem lifted (os : Os) (started : os.Started) (H : Type) (enc : TypeId × Value → H) :
    ReturnsInHanded {} Tryz.checked os 5 .any (fun w args => (Rows.indexRoundSpec.pre enc Tryz.prog Tryz.f5 Rows.indexRoundRow.domain false w args ∧ laidMetH Tryz.prog LaidL w) ∧ sizedMet enc Tryz.prog Tryz.f5 (OpenSpec.ofChange Rows.indexRoundSpec) false w args) (Rows.indexRoundSpec.post enc Tryz.prog Tryz.f5 false true false false) := by
  refine returnsInHanded_of_change_and (C := Tryz.checked) (X := fun w _ => laidMetH Tryz.prog LaidL w) (fun _ _ _ hh h => h.of_heap hh) own started (by kernel_rfl) Tryz.func5
    (ChangeSpec.witness_shaped (enc := enc) (C := Tryz.checked) (os := os) (X := fun w _ => laidMetH Tryz.prog LaidL w) false (laidWorld os) #[.slice none 0 0] 8 (laidWorld_os os) (laidWorld_shaped os _) (by kernel_rfl) (by kernel_rfl) (by kernel_rfl) (laidWorld_met os _)) ?_
  intro W base args ds gs before hval0 hW hcnd hsz0 hL _
  have hg := handle_of_laid hL
  have hsz : (DataW.weightsEach Tryz.prog (Tryz.f5.params.toList ++ Rows.indexRoundSpec.plain.varTypes Tryz.prog) (ds ++ gs)).all (· ≤ reachBytes) = true := hsz0
  have hval : ∀ (j : Nat) t v, Tryz.f5.params[j]? = some t → args[j]? = some v → Value.okWide Tryz.prog W .any base t v := hval0
  have hW' := hW
  obtain ⟨p, q, hA0, hV, rfl, hfz, hnd⟩ := hW
  have hA : DataW.TrodAll enc Tryz.prog W 0 (fun _ => true) true Tryz.f5.params.toList args.toList ds p := hA0
  rw [Tryz.params5] at hA hval hsz
  obtain ⟨v0, vs0, d0, ds0, p0, q0, hargs, rfl, rfl, h0, r0⟩ := trodAll_cons hA
  obtain ⟨rfl, rfl, rfl⟩ := trodAll_nil r0
  obtain rfl : args = #[v0] := by cases args; simp_all
  obtain ⟨rfl, rfl⟩ := trodVars_none hV
  obtain ⟨a0, len0, cap0, rfl⟩ := okWide_slice Tryz.underlying52 (hval 0 52 v0 rfl rfl)
  have k0 := h0
  have lt0 : ∀ x ∈ p0, x.block < W.heap.size := by obtain ⟨m, hm⟩ := k0; exact DataW.trod_lt m _ _ _ hm
  have w0 := Go.Px.rowOf_trod (α := Int × Int × (Option Addr × Nat × Nat) × Bool × Int × Int) (fun x => [.int .u8 x.1, .int .u8 x.2.1, .slice x.2.2.1.1 x.2.2.1.2.1 x.2.2.1.2.2, .bool x.2.2.2.1, .int .u8 x.2.2.2.2.1, .int .i64 x.2.2.2.2.2]) (fun x => (Lit.int .u8 x.1).wf = true ∧ (Lit.int .u8 x.2.1).wf = true ∧ (x.2.2.1.2.1 ≤ x.2.2.1.2.2 ∧ x.2.2.1.2.2 ≤ maxLen ∧ ∃ ys : List (Int), Go.Px.SlIn (Go.Px.imW W) x.2.2.1.1 x.2.2.1.2.1 1 (fun xe => [.int .u8 xe]) ys ∧ ∀ y ∈ ys, (fun xe => (Lit.int .u8 xe).wf = true) y) ∧ True ∧ (Lit.int .u8 x.2.2.2.2.1).wf = true ∧ (Lit.int .i64 x.2.2.2.2.2).wf = true) Tryz.underlying52 (by
    intro n cs x h hl
    have hl' : cs.length = 6 := hl.trans (by kernel_rfl)
    obtain ⟨c0, c1, c2, c3, c4, c5, rfl⟩ : ∃ c0 c1 c2 c3 c4 c5, cs = [c0, c1, c2, c3, c4, c5] := by
      match cs, hl' with
      | [c0, c1, c2, c3, c4, c5], _ => exact ⟨c0, c1, c2, c3, c4, c5, rfl⟩
    obtain ⟨n0, y0, g0⟩ := Go.Px.trod_field Tryz.underlying44 h 0 _ rfl
    replace g0 : DataW.trod enc Tryz.prog W 0 (fun _ => true) true n0 5 (List.take (Tryz.prog.cellsOf 5) (List.drop 0 [c0, c1, c2, c3, c4, c5])) = some y0 := g0
    rw [show Tryz.prog.cellsOf 5 = 1 by kernel_rfl] at g0
    replace g0 : DataW.trod enc Tryz.prog W 0 (fun _ => true) true n0 5 [c0] = some y0 := g0
    obtain ⟨n1, y1, g1⟩ := Go.Px.trod_field Tryz.underlying44 h 1 _ rfl
    replace g1 : DataW.trod enc Tryz.prog W 0 (fun _ => true) true n1 5 (List.take (Tryz.prog.cellsOf 5) (List.drop 1 [c0, c1, c2, c3, c4, c5])) = some y1 := g1
    rw [show Tryz.prog.cellsOf 5 = 1 by kernel_rfl] at g1
    replace g1 : DataW.trod enc Tryz.prog W 0 (fun _ => true) true n1 5 [c1] = some y1 := g1
    obtain ⟨n2, y2, g2⟩ := Go.Px.trod_field Tryz.underlying44 h 2 _ rfl
    replace g2 : DataW.trod enc Tryz.prog W 0 (fun _ => true) true n2 22 (List.take (Tryz.prog.cellsOf 22) (List.drop 2 [c0, c1, c2, c3, c4, c5])) = some y2 := g2
    rw [show Tryz.prog.cellsOf 22 = 1 by kernel_rfl] at g2
    replace g2 : DataW.trod enc Tryz.prog W 0 (fun _ => true) true n2 22 [c2] = some y2 := g2
    obtain ⟨n3, y3, g3⟩ := Go.Px.trod_field Tryz.underlying44 h 3 _ rfl
    replace g3 : DataW.trod enc Tryz.prog W 0 (fun _ => true) true n3 4 (List.take (Tryz.prog.cellsOf 4) (List.drop 3 [c0, c1, c2, c3, c4, c5])) = some y3 := g3
    rw [show Tryz.prog.cellsOf 4 = 1 by kernel_rfl] at g3
    replace g3 : DataW.trod enc Tryz.prog W 0 (fun _ => true) true n3 4 [c3] = some y3 := g3
    obtain ⟨n4, y4, g4⟩ := Go.Px.trod_field Tryz.underlying44 h 4 _ rfl
    replace g4 : DataW.trod enc Tryz.prog W 0 (fun _ => true) true n4 5 (List.take (Tryz.prog.cellsOf 5) (List.drop 4 [c0, c1, c2, c3, c4, c5])) = some y4 := g4
    rw [show Tryz.prog.cellsOf 5 = 1 by kernel_rfl] at g4
    replace g4 : DataW.trod enc Tryz.prog W 0 (fun _ => true) true n4 5 [c4] = some y4 := g4
    obtain ⟨n5, y5, g5⟩ := Go.Px.trod_field Tryz.underlying44 h 5 _ rfl
    replace g5 : DataW.trod enc Tryz.prog W 0 (fun _ => true) true n5 3 (List.take (Tryz.prog.cellsOf 3) (List.drop 5 [c0, c1, c2, c3, c4, c5])) = some y5 := g5
    rw [show Tryz.prog.cellsOf 3 = 1 by kernel_rfl] at g5
    replace g5 : DataW.trod enc Tryz.prog W 0 (fun _ => true) true n5 3 [c5] = some y5 := g5
    obtain ⟨v0, rfl, u0⟩ := Go.Px.trod_int Tryz.underlying5 g0
    obtain ⟨v1, rfl, u1⟩ := Go.Px.trod_int Tryz.underlying5 g1
    obtain ⟨va2, vl2, vc2, rfl, hT2⟩ := Go.Px.trod_sl Tryz.underlying22 g2
    have u2 := Go.Px.rowOf_trod (α := Int) (fun xe => [.int .u8 xe]) (fun xe => (Lit.int .u8 xe).wf = true) Tryz.underlying22 (by
      intro n cs x h hl
      obtain ⟨c, rfl⟩ := Go.Px.trod_len Tryz.underlying5 rfl h
      obtain ⟨m, rfl, w⟩ := Go.Px.trod_int Tryz.underlying5 h
      exact ⟨m, rfl, w⟩
      ) hT2
    rw [show Tryz.prog.cellsOf 5 = 1 by kernel_rfl] at u2
    obtain ⟨v3, rfl⟩ := Go.Px.trod_bool Tryz.underlying4 g3
    obtain ⟨v4, rfl, u4⟩ := Go.Px.trod_int Tryz.underlying5 g4
    obtain ⟨v5, rfl, u5⟩ := Go.Px.trod_int Tryz.underlying3 g5
    exact ⟨⟨v0, v1, ⟨va2, vl2, vc2⟩, v3, v4, v5⟩, rfl, u0, u1, u2, trivial, u4, u5⟩
    ) k0
  rw [show Tryz.prog.cellsOf 44 = 6 by kernel_rfl] at w0
  have z0 := Go.Px.weight_of 0 hsz rfl rfl Tryz.underlying52 (by decide +kernel) k0
  clear hA0 hval0 hsz0 hsz
  refine (Go.Px.Runs.below (IndexRound_row W hg a0 len0 cap0 w0 z0)).mono fun e W' ⟨he, bel⟩ => ?_
  subst he
  exact ⟨_, rfl, _, _, _, [], _, [], hW', trodAll_mk1 (shut_bool Tryz.underlying4 _), (trodAll_cons_mk (Below.trod laidOut (by kernel_rfl) (of_decide_eq_true (by kernel_rfl)) k0 bel lt0) trodAll_mk0), rfl, bel.frame _, fun h => by cases h⟩
theorem over : Rows.indexRoundRow.holds Tryz.pinned (OpenSpec.ofChange Rows.indexRoundSpec) :=
  OpenClaim.holds_of_wide 5 Tryz.f5 rfl rfl rfl rfl rfl rfl rfl ⟨rfl, rfl, rfl, rfl, rfl⟩ rfl rfl rfl rfl rfl (by kernel_rfl) Tryz.func5 (by kernel_rfl)
    (of_decide_eq_true (by kernel_rfl)) (by unfold Func.isWrapper; first | (rw [if_pos (by decide +kernel)]; kernel_rfl) | (rw [if_neg (by decide +kernel)]; exact ⟨rfl, rfl⟩))
    (fun os started H enc _ => lifted os started H enc)
theorem proved : Rows.IndexRoundCardSaid :=
  Claim7.holds_tied_plain_at .later [] [.data, .data, .data, .sentinel, .sentinel] true (true, "f613b22d704ef95f664b70cc0d092546cd638f37aa74690687501968d7efc847") true
    over (fun _ h => by cases h) (by kernel_rfl) (fun _ h => by cases h) indexRound_row_tie rfl ⟨rfl, rfl⟩ (by kernel_rfl) rfl
    (fun f fn hf hfn => by
      obtain rfl : f = 5 := Option.some.inj ((show Tryz.prog.funcNamed "bolter/bolterlaw17.IndexRound" = some 5 by kernel_rfl).symm.trans hf) |>.symm
      obtain rfl : fn = Tryz.f5 := (Option.some.inj (Tryz.func5.symm.trans hfn)).symm
      exact ⟨by kernel_rfl, fun j t ht => by
        rw [Tryz.params5] at ht
        match j, ht with
        | 0, ht =>
          have h : t = 52 := by simpa using ht.symm
          subst h
          exact (show Tryz.prog.wantsStandIn 52 = false by kernel_rfl)
        | j + 1, ht => simp at ht⟩)
    (by kernel_rfl)
end Go.Proofs.YtmlojdbahlfiaaaGreatDoor.indexRound
namespace Go.Proofs.YtmlojdbahlfiaaaGreatDoor
/-- The tied card, under a short name. -/
theorem indexRound_holds : Rows.IndexRoundCardSaid := indexRound.proved
#print axioms indexRound_holds
end Go.Proofs.YtmlojdbahlfiaaaGreatDoor
