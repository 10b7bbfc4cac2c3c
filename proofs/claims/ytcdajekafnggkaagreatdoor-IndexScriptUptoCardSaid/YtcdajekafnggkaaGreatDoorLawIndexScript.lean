/- IndexScript: for every input whose reading is of bulk at most 1048576 the law returns true, and its arguments read afterwards as they read before. Condition: that bound on the bulk (uptoSmall). -/
import Derived.Test.YtcdajekafnggkaaGreatDoorRows
import Derived.Test.YtcdajekafnggkaaGreatDoorM1IndexScript
import Derived.Test.YtcdajekafnggkaaGreatDoorM2IndexScript
import Derived.Test.YtcdajekafnggkaaGreatDoorM3IndexScript
import Derived.Test.YtcdajekafnggkaaGreatDoorM4IndexScript
import Derived.Test.YtcdajekafnggkaaGreatDoorM5IndexScript
import Derived.Test.YtcdajekafnggkaaGreatDoorM6IndexScript
import Derived.WalkKit
import Derived.ProofKit
import Derived.OpenShut
import Derived.ShutString
import Derived.ChangeOld
import Derived.Below
import Derived.SizedLaws
import Derived.Test.YtcdajekafnggkaaGreatDoorCards
import Derived.Test.YtcdajekafnggkaaGreatDoorTie
import Derived.SevenTiedAt
namespace Go.Proofs.YtcdajekafnggkaaGreatDoor.indexScript
open Go.ChangeShapes Go.WideShapes Go.ChangeAt Go.RowKit
open Go.ChangeMaps (open_string shut_string)
set_option linter.unusedVariables false
theorem own : ownKnob Tryz.prog.godebug = none := by kernel_rfl
theorem laidOut : laidOutB Tryz.prog = true := by kernel_rfl
set_option maxRecDepth 100000 in
theorem lifted (os : Os) (started : os.Started) (H : Type) (enc : TypeId × Value → H) (F : Stop.Interp) :
    ReturnsInHanded {} Tryz.checked os 3 .any ((Rows.OpenSpec.upto Rows.indexScriptSpec).preRow enc Tryz.prog Tryz.f3 Rows.indexScriptUptoRow.domain false LaidL) (((Rows.OpenSpec.upto Rows.indexScriptSpec).at F).post enc Tryz.prog Tryz.f3 false true false false) := by
  refine returnsInHanded_of_row (C := Tryz.checked) (s := Rows.OpenSpec.upto Rows.indexScriptSpec) own started (by kernel_rfl) Tryz.func3
    (witness_up (enc := enc) (C := Tryz.checked) (os := os) false (laidWorld os) #[.slice none 0 0, .slice none 0 0] (laidWorld_os os) (laidWorld_shaped os _) (by kernel_rfl)
      (OpenSpec.preRow_of_cond 8 (x := ([.nil, .nil], [], [])) (by kernel_rfl) (by kernel_rfl) (fun k hk => by cases hk; kernel_rfl) (by kernel_rfl) (laidWorld_met os _))) ?_
  intro W base args ds gs before hval0 hW hcnd hcond hsz0 hL _ _
  have hg := handle_of_laid hL
  have hu : Rows.uptoSmall H (ds ++ gs) = true := hcond _ rfl
  refine (show Calls Tryz.prog 3 args W (fun e W' => ∃ v, e = .returned v ∧ Rows.indexScriptSpec.post enc Tryz.prog Tryz.f3 false true false false W args v W') from ?_)
  have hsz : (DataW.weightsEach Tryz.prog (Tryz.f3.params.toList ++ Rows.indexScriptSpec.plain.varTypes Tryz.prog) (ds ++ gs)).all (· ≤ reachBytes) = true := hsz0
  have hval : ∀ (j : Nat) t v, Tryz.f3.params[j]? = some t → args[j]? = some v → Value.okWide Tryz.prog W .any base t v := hval0
  have hW' := hW
  obtain ⟨p, q, hA0, hV, rfl, hfz, hnd⟩ := hW
  have hA : DataW.TrodAll enc Tryz.prog W 0 (fun _ => true) true Tryz.f3.params.toList args.toList ds p := hA0
  rw [Tryz.params3] at hA hval hsz
  obtain ⟨v0, vs0, d0, ds0, p0, q0, hargs, rfl, rfl, h0, r0⟩ := trodAll_cons hA
  obtain ⟨v1, vs1, d1, ds1, p1, q1, rfl, rfl, rfl, h1, r1⟩ := trodAll_cons r0
  obtain ⟨rfl, rfl, rfl⟩ := trodAll_nil r1
  obtain rfl : args = #[v0, v1] := by cases args; simp_all
  obtain ⟨rfl, rfl⟩ := trodVars_none hV
  obtain ⟨a0, len0, cap0, rfl⟩ := okWide_slice Tryz.underlying22 (hval 0 22 v0 rfl rfl)
  have k0 := h0
  have lt0 : ∀ x ∈ p0, x.block < W.heap.size := by obtain ⟨m, hm⟩ := k0; exact DataW.trod_lt m _ _ _ hm
  have w0 := rowOf_trodU (α := Int × Int × (Option Addr × Nat × Nat) × Bool × Int × Int) (fun x => [.int .u8 x.1, .int .u8 x.2.1, .slice x.2.2.1.1 x.2.2.1.2.1 x.2.2.1.2.2, .bool x.2.2.2.1, .int .u8 x.2.2.2.2.1, .int .i64 x.2.2.2.2.2]) (fun x => (Lit.int .u8 x.1).wf = true ∧ (Lit.int .u8 x.2.1).wf = true ∧ (x.2.2.1.2.1 ≤ x.2.2.1.2.2 ∧ x.2.2.1.2.2 ≤ maxLen ∧ x.2.2.1.2.1 ≤ 1048576 ∧ ∃ ys : List (Int), Go.Px.SlIn (Go.Px.imW W) x.2.2.1.1 x.2.2.1.2.1 1 (fun xe => [.int .u8 xe]) ys ∧ ∀ y ∈ ys, (fun xe => (Lit.int .u8 xe).wf = true) y) ∧ True ∧ (Lit.int .u8 x.2.2.2.2.1).wf = true ∧ (Lit.int .i64 x.2.2.2.2.2).wf = true) Tryz.underlying22 (by
    intro n cs x h hl hw
    have hl' : cs.length = 6 := hl.trans (by kernel_rfl)
    obtain ⟨c0, c1, c2, c3, c4, c5, rfl⟩ : ∃ c0 c1 c2 c3 c4 c5, cs = [c0, c1, c2, c3, c4, c5] := by
      match cs, hl' with
      | [c0, c1, c2, c3, c4, c5], _ => exact ⟨c0, c1, c2, c3, c4, c5, rfl⟩
    obtain ⟨n0, y0, g0, hw0⟩ := trod_fieldU Tryz.underlying29 h hw 0 _ rfl
    replace g0 : DataW.trod enc Tryz.prog W 0 (fun _ => true) true n0 5 (List.take (Tryz.prog.cellsOf 5) (List.drop 0 [c0, c1, c2, c3, c4, c5])) = some y0 := g0
    rw [show Tryz.prog.cellsOf 5 = 1 by kernel_rfl] at g0
    replace g0 : DataW.trod enc Tryz.prog W 0 (fun _ => true) true n0 5 [c0] = some y0 := g0
    obtain ⟨n1, y1, g1, hw1⟩ := trod_fieldU Tryz.underlying29 h hw 1 _ rfl
    replace g1 : DataW.trod enc Tryz.prog W 0 (fun _ => true) true n1 5 (List.take (Tryz.prog.cellsOf 5) (List.drop 1 [c0, c1, c2, c3, c4, c5])) = some y1 := g1
    rw [show Tryz.prog.cellsOf 5 = 1 by kernel_rfl] at g1
    replace g1 : DataW.trod enc Tryz.prog W 0 (fun _ => true) true n1 5 [c1] = some y1 := g1
    obtain ⟨n2, y2, g2, hw2⟩ := trod_fieldU Tryz.underlying29 h hw 2 _ rfl
    replace g2 : DataW.trod enc Tryz.prog W 0 (fun _ => true) true n2 27 (List.take (Tryz.prog.cellsOf 27) (List.drop 2 [c0, c1, c2, c3, c4, c5])) = some y2 := g2
    rw [show Tryz.prog.cellsOf 27 = 1 by kernel_rfl] at g2
    replace g2 : DataW.trod enc Tryz.prog W 0 (fun _ => true) true n2 27 [c2] = some y2 := g2
    obtain ⟨n3, y3, g3, hw3⟩ := trod_fieldU Tryz.underlying29 h hw 3 _ rfl
    replace g3 : DataW.trod enc Tryz.prog W 0 (fun _ => true) true n3 4 (List.take (Tryz.prog.cellsOf 4) (List.drop 3 [c0, c1, c2, c3, c4, c5])) = some y3 := g3
    rw [show Tryz.prog.cellsOf 4 = 1 by kernel_rfl] at g3
    replace g3 : DataW.trod enc Tryz.prog W 0 (fun _ => true) true n3 4 [c3] = some y3 := g3
    obtain ⟨n4, y4, g4, hw4⟩ := trod_fieldU Tryz.underlying29 h hw 4 _ rfl
    replace g4 : DataW.trod enc Tryz.prog W 0 (fun _ => true) true n4 5 (List.take (Tryz.prog.cellsOf 5) (List.drop 4 [c0, c1, c2, c3, c4, c5])) = some y4 := g4
    rw [show Tryz.prog.cellsOf 5 = 1 by kernel_rfl] at g4
    replace g4 : DataW.trod enc Tryz.prog W 0 (fun _ => true) true n4 5 [c4] = some y4 := g4
    obtain ⟨n5, y5, g5, hw5⟩ := trod_fieldU Tryz.underlying29 h hw 5 _ rfl
    replace g5 : DataW.trod enc Tryz.prog W 0 (fun _ => true) true n5 3 (List.take (Tryz.prog.cellsOf 3) (List.drop 5 [c0, c1, c2, c3, c4, c5])) = some y5 := g5
    rw [show Tryz.prog.cellsOf 3 = 1 by kernel_rfl] at g5
    replace g5 : DataW.trod enc Tryz.prog W 0 (fun _ => true) true n5 3 [c5] = some y5 := g5
    obtain ⟨v0, rfl, u0⟩ := Go.Px.trod_int Tryz.underlying5 g0
    obtain ⟨v1, rfl, u1⟩ := Go.Px.trod_int Tryz.underlying5 g1
    obtain ⟨va2, vl2, vc2, rfl, hT2⟩ := Go.Px.trod_sl Tryz.underlying27 g2
    have u2 := rowOf_trodU (α := Int) (fun xe => [.int .u8 xe]) (fun xe => (Lit.int .u8 xe).wf = true) Tryz.underlying27 (by
      intro n cs x h hl hw
      obtain ⟨c, rfl⟩ := Go.Px.trod_len Tryz.underlying5 rfl h
      obtain ⟨m, rfl, w⟩ := Go.Px.trod_int Tryz.underlying5 h
      exact ⟨m, rfl, w⟩
      ) hT2 hw2
    rw [show Tryz.prog.cellsOf 5 = 1 by kernel_rfl] at u2
    obtain ⟨v3, rfl⟩ := Go.Px.trod_bool Tryz.underlying4 g3
    obtain ⟨v4, rfl, u4⟩ := Go.Px.trod_int Tryz.underlying5 g4
    obtain ⟨v5, rfl, u5⟩ := Go.Px.trod_int Tryz.underlying3 g5
    exact ⟨⟨v0, v1, ⟨va2, vl2, vc2⟩, v3, v4, v5⟩, rfl, u0, u1, u2, trivial, u4, u5⟩
    ) k0 (UOk.of (j := 0) hu rfl)
  rw [show Tryz.prog.cellsOf 29 = 6 by kernel_rfl] at w0
  obtain ⟨a1, len1, cap1, rfl⟩ := okWide_slice Tryz.underlying22 (hval 1 22 v1 rfl rfl)
  have k1 := h1
  have lt1 : ∀ x ∈ p1, x.block < W.heap.size := by obtain ⟨m, hm⟩ := k1; exact DataW.trod_lt m _ _ _ hm
  have w1 := rowOf_trodU (α := Int × Int × (Option Addr × Nat × Nat) × Bool × Int × Int) (fun x => [.int .u8 x.1, .int .u8 x.2.1, .slice x.2.2.1.1 x.2.2.1.2.1 x.2.2.1.2.2, .bool x.2.2.2.1, .int .u8 x.2.2.2.2.1, .int .i64 x.2.2.2.2.2]) (fun x => (Lit.int .u8 x.1).wf = true ∧ (Lit.int .u8 x.2.1).wf = true ∧ (x.2.2.1.2.1 ≤ x.2.2.1.2.2 ∧ x.2.2.1.2.2 ≤ maxLen ∧ x.2.2.1.2.1 ≤ 1048576 ∧ ∃ ys : List (Int), Go.Px.SlIn (Go.Px.imW W) x.2.2.1.1 x.2.2.1.2.1 1 (fun xe => [.int .u8 xe]) ys ∧ ∀ y ∈ ys, (fun xe => (Lit.int .u8 xe).wf = true) y) ∧ True ∧ (Lit.int .u8 x.2.2.2.2.1).wf = true ∧ (Lit.int .i64 x.2.2.2.2.2).wf = true) Tryz.underlying22 (by
    intro n cs x h hl hw
    have hl' : cs.length = 6 := hl.trans (by kernel_rfl)
    obtain ⟨c0, c1, c2, c3, c4, c5, rfl⟩ : ∃ c0 c1 c2 c3 c4 c5, cs = [c0, c1, c2, c3, c4, c5] := by
      match cs, hl' with
      | [c0, c1, c2, c3, c4, c5], _ => exact ⟨c0, c1, c2, c3, c4, c5, rfl⟩
    obtain ⟨n0, y0, g0, hw0⟩ := trod_fieldU Tryz.underlying29 h hw 0 _ rfl
    replace g0 : DataW.trod enc Tryz.prog W 0 (fun _ => true) true n0 5 (List.take (Tryz.prog.cellsOf 5) (List.drop 0 [c0, c1, c2, c3, c4, c5])) = some y0 := g0
    rw [show Tryz.prog.cellsOf 5 = 1 by kernel_rfl] at g0
    replace g0 : DataW.trod enc Tryz.prog W 0 (fun _ => true) true n0 5 [c0] = some y0 := g0
    obtain ⟨n1, y1, g1, hw1⟩ := trod_fieldU Tryz.underlying29 h hw 1 _ rfl
    replace g1 : DataW.trod enc Tryz.prog W 0 (fun _ => true) true n1 5 (List.take (Tryz.prog.cellsOf 5) (List.drop 1 [c0, c1, c2, c3, c4, c5])) = some y1 := g1
    rw [show Tryz.prog.cellsOf 5 = 1 by kernel_rfl] at g1
    replace g1 : DataW.trod enc Tryz.prog W 0 (fun _ => true) true n1 5 [c1] = some y1 := g1
    obtain ⟨n2, y2, g2, hw2⟩ := trod_fieldU Tryz.underlying29 h hw 2 _ rfl
    replace g2 : DataW.trod enc Tryz.prog W 0 (fun _ => true) true n2 27 (List.take (Tryz.prog.cellsOf 27) (List.drop 2 [c0, c1, c2, c3, c4, c5])) = some y2 := g2
    rw [show Tryz.prog.cellsOf 27 = 1 by kernel_rfl] at g2
    replace g2 : DataW.trod enc Tryz.prog W 0 (fun _ => true) true n2 27 [c2] = some y2 := g2
    obtain ⟨n3, y3, g3, hw3⟩ := trod_fieldU Tryz.underlying29 h hw 3 _ rfl
    replace g3 : DataW.trod enc Tryz.prog W 0 (fun _ => true) true n3 4 (List.take (Tryz.prog.cellsOf 4) (List.drop 3 [c0, c1, c2, c3, c4, c5])) = some y3 := g3
    rw [show Tryz.prog.cellsOf 4 = 1 by kernel_rfl] at g3
    replace g3 : DataW.trod enc Tryz.prog W 0 (fun _ => true) true n3 4 [c3] = some y3 := g3
    obtain ⟨n4, y4, g4, hw4⟩ := trod_fieldU Tryz.underlying29 h hw 4 _ rfl
    replace g4 : DataW.trod enc Tryz.prog W 0 (fun _ => true) true n4 5 (List.take (Tryz.prog.cellsOf 5) (List.drop 4 [c0, c1, c2, c3, c4, c5])) = some y4 := g4
    rw [show Tryz.prog.cellsOf 5 = 1 by kernel_rfl] at g4
    replace g4 : DataW.trod enc Tryz.prog W 0 (fun _ => true) true n4 5 [c4] = some y4 := g4
    obtain ⟨n5, y5, g5, hw5⟩ := trod_fieldU Tryz.underlying29 h hw 5 _ rfl
    replace g5 : DataW.trod enc Tryz.prog W 0 (fun _ => true) true n5 3 (List.take (Tryz.prog.cellsOf 3) (List.drop 5 [c0, c1, c2, c3, c4, c5])) = some y5 := g5
    rw [show Tryz.prog.cellsOf 3 = 1 by kernel_rfl] at g5
    replace g5 : DataW.trod enc Tryz.prog W 0 (fun _ => true) true n5 3 [c5] = some y5 := g5
    obtain ⟨v0, rfl, u0⟩ := Go.Px.trod_int Tryz.underlying5 g0
    obtain ⟨v1, rfl, u1⟩ := Go.Px.trod_int Tryz.underlying5 g1
    obtain ⟨va2, vl2, vc2, rfl, hT2⟩ := Go.Px.trod_sl Tryz.underlying27 g2
    have u2 := rowOf_trodU (α := Int) (fun xe => [.int .u8 xe]) (fun xe => (Lit.int .u8 xe).wf = true) Tryz.underlying27 (by
      intro n cs x h hl hw
      obtain ⟨c, rfl⟩ := Go.Px.trod_len Tryz.underlying5 rfl h
      obtain ⟨m, rfl, w⟩ := Go.Px.trod_int Tryz.underlying5 h
      exact ⟨m, rfl, w⟩
      ) hT2 hw2
    rw [show Tryz.prog.cellsOf 5 = 1 by kernel_rfl] at u2
    obtain ⟨v3, rfl⟩ := Go.Px.trod_bool Tryz.underlying4 g3
    obtain ⟨v4, rfl, u4⟩ := Go.Px.trod_int Tryz.underlying5 g4
    obtain ⟨v5, rfl, u5⟩ := Go.Px.trod_int Tryz.underlying3 g5
    exact ⟨⟨v0, v1, ⟨va2, vl2, vc2⟩, v3, v4, v5⟩, rfl, u0, u1, u2, trivial, u4, u5⟩
    ) k1 (UOk.of (j := 1) hu rfl)
  rw [show Tryz.prog.cellsOf 29 = 6 by kernel_rfl] at w1
  clear hA0 hval0 hsz0 hsz hu
  refine (Go.Px.Runs.below (IndexScript_row W hg a0 len0 cap0 a1 len1 cap1 w0 w1)).mono fun e W' ⟨he, bel⟩ => ?_
  subst he
  exact ⟨_, rfl, _, _, _, [], _, [], hW', trodAll_mk1 (shut_bool Tryz.underlying4 _), (trodAll_cons_mk (Below.trod laidOut (by kernel_rfl) (of_decide_eq_true (by kernel_rfl)) k0 bel lt0) (trodAll_cons_mk (Below.trod laidOut (by kernel_rfl) (of_decide_eq_true (by kernel_rfl)) k1 bel lt1) trodAll_mk0)), rfl, bel.frame _, fun h => by cases h⟩
theorem over : Rows.indexScriptUptoRow.holds Tryz.pinned (Rows.OpenSpec.upto Rows.indexScriptSpec) :=
  OpenClaim.holds_of_cond 3 Tryz.f3 rfl rfl rfl rfl rfl rfl rfl ⟨rfl, rfl, rfl, rfl, rfl⟩ rfl rfl rfl rfl rfl (by kernel_rfl) Tryz.func3 (by kernel_rfl)
    (of_decide_eq_true (by kernel_rfl)) (by unfold Func.isWrapper; first | (rw [if_pos (by decide +kernel)]; kernel_rfl) | (rw [if_neg (by decide +kernel)]; exact ⟨rfl, rfl⟩))
    (fun os started H enc _ F => by rw [OpenClaim.pre_eq_preRow]; exact lifted os started H enc F)
theorem proved : Rows.IndexScriptUptoCardSaid :=
  Claim7.holds_tied_plain_at .later [] [.data, .data, .data, .sentinel, .sentinel] true (true, "7cd2f7aa243d35113370443027c45401527c0c09bc56ee79c2ed82cac3a97922") true
    over (fun _ h => by cases h) (by kernel_rfl) (fun _ h => by cases h) indexScriptUpto_row_tie rfl ⟨rfl, rfl⟩ (by kernel_rfl) rfl
    (fun f fn hf hfn => by
      obtain rfl : f = 3 := Option.some.inj ((show Tryz.prog.funcNamed "bolter/bolterlaw17.IndexScript" = some 3 by kernel_rfl).symm.trans hf) |>.symm
      obtain rfl : fn = Tryz.f3 := (Option.some.inj (Tryz.func3.symm.trans hfn)).symm
      exact ⟨by kernel_rfl, fun j t ht => by
        rw [Tryz.params3] at ht
        match j, ht with
        | 0, ht =>
          have h : t = 22 := by simpa using ht.symm
          subst h
          exact (show Tryz.prog.wantsStandIn 22 = false by kernel_rfl)
        | 1, ht =>
          have h : t = 22 := by simpa using ht.symm
          subst h
          exact (show Tryz.prog.wantsStandIn 22 = false by kernel_rfl)
        | j + 2, ht => simp at ht⟩)
    (by kernel_rfl)
end Go.Proofs.YtcdajekafnggkaaGreatDoor.indexScript
namespace Go.Proofs.YtcdajekafnggkaaGreatDoor
/-- The tied card, under a short name. -/
theorem indexScriptUpto_holds : Rows.IndexScriptUptoCardSaid := indexScript.proved
#print axioms indexScriptUpto_holds
end Go.Proofs.YtcdajekafnggkaaGreatDoor
