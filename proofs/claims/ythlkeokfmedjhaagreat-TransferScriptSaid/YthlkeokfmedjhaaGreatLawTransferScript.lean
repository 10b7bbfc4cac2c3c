/- TransferScript: for every input the law returns true, and its arguments read afterwards as they read before. No condition. -/
import Derived.Test.YthlkeokfmedjhaaGreatRows
import Derived.Test.YthlkeokfmedjhaaGreatM1TransferScript
import Derived.Test.YthlkeokfmedjhaaGreatM2TransferScript
import Derived.Test.YthlkeokfmedjhaaGreatM3TransferScript
import Derived.Test.YthlkeokfmedjhaaGreatM4TransferScript
import Derived.Test.YthlkeokfmedjhaaGreatM5TransferScript
import Derived.Test.YthlkeokfmedjhaaGreatM6TransferScript
import Derived.Test.YthlkeokfmedjhaaGreatM7TransferScript
import Derived.Test.YthlkeokfmedjhaaGreatM8TransferScript
import Derived.WalkKit
import Derived.ProofKit
import Derived.OpenShut
import Derived.ShutString
import Derived.ChangeOld
import Derived.Below
import Derived.SizedLaws
namespace Go.Proofs.YthlkeokfmedjhaaGreat.transferScript
open Go.ChangeShapes Go.WideShapes Go.ChangeAt Go.RowKit
open Go.ChangeMaps (open_string shut_string)
set_option linter.unusedVariables false
theorem own : ownKnob Tryz.prog.godebug = none := by kernel_rfl
theorem laidOut : laidOutB Tryz.prog = true := by kernel_rfl
set_option maxRecDepth 100000 in
theorem lifted (os : Os) (started : os.Started) (H : Type) (enc : TypeId × Value → H) :
    ReturnsInHanded {} Tryz.checked os 6 .any (Rows.transferScriptSpec.pre6 enc Tryz.prog Tryz.f6 Rows.transferScriptRow.domain false) (Rows.transferScriptSpec.post enc Tryz.prog Tryz.f6 false true false false) := by
  refine returnsInHanded_of_change_sized (C := Tryz.checked) own started (by kernel_rfl) Tryz.func6
    (ChangeSpec.witness6 (enc := enc) (C := Tryz.checked) false ⟨#[], #[.int .u8 0, .slice none 0 0], []⟩ 8 (by kernel_rfl) (by kernel_rfl) (by kernel_rfl) (by kernel_rfl)) ?_
  intro W base args ds gs before hval0 hW hcnd hsz0 _
  have hsz : (DataW.weightsEach Tryz.prog (Tryz.f6.params.toList ++ Rows.transferScriptSpec.plain.varTypes Tryz.prog) (ds ++ gs)).all (· ≤ reachBytes) = true := hsz0
  have hval : ∀ (j : Nat) t v, Tryz.f6.params[j]? = some t → args[j]? = some v → Value.okWide Tryz.prog W .any base t v := hval0
  have hW' := hW
  obtain ⟨p, q, hA0, hV, rfl, hfz, hnd⟩ := hW
  have hA : DataW.TrodAll enc Tryz.prog W 0 (fun _ => true) true Tryz.f6.params.toList args.toList ds p := hA0
  rw [Tryz.params6] at hA hval hsz
  obtain ⟨v0, vs0, d0, ds0, p0, q0, hargs, rfl, rfl, h0, r0⟩ := trodAll_cons hA
  obtain ⟨v1, vs1, d1, ds1, p1, q1, rfl, rfl, rfl, h1, r1⟩ := trodAll_cons r0
  obtain ⟨rfl, rfl, rfl⟩ := trodAll_nil r1
  obtain rfl : args = #[v0, v1] := by cases args; simp_all
  obtain ⟨rfl, rfl⟩ := trodVars_none hV
  obtain ⟨a0, rfl, rfl, rfl, w0⟩ := open_int Tryz.underlying5 (hval 0 5 v0 rfl rfl) h0
  obtain ⟨a1, len1, cap1, rfl⟩ := okWide_slice Tryz.underlying58 (hval 1 58 v1 rfl rfl)
  have k1 := h1
  have lt1 : ∀ x ∈ p1, x.block < W.heap.size := by obtain ⟨m, hm⟩ := k1; exact DataW.trod_lt m _ _ _ hm
  have w1 := Go.Px.rowOf_trod (α := Int × Int × Int × Int × (Option Addr × Nat × Nat)) (fun x => [.int .u8 x.1, .int .u8 x.2.1, .int .u8 x.2.2.1, .int .u32 x.2.2.2.1, .slice x.2.2.2.2.1 x.2.2.2.2.2.1 x.2.2.2.2.2.2]) (fun x => (Lit.int .u8 x.1).wf = true ∧ (Lit.int .u8 x.2.1).wf = true ∧ (Lit.int .u8 x.2.2.1).wf = true ∧ (Lit.int .u32 x.2.2.2.1).wf = true ∧ (x.2.2.2.2.2.1 ≤ x.2.2.2.2.2.2 ∧ x.2.2.2.2.2.2 ≤ maxLen ∧ ∃ ys : List ((Option Addr × Nat × Nat) × Int × Int × (Option Addr × Nat × Nat) × ByteArray), Go.Px.SlIn (Go.Px.imW W) x.2.2.2.2.1 x.2.2.2.2.2.1 5 (fun xe => [.slice xe.1.1 xe.1.2.1 xe.1.2.2, .int .u8 xe.2.1, .int .u32 xe.2.2.1, .slice xe.2.2.2.1.1 xe.2.2.2.1.2.1 xe.2.2.2.1.2.2, .string xe.2.2.2.2]) ys ∧ ∀ y ∈ ys, (fun xe => (xe.1.2.1 ≤ xe.1.2.2 ∧ xe.1.2.2 ≤ maxLen ∧ ∃ ys : List (Int), Go.Px.SlIn (Go.Px.imW W) xe.1.1 xe.1.2.1 1 (fun xe => [.int .u8 xe]) ys ∧ ∀ y ∈ ys, (fun xe => (Lit.int .u8 xe).wf = true) y) ∧ (Lit.int .u8 xe.2.1).wf = true ∧ (Lit.int .u32 xe.2.2.1).wf = true ∧ (xe.2.2.2.1.2.1 ≤ xe.2.2.2.1.2.2 ∧ xe.2.2.2.1.2.2 ≤ maxLen ∧ ∃ ys : List (Int), Go.Px.SlIn (Go.Px.imW W) xe.2.2.2.1.1 xe.2.2.2.1.2.1 1 (fun xe => [.int .u8 xe]) ys ∧ ∀ y ∈ ys, (fun xe => (Lit.int .u8 xe).wf = true) y) ∧ xe.2.2.2.2.size ≤ maxLen) y)) Tryz.underlying58 (by
    intro n cs x h hl
    have hl' : cs.length = 5 := hl.trans (by kernel_rfl)
    obtain ⟨c0, c1, c2, c3, c4, rfl⟩ : ∃ c0 c1 c2 c3 c4, cs = [c0, c1, c2, c3, c4] := by
      match cs, hl' with
      | [c0, c1, c2, c3, c4], _ => exact ⟨c0, c1, c2, c3, c4, rfl⟩
    obtain ⟨n0, y0, g0⟩ := Go.Px.trod_field Tryz.underlying64 h 0 _ rfl
    replace g0 : DataW.trod enc Tryz.prog W 0 (fun _ => true) true n0 5 (List.take (Tryz.prog.cellsOf 5) (List.drop 0 [c0, c1, c2, c3, c4])) = some y0 := g0
    rw [show Tryz.prog.cellsOf 5 = 1 by kernel_rfl] at g0
    replace g0 : DataW.trod enc Tryz.prog W 0 (fun _ => true) true n0 5 [c0] = some y0 := g0
    obtain ⟨n1, y1, g1⟩ := Go.Px.trod_field Tryz.underlying64 h 1 _ rfl
    replace g1 : DataW.trod enc Tryz.prog W 0 (fun _ => true) true n1 5 (List.take (Tryz.prog.cellsOf 5) (List.drop 1 [c0, c1, c2, c3, c4])) = some y1 := g1
    rw [show Tryz.prog.cellsOf 5 = 1 by kernel_rfl] at g1
    replace g1 : DataW.trod enc Tryz.prog W 0 (fun _ => true) true n1 5 [c1] = some y1 := g1
    obtain ⟨n2, y2, g2⟩ := Go.Px.trod_field Tryz.underlying64 h 2 _ rfl
    replace g2 : DataW.trod enc Tryz.prog W 0 (fun _ => true) true n2 5 (List.take (Tryz.prog.cellsOf 5) (List.drop 2 [c0, c1, c2, c3, c4])) = some y2 := g2
    rw [show Tryz.prog.cellsOf 5 = 1 by kernel_rfl] at g2
    replace g2 : DataW.trod enc Tryz.prog W 0 (fun _ => true) true n2 5 [c2] = some y2 := g2
    obtain ⟨n3, y3, g3⟩ := Go.Px.trod_field Tryz.underlying64 h 3 _ rfl
    replace g3 : DataW.trod enc Tryz.prog W 0 (fun _ => true) true n3 30 (List.take (Tryz.prog.cellsOf 30) (List.drop 3 [c0, c1, c2, c3, c4])) = some y3 := g3
    rw [show Tryz.prog.cellsOf 30 = 1 by kernel_rfl] at g3
    replace g3 : DataW.trod enc Tryz.prog W 0 (fun _ => true) true n3 30 [c3] = some y3 := g3
    obtain ⟨n4, y4, g4⟩ := Go.Px.trod_field Tryz.underlying64 h 4 _ rfl
    replace g4 : DataW.trod enc Tryz.prog W 0 (fun _ => true) true n4 22 (List.take (Tryz.prog.cellsOf 22) (List.drop 4 [c0, c1, c2, c3, c4])) = some y4 := g4
    rw [show Tryz.prog.cellsOf 22 = 1 by kernel_rfl] at g4
    replace g4 : DataW.trod enc Tryz.prog W 0 (fun _ => true) true n4 22 [c4] = some y4 := g4
    obtain ⟨v0, rfl, u0⟩ := Go.Px.trod_int Tryz.underlying5 g0
    obtain ⟨v1, rfl, u1⟩ := Go.Px.trod_int Tryz.underlying5 g1
    obtain ⟨v2, rfl, u2⟩ := Go.Px.trod_int Tryz.underlying5 g2
    obtain ⟨v3, rfl, u3⟩ := Go.Px.trod_int Tryz.underlying30 g3
    obtain ⟨va4, vl4, vc4, rfl, hT4⟩ := Go.Px.trod_sl Tryz.underlying22 g4
    have u4 := Go.Px.rowOf_trod (α := (Option Addr × Nat × Nat) × Int × Int × (Option Addr × Nat × Nat) × ByteArray) (fun xe => [.slice xe.1.1 xe.1.2.1 xe.1.2.2, .int .u8 xe.2.1, .int .u32 xe.2.2.1, .slice xe.2.2.2.1.1 xe.2.2.2.1.2.1 xe.2.2.2.1.2.2, .string xe.2.2.2.2]) (fun xe => (xe.1.2.1 ≤ xe.1.2.2 ∧ xe.1.2.2 ≤ maxLen ∧ ∃ ys : List (Int), Go.Px.SlIn (Go.Px.imW W) xe.1.1 xe.1.2.1 1 (fun xe => [.int .u8 xe]) ys ∧ ∀ y ∈ ys, (fun xe => (Lit.int .u8 xe).wf = true) y) ∧ (Lit.int .u8 xe.2.1).wf = true ∧ (Lit.int .u32 xe.2.2.1).wf = true ∧ (xe.2.2.2.1.2.1 ≤ xe.2.2.2.1.2.2 ∧ xe.2.2.2.1.2.2 ≤ maxLen ∧ ∃ ys : List (Int), Go.Px.SlIn (Go.Px.imW W) xe.2.2.2.1.1 xe.2.2.2.1.2.1 1 (fun xe => [.int .u8 xe]) ys ∧ ∀ y ∈ ys, (fun xe => (Lit.int .u8 xe).wf = true) y) ∧ xe.2.2.2.2.size ≤ maxLen) Tryz.underlying22 (by
      intro n cs x h hl
      have hl' : cs.length = 5 := hl.trans (by kernel_rfl)
      obtain ⟨c0, c1, c2, c3, c4, rfl⟩ : ∃ c0 c1 c2 c3 c4, cs = [c0, c1, c2, c3, c4] := by
        match cs, hl' with
        | [c0, c1, c2, c3, c4], _ => exact ⟨c0, c1, c2, c3, c4, rfl⟩
      obtain ⟨n0, y0, g0⟩ := Go.Px.trod_field Tryz.underlying107 h 0 _ rfl
      replace g0 : DataW.trod enc Tryz.prog W 0 (fun _ => true) true n0 55 (List.take (Tryz.prog.cellsOf 55) (List.drop 0 [c0, c1, c2, c3, c4])) = some y0 := g0
      rw [show Tryz.prog.cellsOf 55 = 1 by kernel_rfl] at g0
      replace g0 : DataW.trod enc Tryz.prog W 0 (fun _ => true) true n0 55 [c0] = some y0 := g0
      obtain ⟨n1, y1, g1⟩ := Go.Px.trod_field Tryz.underlying107 h 1 _ rfl
      replace g1 : DataW.trod enc Tryz.prog W 0 (fun _ => true) true n1 5 (List.take (Tryz.prog.cellsOf 5) (List.drop 1 [c0, c1, c2, c3, c4])) = some y1 := g1
      rw [show Tryz.prog.cellsOf 5 = 1 by kernel_rfl] at g1
      replace g1 : DataW.trod enc Tryz.prog W 0 (fun _ => true) true n1 5 [c1] = some y1 := g1
      obtain ⟨n2, y2, g2⟩ := Go.Px.trod_field Tryz.underlying107 h 2 _ rfl
      replace g2 : DataW.trod enc Tryz.prog W 0 (fun _ => true) true n2 30 (List.take (Tryz.prog.cellsOf 30) (List.drop 2 [c0, c1, c2, c3, c4])) = some y2 := g2
      rw [show Tryz.prog.cellsOf 30 = 1 by kernel_rfl] at g2
      replace g2 : DataW.trod enc Tryz.prog W 0 (fun _ => true) true n2 30 [c2] = some y2 := g2
      obtain ⟨n3, y3, g3⟩ := Go.Px.trod_field Tryz.underlying107 h 3 _ rfl
      replace g3 : DataW.trod enc Tryz.prog W 0 (fun _ => true) true n3 55 (List.take (Tryz.prog.cellsOf 55) (List.drop 3 [c0, c1, c2, c3, c4])) = some y3 := g3
      rw [show Tryz.prog.cellsOf 55 = 1 by kernel_rfl] at g3
      replace g3 : DataW.trod enc Tryz.prog W 0 (fun _ => true) true n3 55 [c3] = some y3 := g3
      obtain ⟨n4, y4, g4⟩ := Go.Px.trod_field Tryz.underlying107 h 4 _ rfl
      replace g4 : DataW.trod enc Tryz.prog W 0 (fun _ => true) true n4 9 (List.take (Tryz.prog.cellsOf 9) (List.drop 4 [c0, c1, c2, c3, c4])) = some y4 := g4
      rw [show Tryz.prog.cellsOf 9 = 1 by kernel_rfl] at g4
      replace g4 : DataW.trod enc Tryz.prog W 0 (fun _ => true) true n4 9 [c4] = some y4 := g4
      obtain ⟨va0, vl0, vc0, rfl, hT0⟩ := Go.Px.trod_sl Tryz.underlying55 g0
      have u0 := Go.Px.rowOf_trod (α := Int) (fun xe => [.int .u8 xe]) (fun xe => (Lit.int .u8 xe).wf = true) Tryz.underlying55 (by
        intro n cs x h hl
        obtain ⟨c, rfl⟩ := Go.Px.trod_len Tryz.underlying5 rfl h
        obtain ⟨m, rfl, w⟩ := Go.Px.trod_int Tryz.underlying5 h
        exact ⟨m, rfl, w⟩
        ) hT0
      rw [show Tryz.prog.cellsOf 5 = 1 by kernel_rfl] at u0
      obtain ⟨v1, rfl, u1⟩ := Go.Px.trod_int Tryz.underlying5 g1
      obtain ⟨v2, rfl, u2⟩ := Go.Px.trod_int Tryz.underlying30 g2
      obtain ⟨va3, vl3, vc3, rfl, hT3⟩ := Go.Px.trod_sl Tryz.underlying55 g3
      have u3 := Go.Px.rowOf_trod (α := Int) (fun xe => [.int .u8 xe]) (fun xe => (Lit.int .u8 xe).wf = true) Tryz.underlying55 (by
        intro n cs x h hl
        obtain ⟨c, rfl⟩ := Go.Px.trod_len Tryz.underlying5 rfl h
        obtain ⟨m, rfl, w⟩ := Go.Px.trod_int Tryz.underlying5 h
        exact ⟨m, rfl, w⟩
        ) hT3
      rw [show Tryz.prog.cellsOf 5 = 1 by kernel_rfl] at u3
      obtain ⟨v4, rfl, u4⟩ := Go.Px.trod_str Tryz.underlying9 g4
      exact ⟨⟨⟨va0, vl0, vc0⟩, v1, v2, ⟨va3, vl3, vc3⟩, v4⟩, rfl, u0, u1, u2, u3, u4⟩
      ) hT4
    rw [show Tryz.prog.cellsOf 107 = 5 by kernel_rfl] at u4
    exact ⟨⟨v0, v1, v2, v3, ⟨va4, vl4, vc4⟩⟩, rfl, u0, u1, u2, u3, u4⟩
    ) k1
  rw [show Tryz.prog.cellsOf 64 = 5 by kernel_rfl] at w1
  have z1 := Go.Px.weight_of 1 hsz rfl rfl Tryz.underlying58 (by decide +kernel) k1
  clear hA0 hval0 hsz0 hsz
  refine (Go.Px.Runs.below (TransferScript_row W a0 a1 len1 cap1 w0 w1 z1)).mono fun e W' ⟨he, bel⟩ => ?_
  subst he
  exact ⟨_, rfl, _, _, _, [], _, [], hW', trodAll_mk1 (shut_bool Tryz.underlying4 _), (trodAll_cons_mk (shut_int Tryz.underlying5 w0) (trodAll_cons_mk (Below.trod laidOut (by kernel_rfl) (of_decide_eq_true (by kernel_rfl)) k1 bel lt1) trodAll_mk0)), rfl, bel.frame _, fun h => by cases h⟩
theorem over : Rows.transferScriptRow.holds Tryz.pinned (OpenSpec.ofChange Rows.transferScriptSpec) :=
  OpenClaim.holds_of_wide 6 Tryz.f6 rfl rfl rfl rfl rfl rfl rfl ⟨rfl, rfl, rfl, rfl, rfl⟩ rfl rfl rfl rfl rfl (by kernel_rfl) Tryz.func6 (by kernel_rfl)
    (of_decide_eq_true (by kernel_rfl)) (by unfold Func.isWrapper; first | (rw [if_pos (by decide +kernel)]; kernel_rfl) | (rw [if_neg (by decide +kernel)]; exact ⟨rfl, rfl⟩))
    (fun os started H enc _ => lifted os started H enc)
theorem proved : Rows.TransferScriptSaid := over
end Go.Proofs.YthlkeokfmedjhaaGreat.transferScript
namespace Go.Proofs.YthlkeokfmedjhaaGreat
/-- The row, under a short name. -/
theorem transferScript_holds : Rows.TransferScriptSaid := transferScript.proved
#print axioms transferScript_holds
end Go.Proofs.YthlkeokfmedjhaaGreat
