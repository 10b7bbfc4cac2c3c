/- TableScript: for every input the law returns true, and its arguments read afterwards as they read before. No condition. -/
import Derived.Test.YtoeecjlencaglaaRows
import Derived.Test.YtoeecjlencaglaaTk5
import Derived.Test.YtoeecjlencaglaaPx8
import Derived.WalkKit
import Derived.ProofKit
import Derived.OpenShut
import Derived.ShutString
import Derived.ChangeOld
import Derived.Below
import Derived.SizedLaws
import Derived.Test.YtoeecjlencaglaaPx9
namespace Go.Proofs.Ytoeecjlencaglaa.tableScript
open Go.ChangeShapes Go.WideShapes Go.ChangeAt Go.RowKit
open Go.ChangeMaps (open_string shut_string)
set_option linter.unusedVariables false
theorem own : ownKnob Try.prog.godebug = none := by kernel_rfl
theorem laidOut : laidOutB Try.prog = true := by kernel_rfl
set_option maxRecDepth 100000 in
theorem lifted (os : Os) (started : os.Started) (H : Type) (enc : TypeId × Value → H) :
    ReturnsInHanded {} Try.checked os 5 .any (Rows.tableScriptSpec.pre6 enc Try.prog Try.f5 Rows.tableScriptRow.domain false) (Rows.tableScriptSpec.post enc Try.prog Try.f5 false true false false) := by
  refine returnsInHanded_of_change_sized (C := Try.checked) own started (by kernel_rfl) Try.func5
    (ChangeSpec.witness6 (enc := enc) (C := Try.checked) false ⟨#[], #[.slice none 0 0], []⟩ 8 (by kernel_rfl) (by kernel_rfl) (by kernel_rfl) (by kernel_rfl)) ?_
  intro W base args ds gs before hval0 hW hcnd hsz0 _
  have hsz : (DataW.weightsEach Try.prog (Try.f5.params.toList ++ Rows.tableScriptSpec.plain.varTypes Try.prog) (ds ++ gs)).all (· ≤ reachBytes) = true := hsz0
  have hval : ∀ (j : Nat) t v, Try.f5.params[j]? = some t → args[j]? = some v → Value.okWide Try.prog W .any base t v := hval0
  have hW' := hW
  obtain ⟨p, q, hA0, hV, rfl, hfz, hnd⟩ := hW
  have hA : DataW.TrodAll enc Try.prog W 0 (fun _ => true) true Try.f5.params.toList args.toList ds p := hA0
  rw [Try.params5] at hA hval hsz
  obtain ⟨v0, vs0, d0, ds0, p0, q0, hargs, rfl, rfl, h0, r0⟩ := trodAll_cons hA
  obtain ⟨rfl, rfl, rfl⟩ := trodAll_nil r0
  obtain rfl : args = #[v0] := by cases args; simp_all
  obtain ⟨rfl, rfl⟩ := trodVars_none hV
  obtain ⟨a0, len0, cap0, rfl⟩ := okWide_slice Try.underlying34 (hval 0 34 v0 rfl rfl)
  have k0 := h0
  have lt0 : ∀ x ∈ p0, x.block < W.heap.size := by obtain ⟨m, hm⟩ := k0; exact DataW.trod_lt m _ _ _ hm
  have w0 := Go.Px.rowOf_trod (α := Int × Int × Int) (fun x => [.int .u8 x.1, .int .u8 x.2.1, .int .i64 x.2.2]) (fun x => (Lit.int .u8 x.1).wf = true ∧ (Lit.int .u8 x.2.1).wf = true ∧ (Lit.int .i64 x.2.2).wf = true) Try.underlying34 (by
    intro n cs x h hl
    have hl' : cs.length = 3 := hl.trans (by kernel_rfl)
    obtain ⟨c0, c1, c2, rfl⟩ : ∃ c0 c1 c2, cs = [c0, c1, c2] := by
      match cs, hl' with
      | [c0, c1, c2], _ => exact ⟨c0, c1, c2, rfl⟩
    obtain ⟨n0, y0, g0⟩ := Go.Px.trod_field Try.underlying41 h 0 _ rfl
    replace g0 : DataW.trod enc Try.prog W 0 (fun _ => true) true n0 5 (List.take (Try.prog.cellsOf 5) (List.drop 0 [c0, c1, c2])) = some y0 := g0
    rw [show Try.prog.cellsOf 5 = 1 by kernel_rfl] at g0
    replace g0 : DataW.trod enc Try.prog W 0 (fun _ => true) true n0 5 [c0] = some y0 := g0
    obtain ⟨n1, y1, g1⟩ := Go.Px.trod_field Try.underlying41 h 1 _ rfl
    replace g1 : DataW.trod enc Try.prog W 0 (fun _ => true) true n1 5 (List.take (Try.prog.cellsOf 5) (List.drop 1 [c0, c1, c2])) = some y1 := g1
    rw [show Try.prog.cellsOf 5 = 1 by kernel_rfl] at g1
    replace g1 : DataW.trod enc Try.prog W 0 (fun _ => true) true n1 5 [c1] = some y1 := g1
    obtain ⟨n2, y2, g2⟩ := Go.Px.trod_field Try.underlying41 h 2 _ rfl
    replace g2 : DataW.trod enc Try.prog W 0 (fun _ => true) true n2 3 (List.take (Try.prog.cellsOf 3) (List.drop 2 [c0, c1, c2])) = some y2 := g2
    rw [show Try.prog.cellsOf 3 = 1 by kernel_rfl] at g2
    replace g2 : DataW.trod enc Try.prog W 0 (fun _ => true) true n2 3 [c2] = some y2 := g2
    obtain ⟨v0, rfl, u0⟩ := Go.Px.trod_int Try.underlying5 g0
    obtain ⟨v1, rfl, u1⟩ := Go.Px.trod_int Try.underlying5 g1
    obtain ⟨v2, rfl, u2⟩ := Go.Px.trod_int Try.underlying3 g2
    exact ⟨⟨v0, v1, v2⟩, rfl, u0, u1, u2⟩
    ) k0
  rw [show Try.prog.cellsOf 41 = 3 by kernel_rfl] at w0
  have z0 := Go.Px.weight_of 0 hsz rfl rfl Try.underlying34 (by decide +kernel) k0
  clear hA0 hval0 hsz0 hsz
  refine (Go.Px.Runs.below (Go.Proofs.Ytoeecjlencaglaa.TableScript_row W a0 len0 cap0 w0 z0)).mono fun e W' ⟨he, bel⟩ => ?_
  subst he
  exact ⟨_, rfl, _, _, _, [], _, [], hW', trodAll_mk1 (shut_bool Try.underlying4 _), (trodAll_cons_mk (Below.trod laidOut (by kernel_rfl) (of_decide_eq_true (by kernel_rfl)) k0 bel lt0) trodAll_mk0), rfl, bel.frame _, fun h => by cases h⟩
theorem over : Rows.tableScriptRow.holds Try.pinned (OpenSpec.ofChange Rows.tableScriptSpec) :=
  OpenClaim.holds_of_wide 5 Try.f5 rfl rfl rfl rfl rfl rfl rfl ⟨rfl, rfl, rfl, rfl, rfl⟩ rfl rfl rfl rfl rfl (by kernel_rfl) Try.func5 (by kernel_rfl)
    (of_decide_eq_true (by kernel_rfl)) (by unfold Func.isWrapper; first | (rw [if_pos (by decide +kernel)]; kernel_rfl) | (rw [if_neg (by decide +kernel)]; exact ⟨rfl, rfl⟩))
    (fun os started H enc _ => lifted os started H enc)
theorem proved : Rows.TableScriptSaid := over
end Go.Proofs.Ytoeecjlencaglaa.tableScript
namespace Go.Proofs.Ytoeecjlencaglaa
/-- The row, under a short name. -/
theorem tableScript_holds : Rows.TableScriptSaid := tableScript.proved
#print axioms tableScript_holds
end Go.Proofs.Ytoeecjlencaglaa
