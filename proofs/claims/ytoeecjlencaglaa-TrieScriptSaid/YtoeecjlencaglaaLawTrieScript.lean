/- TrieScript: for every input the law returns true, and its arguments read afterwards as they read before. No condition. -/
import Derived.Test.YtoeecjlencaglaaRows
import Derived.Test.YtoeecjlencaglaaTr16
import Derived.Test.YtoeecjlencaglaaPx8
import Derived.WalkKit
import Derived.ProofKit
import Derived.OpenShut
import Derived.ShutString
import Derived.ChangeOld
import Derived.Below
import Derived.SizedLaws
import Derived.Test.YtoeecjlencaglaaPx9
namespace Go.Proofs.Ytoeecjlencaglaa.trieScript
open Go.ChangeShapes Go.WideShapes Go.ChangeAt Go.RowKit
open Go.ChangeMaps (open_string shut_string)
set_option linter.unusedVariables false
theorem own : ownKnob Try.prog.godebug = none := by kernel_rfl
theorem laidOut : laidOutB Try.prog = true := by kernel_rfl
set_option maxRecDepth 100000 in
theorem lifted (os : Os) (started : os.Started) (H : Type) (enc : TypeId × Value → H) :
    ReturnsInHanded {} Try.checked os 11 .any (Rows.trieScriptSpec.pre6 enc Try.prog Try.f11 Rows.trieScriptRow.domain false) (Rows.trieScriptSpec.post enc Try.prog Try.f11 false true false false) := by
  refine returnsInHanded_of_change_sized (C := Try.checked) own started (by kernel_rfl) Try.func11
    (ChangeSpec.witness6 (enc := enc) (C := Try.checked) false ⟨#[], #[.slice none 0 0, .slice none 0 0], []⟩ 8 (by kernel_rfl) (by kernel_rfl) (by kernel_rfl) (by kernel_rfl)) ?_
  intro W base args ds gs before hval0 hW hcnd hsz0 _
  have hsz : (DataW.weightsEach Try.prog (Try.f11.params.toList ++ Rows.trieScriptSpec.plain.varTypes Try.prog) (ds ++ gs)).all (· ≤ reachBytes) = true := hsz0
  have hval : ∀ (j : Nat) t v, Try.f11.params[j]? = some t → args[j]? = some v → Value.okWide Try.prog W .any base t v := hval0
  have hW' := hW
  obtain ⟨p, q, hA0, hV, rfl, hfz, hnd⟩ := hW
  have hA : DataW.TrodAll enc Try.prog W 0 (fun _ => true) true Try.f11.params.toList args.toList ds p := hA0
  rw [Try.params11] at hA hval hsz
  obtain ⟨v0, vs0, d0, ds0, p0, q0, hargs, rfl, rfl, h0, r0⟩ := trodAll_cons hA
  obtain ⟨v1, vs1, d1, ds1, p1, q1, rfl, rfl, rfl, h1, r1⟩ := trodAll_cons r0
  obtain ⟨rfl, rfl, rfl⟩ := trodAll_nil r1
  obtain rfl : args = #[v0, v1] := by cases args; simp_all
  obtain ⟨rfl, rfl⟩ := trodVars_none hV
  obtain ⟨a0, len0, cap0, rfl⟩ := okWide_slice Try.underlying54 (hval 0 54 v0 rfl rfl)
  have k0 := h0
  have lt0 : ∀ x ∈ p0, x.block < W.heap.size := by obtain ⟨m, hm⟩ := k0; exact DataW.trod_lt m _ _ _ hm
  have w0 := Go.Px.rowOf_trod (α := Int × Int × Int × Int) (fun x => [.int .u8 x.1, .int .u16 x.2.1, .int .u8 x.2.2.1, .int .i64 x.2.2.2]) (fun x => (Lit.int .u8 x.1).wf = true ∧ (Lit.int .u16 x.2.1).wf = true ∧ (Lit.int .u8 x.2.2.1).wf = true ∧ (Lit.int .i64 x.2.2.2).wf = true) Try.underlying54 (by
    intro n cs x h hl
    have hl' : cs.length = 4 := hl.trans (by kernel_rfl)
    obtain ⟨c0, c1, c2, c3, rfl⟩ : ∃ c0 c1 c2 c3, cs = [c0, c1, c2, c3] := by
      match cs, hl' with
      | [c0, c1, c2, c3], _ => exact ⟨c0, c1, c2, c3, rfl⟩
    obtain ⟨n0, y0, g0⟩ := Go.Px.trod_field Try.underlying57 h 0 _ rfl
    replace g0 : DataW.trod enc Try.prog W 0 (fun _ => true) true n0 5 (List.take (Try.prog.cellsOf 5) (List.drop 0 [c0, c1, c2, c3])) = some y0 := g0
    rw [show Try.prog.cellsOf 5 = 1 by kernel_rfl] at g0
    replace g0 : DataW.trod enc Try.prog W 0 (fun _ => true) true n0 5 [c0] = some y0 := g0
    obtain ⟨n1, y1, g1⟩ := Go.Px.trod_field Try.underlying57 h 1 _ rfl
    replace g1 : DataW.trod enc Try.prog W 0 (fun _ => true) true n1 47 (List.take (Try.prog.cellsOf 47) (List.drop 1 [c0, c1, c2, c3])) = some y1 := g1
    rw [show Try.prog.cellsOf 47 = 1 by kernel_rfl] at g1
    replace g1 : DataW.trod enc Try.prog W 0 (fun _ => true) true n1 47 [c1] = some y1 := g1
    obtain ⟨n2, y2, g2⟩ := Go.Px.trod_field Try.underlying57 h 2 _ rfl
    replace g2 : DataW.trod enc Try.prog W 0 (fun _ => true) true n2 5 (List.take (Try.prog.cellsOf 5) (List.drop 2 [c0, c1, c2, c3])) = some y2 := g2
    rw [show Try.prog.cellsOf 5 = 1 by kernel_rfl] at g2
    replace g2 : DataW.trod enc Try.prog W 0 (fun _ => true) true n2 5 [c2] = some y2 := g2
    obtain ⟨n3, y3, g3⟩ := Go.Px.trod_field Try.underlying57 h 3 _ rfl
    replace g3 : DataW.trod enc Try.prog W 0 (fun _ => true) true n3 3 (List.take (Try.prog.cellsOf 3) (List.drop 3 [c0, c1, c2, c3])) = some y3 := g3
    rw [show Try.prog.cellsOf 3 = 1 by kernel_rfl] at g3
    replace g3 : DataW.trod enc Try.prog W 0 (fun _ => true) true n3 3 [c3] = some y3 := g3
    obtain ⟨v0, rfl, u0⟩ := Go.Px.trod_int Try.underlying5 g0
    obtain ⟨v1, rfl, u1⟩ := Go.Px.trod_int Try.underlying47 g1
    obtain ⟨v2, rfl, u2⟩ := Go.Px.trod_int Try.underlying5 g2
    obtain ⟨v3, rfl, u3⟩ := Go.Px.trod_int Try.underlying3 g3
    exact ⟨⟨v0, v1, v2, v3⟩, rfl, u0, u1, u2, u3⟩
    ) k0
  rw [show Try.prog.cellsOf 57 = 4 by kernel_rfl] at w0
  have z0 := Go.Px.weight_of 0 hsz rfl rfl Try.underlying54 (by decide +kernel) k0
  obtain ⟨a1, len1, cap1, rfl⟩ := okWide_slice Try.underlying60 (hval 1 60 v1 rfl rfl)
  have k1 := h1
  have lt1 : ∀ x ∈ p1, x.block < W.heap.size := by obtain ⟨m, hm⟩ := k1; exact DataW.trod_lt m _ _ _ hm
  have w1 := Go.Px.rowOf_trod (α := Int) (fun x => [.int .u16 x]) (fun x => (Lit.int .u16 x).wf = true) Try.underlying60 (by
    intro n cs x h hl
    obtain ⟨c, rfl⟩ := Go.Px.trod_len Try.underlying47 rfl h
    obtain ⟨m, rfl, w⟩ := Go.Px.trod_int Try.underlying47 h
    exact ⟨m, rfl, w⟩
    ) k1
  rw [show Try.prog.cellsOf 47 = 1 by kernel_rfl] at w1
  have z1 := Go.Px.weight_of 1 hsz rfl rfl Try.underlying60 (by decide +kernel) k1
  clear hA0 hval0 hsz0 hsz
  refine (Go.Px.Runs.below (Go.Proofs.Ytoeecjlencaglaa.TrieScript_row W a0 len0 cap0 a1 len1 cap1 w0 z0 w1 z1)).mono fun e W' ⟨he, bel⟩ => ?_
  subst he
  exact ⟨_, rfl, _, _, _, [], _, [], hW', trodAll_mk1 (shut_bool Try.underlying4 _), (trodAll_cons_mk (Below.trod laidOut (by kernel_rfl) (of_decide_eq_true (by kernel_rfl)) k0 bel lt0) (trodAll_cons_mk (Below.trod laidOut (by kernel_rfl) (of_decide_eq_true (by kernel_rfl)) k1 bel lt1) trodAll_mk0)), rfl, bel.frame _, fun h => by cases h⟩
theorem over : Rows.trieScriptRow.holds Try.pinned (OpenSpec.ofChange Rows.trieScriptSpec) :=
  OpenClaim.holds_of_wide 11 Try.f11 rfl rfl rfl rfl rfl rfl rfl ⟨rfl, rfl, rfl, rfl, rfl⟩ rfl rfl rfl rfl rfl (by kernel_rfl) Try.func11 (by kernel_rfl)
    (of_decide_eq_true (by kernel_rfl)) (by unfold Func.isWrapper; first | (rw [if_pos (by decide +kernel)]; kernel_rfl) | (rw [if_neg (by decide +kernel)]; exact ⟨rfl, rfl⟩))
    (fun os started H enc _ => lifted os started H enc)
theorem proved : Rows.TrieScriptSaid := over
end Go.Proofs.Ytoeecjlencaglaa.trieScript
namespace Go.Proofs.Ytoeecjlencaglaa
/-- The row, under a short name. -/
theorem trieScript_holds : Rows.TrieScriptSaid := trieScript.proved
#print axioms trieScript_holds
end Go.Proofs.Ytoeecjlencaglaa
