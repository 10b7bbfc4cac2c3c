/- ZoneCompare: for every input the law returns true, and its arguments read afterwards as they read before. No condition. -/
import Derived.Test.YtdajglfbbcbgpaaRows
import Derived.Test.YtdajglfbbcbgpaaZc5
import Derived.Test.YtdajglfbbcbgpaaPx8
import Derived.WalkKit
import Derived.ProofKit
import Derived.OpenShut
import Derived.ShutString
import Derived.ChangeOld
import Derived.Below
import Derived.SizedLaws
import Derived.Test.YtdajglfbbcbgpaaPx9
namespace Go.Proofs.Ytdajglfbbcbgpaa.zoneCompare
open Go.ChangeShapes Go.WideShapes Go.ChangeAt Go.RowKit
open Go.ChangeMaps (open_string shut_string)
set_option linter.unusedVariables false
theorem own : ownKnob Try.prog.godebug = none := by kernel_rfl
theorem laidOut : laidOutB Try.prog = true := by kernel_rfl
set_option maxRecDepth 100000 in
theorem lifted (os : Os) (started : os.Started) (H : Type) (enc : TypeId × Value → H) :
    ReturnsInHanded {} Try.checked os 3 .any (Rows.zoneCompareSpec.pre6 enc Try.prog Try.f3 Rows.zoneCompareRow.domain false) (Rows.zoneCompareSpec.post enc Try.prog Try.f3 false true false false) := by
  refine returnsInHanded_of_change_sized (C := Try.checked) own started (by kernel_rfl) Try.func3
    (ChangeSpec.witness6 (enc := enc) (C := Try.checked) false ⟨#[], #[.agg #[.string ByteArray.empty, .int .u16 0, .int .u32 0, .string ByteArray.empty], .agg #[.string ByteArray.empty, .int .u16 0, .int .u32 0, .string ByteArray.empty], .agg #[.string ByteArray.empty, .int .u16 0, .int .u32 0, .string ByteArray.empty]], []⟩ 8 (by kernel_rfl) (by kernel_rfl) (by kernel_rfl) (by kernel_rfl)) ?_
  intro W base args ds gs before hval0 hW hcnd hsz0 _
  have hsz : (DataW.weightsEach Try.prog (Try.f3.params.toList ++ Rows.zoneCompareSpec.plain.varTypes Try.prog) (ds ++ gs)).all (· ≤ reachBytes) = true := hsz0
  have hval : ∀ (j : Nat) t v, Try.f3.params[j]? = some t → args[j]? = some v → Value.okWide Try.prog W .any base t v := hval0
  have hW' := hW
  obtain ⟨p, q, hA0, hV, rfl, hfz, hnd⟩ := hW
  have hA : DataW.TrodAll enc Try.prog W 0 (fun _ => true) true Try.f3.params.toList args.toList ds p := hA0
  rw [Try.params3] at hA hval hsz
  obtain ⟨v0, vs0, d0, ds0, p0, q0, hargs, rfl, rfl, h0, r0⟩ := trodAll_cons hA
  obtain ⟨v1, vs1, d1, ds1, p1, q1, rfl, rfl, rfl, h1, r1⟩ := trodAll_cons r0
  obtain ⟨v2, vs2, d2, ds2, p2, q2, rfl, rfl, rfl, h2, r2⟩ := trodAll_cons r1
  obtain ⟨rfl, rfl, rfl⟩ := trodAll_nil r2
  obtain rfl : args = #[v0, v1, v2] := by cases args; simp_all
  obtain ⟨rfl, rfl⟩ := trodVars_none hV
  obtain ⟨cs0, rfl, hs0⟩ := okWide_struct Try.underlying27 (hval 0 27 v0 rfl rfl)
  have k0 := h0
  have lt0 : ∀ x ∈ p0, x.block < W.heap.size := by obtain ⟨m, hm⟩ := k0; exact DataW.trod_lt m _ _ _ hm
  obtain ⟨y0, hy0, w0⟩ : ∃ y : ByteArray × Int × Int × ByteArray, cs0 = ((fun x => [.string x.1, .int .u16 x.2.1, .int .u32 x.2.2.1, .string x.2.2.2]) y).toArray ∧ (fun x => x.1.size ≤ maxLen ∧ (Lit.int .u16 x.2.1).wf = true ∧ (Lit.int .u32 x.2.2.1).wf = true ∧ x.2.2.2.size ≤ maxLen) y := by
    obtain ⟨m, g⟩ := h0
    have key : ∀ (n : Nat) (cs : List Value) (x : DataW H × List MemPlace), DataW.trod enc Try.prog W 0 (fun _ => true) true n 27 cs = some x → cs.length = Try.prog.cellsOf 27 → ∃ y : ByteArray × Int × Int × ByteArray, cs = (fun x => [.string x.1, .int .u16 x.2.1, .int .u32 x.2.2.1, .string x.2.2.2]) y ∧ (fun x => x.1.size ≤ maxLen ∧ (Lit.int .u16 x.2.1).wf = true ∧ (Lit.int .u32 x.2.2.1).wf = true ∧ x.2.2.2.size ≤ maxLen) y := by
      intro n cs x h hl
      have hl' : cs.length = 4 := hl.trans (by kernel_rfl)
      obtain ⟨c0, c1, c2, c3, rfl⟩ : ∃ c0 c1 c2 c3, cs = [c0, c1, c2, c3] := by
        match cs, hl' with
        | [c0, c1, c2, c3], _ => exact ⟨c0, c1, c2, c3, rfl⟩
      obtain ⟨n0, y0, g0⟩ := Go.Px.trod_field Try.underlying27 h 0 _ rfl
      replace g0 : DataW.trod enc Try.prog W 0 (fun _ => true) true n0 22 (List.take (Try.prog.cellsOf 22) (List.drop 0 [c0, c1, c2, c3])) = some y0 := g0
      rw [show Try.prog.cellsOf 22 = 1 by kernel_rfl] at g0
      replace g0 : DataW.trod enc Try.prog W 0 (fun _ => true) true n0 22 [c0] = some y0 := g0
      obtain ⟨n1, y1, g1⟩ := Go.Px.trod_field Try.underlying27 h 1 _ rfl
      replace g1 : DataW.trod enc Try.prog W 0 (fun _ => true) true n1 24 (List.take (Try.prog.cellsOf 24) (List.drop 1 [c0, c1, c2, c3])) = some y1 := g1
      rw [show Try.prog.cellsOf 24 = 1 by kernel_rfl] at g1
      replace g1 : DataW.trod enc Try.prog W 0 (fun _ => true) true n1 24 [c1] = some y1 := g1
      obtain ⟨n2, y2, g2⟩ := Go.Px.trod_field Try.underlying27 h 2 _ rfl
      replace g2 : DataW.trod enc Try.prog W 0 (fun _ => true) true n2 25 (List.take (Try.prog.cellsOf 25) (List.drop 2 [c0, c1, c2, c3])) = some y2 := g2
      rw [show Try.prog.cellsOf 25 = 1 by kernel_rfl] at g2
      replace g2 : DataW.trod enc Try.prog W 0 (fun _ => true) true n2 25 [c2] = some y2 := g2
      obtain ⟨n3, y3, g3⟩ := Go.Px.trod_field Try.underlying27 h 3 _ rfl
      replace g3 : DataW.trod enc Try.prog W 0 (fun _ => true) true n3 9 (List.take (Try.prog.cellsOf 9) (List.drop 3 [c0, c1, c2, c3])) = some y3 := g3
      rw [show Try.prog.cellsOf 9 = 1 by kernel_rfl] at g3
      replace g3 : DataW.trod enc Try.prog W 0 (fun _ => true) true n3 9 [c3] = some y3 := g3
      obtain ⟨v0, rfl, u0⟩ := Go.Px.trod_str Try.underlying22 g0
      obtain ⟨v1, rfl, u1⟩ := Go.Px.trod_int Try.underlying24 g1
      obtain ⟨v2, rfl, u2⟩ := Go.Px.trod_int Try.underlying25 g2
      obtain ⟨v3, rfl, u3⟩ := Go.Px.trod_str Try.underlying9 g3
      exact ⟨⟨v0, v1, v2, v3⟩, rfl, u0, u1, u2, u3⟩
    obtain ⟨y, h1, h2⟩ := key m cs0.toList _ g (by rw [Array.length_toList]; exact hs0)
    exact ⟨y, by rw [← h1], h2⟩
  subst hy0
  obtain ⟨cs1, rfl, hs1⟩ := okWide_struct Try.underlying27 (hval 1 27 v1 rfl rfl)
  have k1 := h1
  have lt1 : ∀ x ∈ p1, x.block < W.heap.size := by obtain ⟨m, hm⟩ := k1; exact DataW.trod_lt m _ _ _ hm
  obtain ⟨y1, hy1, w1⟩ : ∃ y : ByteArray × Int × Int × ByteArray, cs1 = ((fun x => [.string x.1, .int .u16 x.2.1, .int .u32 x.2.2.1, .string x.2.2.2]) y).toArray ∧ (fun x => x.1.size ≤ maxLen ∧ (Lit.int .u16 x.2.1).wf = true ∧ (Lit.int .u32 x.2.2.1).wf = true ∧ x.2.2.2.size ≤ maxLen) y := by
    obtain ⟨m, g⟩ := h1
    have key : ∀ (n : Nat) (cs : List Value) (x : DataW H × List MemPlace), DataW.trod enc Try.prog W 0 (fun _ => true) true n 27 cs = some x → cs.length = Try.prog.cellsOf 27 → ∃ y : ByteArray × Int × Int × ByteArray, cs = (fun x => [.string x.1, .int .u16 x.2.1, .int .u32 x.2.2.1, .string x.2.2.2]) y ∧ (fun x => x.1.size ≤ maxLen ∧ (Lit.int .u16 x.2.1).wf = true ∧ (Lit.int .u32 x.2.2.1).wf = true ∧ x.2.2.2.size ≤ maxLen) y := by
      intro n cs x h hl
      have hl' : cs.length = 4 := hl.trans (by kernel_rfl)
      obtain ⟨c0, c1, c2, c3, rfl⟩ : ∃ c0 c1 c2 c3, cs = [c0, c1, c2, c3] := by
        match cs, hl' with
        | [c0, c1, c2, c3], _ => exact ⟨c0, c1, c2, c3, rfl⟩
      obtain ⟨n0, y0, g0⟩ := Go.Px.trod_field Try.underlying27 h 0 _ rfl
      replace g0 : DataW.trod enc Try.prog W 0 (fun _ => true) true n0 22 (List.take (Try.prog.cellsOf 22) (List.drop 0 [c0, c1, c2, c3])) = some y0 := g0
      rw [show Try.prog.cellsOf 22 = 1 by kernel_rfl] at g0
      replace g0 : DataW.trod enc Try.prog W 0 (fun _ => true) true n0 22 [c0] = some y0 := g0
      obtain ⟨n1, y1, g1⟩ := Go.Px.trod_field Try.underlying27 h 1 _ rfl
      replace g1 : DataW.trod enc Try.prog W 0 (fun _ => true) true n1 24 (List.take (Try.prog.cellsOf 24) (List.drop 1 [c0, c1, c2, c3])) = some y1 := g1
      rw [show Try.prog.cellsOf 24 = 1 by kernel_rfl] at g1
      replace g1 : DataW.trod enc Try.prog W 0 (fun _ => true) true n1 24 [c1] = some y1 := g1
      obtain ⟨n2, y2, g2⟩ := Go.Px.trod_field Try.underlying27 h 2 _ rfl
      replace g2 : DataW.trod enc Try.prog W 0 (fun _ => true) true n2 25 (List.take (Try.prog.cellsOf 25) (List.drop 2 [c0, c1, c2, c3])) = some y2 := g2
      rw [show Try.prog.cellsOf 25 = 1 by kernel_rfl] at g2
      replace g2 : DataW.trod enc Try.prog W 0 (fun _ => true) true n2 25 [c2] = some y2 := g2
      obtain ⟨n3, y3, g3⟩ := Go.Px.trod_field Try.underlying27 h 3 _ rfl
      replace g3 : DataW.trod enc Try.prog W 0 (fun _ => true) true n3 9 (List.take (Try.prog.cellsOf 9) (List.drop 3 [c0, c1, c2, c3])) = some y3 := g3
      rw [show Try.prog.cellsOf 9 = 1 by kernel_rfl] at g3
      replace g3 : DataW.trod enc Try.prog W 0 (fun _ => true) true n3 9 [c3] = some y3 := g3
      obtain ⟨v0, rfl, u0⟩ := Go.Px.trod_str Try.underlying22 g0
      obtain ⟨v1, rfl, u1⟩ := Go.Px.trod_int Try.underlying24 g1
      obtain ⟨v2, rfl, u2⟩ := Go.Px.trod_int Try.underlying25 g2
      obtain ⟨v3, rfl, u3⟩ := Go.Px.trod_str Try.underlying9 g3
      exact ⟨⟨v0, v1, v2, v3⟩, rfl, u0, u1, u2, u3⟩
    obtain ⟨y, h1, h2⟩ := key m cs1.toList _ g (by rw [Array.length_toList]; exact hs1)
    exact ⟨y, by rw [← h1], h2⟩
  subst hy1
  obtain ⟨cs2, rfl, hs2⟩ := okWide_struct Try.underlying27 (hval 2 27 v2 rfl rfl)
  have k2 := h2
  have lt2 : ∀ x ∈ p2, x.block < W.heap.size := by obtain ⟨m, hm⟩ := k2; exact DataW.trod_lt m _ _ _ hm
  obtain ⟨y2, hy2, w2⟩ : ∃ y : ByteArray × Int × Int × ByteArray, cs2 = ((fun x => [.string x.1, .int .u16 x.2.1, .int .u32 x.2.2.1, .string x.2.2.2]) y).toArray ∧ (fun x => x.1.size ≤ maxLen ∧ (Lit.int .u16 x.2.1).wf = true ∧ (Lit.int .u32 x.2.2.1).wf = true ∧ x.2.2.2.size ≤ maxLen) y := by
    obtain ⟨m, g⟩ := h2
    have key : ∀ (n : Nat) (cs : List Value) (x : DataW H × List MemPlace), DataW.trod enc Try.prog W 0 (fun _ => true) true n 27 cs = some x → cs.length = Try.prog.cellsOf 27 → ∃ y : ByteArray × Int × Int × ByteArray, cs = (fun x => [.string x.1, .int .u16 x.2.1, .int .u32 x.2.2.1, .string x.2.2.2]) y ∧ (fun x => x.1.size ≤ maxLen ∧ (Lit.int .u16 x.2.1).wf = true ∧ (Lit.int .u32 x.2.2.1).wf = true ∧ x.2.2.2.size ≤ maxLen) y := by
      intro n cs x h hl
      have hl' : cs.length = 4 := hl.trans (by kernel_rfl)
      obtain ⟨c0, c1, c2, c3, rfl⟩ : ∃ c0 c1 c2 c3, cs = [c0, c1, c2, c3] := by
        match cs, hl' with
        | [c0, c1, c2, c3], _ => exact ⟨c0, c1, c2, c3, rfl⟩
      obtain ⟨n0, y0, g0⟩ := Go.Px.trod_field Try.underlying27 h 0 _ rfl
      replace g0 : DataW.trod enc Try.prog W 0 (fun _ => true) true n0 22 (List.take (Try.prog.cellsOf 22) (List.drop 0 [c0, c1, c2, c3])) = some y0 := g0
      rw [show Try.prog.cellsOf 22 = 1 by kernel_rfl] at g0
      replace g0 : DataW.trod enc Try.prog W 0 (fun _ => true) true n0 22 [c0] = some y0 := g0
      obtain ⟨n1, y1, g1⟩ := Go.Px.trod_field Try.underlying27 h 1 _ rfl
      replace g1 : DataW.trod enc Try.prog W 0 (fun _ => true) true n1 24 (List.take (Try.prog.cellsOf 24) (List.drop 1 [c0, c1, c2, c3])) = some y1 := g1
      rw [show Try.prog.cellsOf 24 = 1 by kernel_rfl] at g1
      replace g1 : DataW.trod enc Try.prog W 0 (fun _ => true) true n1 24 [c1] = some y1 := g1
      obtain ⟨n2, y2, g2⟩ := Go.Px.trod_field Try.underlying27 h 2 _ rfl
      replace g2 : DataW.trod enc Try.prog W 0 (fun _ => true) true n2 25 (List.take (Try.prog.cellsOf 25) (List.drop 2 [c0, c1, c2, c3])) = some y2 := g2
      rw [show Try.prog.cellsOf 25 = 1 by kernel_rfl] at g2
      replace g2 : DataW.trod enc Try.prog W 0 (fun _ => true) true n2 25 [c2] = some y2 := g2
      obtain ⟨n3, y3, g3⟩ := Go.Px.trod_field Try.underlying27 h 3 _ rfl
      replace g3 : DataW.trod enc Try.prog W 0 (fun _ => true) true n3 9 (List.take (Try.prog.cellsOf 9) (List.drop 3 [c0, c1, c2, c3])) = some y3 := g3
      rw [show Try.prog.cellsOf 9 = 1 by kernel_rfl] at g3
      replace g3 : DataW.trod enc Try.prog W 0 (fun _ => true) true n3 9 [c3] = some y3 := g3
      obtain ⟨v0, rfl, u0⟩ := Go.Px.trod_str Try.underlying22 g0
      obtain ⟨v1, rfl, u1⟩ := Go.Px.trod_int Try.underlying24 g1
      obtain ⟨v2, rfl, u2⟩ := Go.Px.trod_int Try.underlying25 g2
      obtain ⟨v3, rfl, u3⟩ := Go.Px.trod_str Try.underlying9 g3
      exact ⟨⟨v0, v1, v2, v3⟩, rfl, u0, u1, u2, u3⟩
    obtain ⟨y, h1, h2⟩ := key m cs2.toList _ g (by rw [Array.length_toList]; exact hs2)
    exact ⟨y, by rw [← h1], h2⟩
  subst hy2
  clear hA0 hval0 hsz0 hsz
  refine (Go.Px.Runs.below (ZoneCompare_row W (y0.1) (y0.2.1) (y0.2.2.1) (y0.2.2.2) (y1.1) (y1.2.1) (y1.2.2.1) (y1.2.2.2) (y2.1) (y2.2.1) (y2.2.2.1) (y2.2.2.2) w0 w1 w2)).mono fun e W' ⟨he, bel⟩ => ?_
  subst he
  exact ⟨_, rfl, _, _, _, [], _, [], hW', trodAll_mk1 (shut_bool Try.underlying4 _), (trodAll_cons_mk (Below.trod laidOut (by kernel_rfl) (of_decide_eq_true (by kernel_rfl)) k0 bel lt0) (trodAll_cons_mk (Below.trod laidOut (by kernel_rfl) (of_decide_eq_true (by kernel_rfl)) k1 bel lt1) (trodAll_cons_mk (Below.trod laidOut (by kernel_rfl) (of_decide_eq_true (by kernel_rfl)) k2 bel lt2) trodAll_mk0))), rfl, bel.frame _, fun h => by cases h⟩
theorem over : Rows.zoneCompareRow.holds Try.pinned (OpenSpec.ofChange Rows.zoneCompareSpec) :=
  OpenClaim.holds_of_wide 3 Try.f3 rfl rfl rfl rfl rfl rfl rfl ⟨rfl, rfl, rfl, rfl, rfl⟩ rfl rfl rfl rfl rfl (by kernel_rfl) Try.func3 (by kernel_rfl)
    (of_decide_eq_true (by kernel_rfl)) (by unfold Func.isWrapper; first | (rw [if_pos (by decide +kernel)]; kernel_rfl) | (rw [if_neg (by decide +kernel)]; exact ⟨rfl, rfl⟩))
    (fun os started H enc _ => lifted os started H enc)
theorem proved : Rows.ZoneCompareSaid := over
end Go.Proofs.Ytdajglfbbcbgpaa.zoneCompare
namespace Go.Proofs.Ytdajglfbbcbgpaa
/-- The row, under a short name. -/
theorem zoneCompare_holds : Rows.ZoneCompareSaid := zoneCompare.proved
#print axioms zoneCompare_holds
end Go.Proofs.Ytdajglfbbcbgpaa
