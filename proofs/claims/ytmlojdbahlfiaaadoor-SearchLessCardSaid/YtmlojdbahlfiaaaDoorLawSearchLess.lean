/- SearchLess: for every input the law returns true, and its arguments read afterwards as they read before. No condition. -/
import Derived.Test.YtmlojdbahlfiaaaDoorRows
import Derived.Test.YtmlojdbahlfiaaaDoorM1SearchLess
import Derived.Test.YtmlojdbahlfiaaaDoorM2SearchLess
import Derived.Test.YtmlojdbahlfiaaaDoorM3SearchLess
import Derived.Test.YtmlojdbahlfiaaaDoorM4SearchLess
import Derived.WalkKit
import Derived.ProofKit
import Derived.OpenShut
import Derived.ShutString
import Derived.ChangeOld
import Derived.Below
import Derived.SizedLaws
import Derived.Test.YtmlojdbahlfiaaaDoorCards
import Derived.Test.YtmlojdbahlfiaaaDoorTie
import Derived.SevenTiedAt
namespace Go.Proofs.YtmlojdbahlfiaaaDoor.searchLess
open Go.ChangeShapes Go.WideShapes Go.ChangeAt Go.RowKit
open Go.ChangeMaps (open_string shut_string)
set_option linter.unusedVariables false
theorem own : ownKnob Tryd.prog.godebug = none := by kernel_rfl
theorem laidOut : laidOutB Tryd.prog = true := by kernel_rfl
set_option maxRecDepth 100000 in
theorem lifted (os : Os) (started : os.Started) (H : Type) (enc : TypeId × Value → H) :
    ReturnsInHanded {} Tryd.checked os 3 .any (fun w args => (Rows.searchLessSpec.pre enc Tryd.prog Tryd.f3 Rows.searchLessRow.domain false w args ∧ laidMetH Tryd.prog LaidL w) ∧ sizedMet enc Tryd.prog Tryd.f3 (OpenSpec.ofChange Rows.searchLessSpec) false w args) (Rows.searchLessSpec.post enc Tryd.prog Tryd.f3 false true false false) := by
  refine returnsInHanded_of_change_and (C := Tryd.checked) (X := fun w _ => laidMetH Tryd.prog LaidL w) (fun _ _ _ hh h => h.of_heap hh) own started (by kernel_rfl) Tryd.func3
    (ChangeSpec.witness_shaped (enc := enc) (C := Tryd.checked) (os := os) (X := fun w _ => laidMetH Tryd.prog LaidL w) false (laidWorld os) #[.agg #[.int .i64 0, .string ByteArray.empty, .string ByteArray.empty, .int .i64 0], .agg #[.int .i64 0, .string ByteArray.empty, .string ByteArray.empty, .int .i64 0], .agg #[.int .i64 0, .string ByteArray.empty, .string ByteArray.empty, .int .i64 0]] 8 (laidWorld_os os) (laidWorld_shaped os _) (by kernel_rfl) (by kernel_rfl) (by kernel_rfl) (laidWorld_met os _)) ?_
  intro W base args ds gs before hval0 hW hcnd hsz0 hL _
  have hg := handle_of_laid hL
  have hsz : (DataW.weightsEach Tryd.prog (Tryd.f3.params.toList ++ Rows.searchLessSpec.plain.varTypes Tryd.prog) (ds ++ gs)).all (· ≤ reachBytes) = true := hsz0
  have hval : ∀ (j : Nat) t v, Tryd.f3.params[j]? = some t → args[j]? = some v → Value.okWide Tryd.prog W .any base t v := hval0
  have hW' := hW
  obtain ⟨p, q, hA0, hV, rfl, hfz, hnd⟩ := hW
  have hA : DataW.TrodAll enc Tryd.prog W 0 (fun _ => true) true Tryd.f3.params.toList args.toList ds p := hA0
  rw [Tryd.params3] at hA hval hsz
  obtain ⟨v0, vs0, d0, ds0, p0, q0, hargs, rfl, rfl, h0, r0⟩ := trodAll_cons hA
  obtain ⟨v1, vs1, d1, ds1, p1, q1, rfl, rfl, rfl, h1, r1⟩ := trodAll_cons r0
  obtain ⟨v2, vs2, d2, ds2, p2, q2, rfl, rfl, rfl, h2, r2⟩ := trodAll_cons r1
  obtain ⟨rfl, rfl, rfl⟩ := trodAll_nil r2
  obtain rfl : args = #[v0, v1, v2] := by cases args; simp_all
  obtain ⟨rfl, rfl⟩ := trodVars_none hV
  obtain ⟨cs0, rfl, hs0⟩ := okWide_struct Tryd.underlying27 (hval 0 27 v0 rfl rfl)
  have k0 := h0
  have lt0 : ∀ x ∈ p0, x.block < W.heap.size := by obtain ⟨m, hm⟩ := k0; exact DataW.trod_lt m _ _ _ hm
  obtain ⟨y0, hy0, w0⟩ : ∃ y : Int × ByteArray × (ByteArray × Int), cs0 = ((fun x => [.int .i64 x.1, .string x.2.1, .string x.2.2.1, .int .i64 x.2.2.2]) y).toArray ∧ (fun x => (Lit.int .i64 x.1).wf = true ∧ x.2.1.size ≤ maxLen ∧ (x.2.2.1.size ≤ maxLen ∧ (Lit.int .i64 x.2.2.2).wf = true)) y := by
    obtain ⟨m, g⟩ := h0
    have key : ∀ (n : Nat) (cs : List Value) (x : DataW H × List MemPlace), DataW.trod enc Tryd.prog W 0 (fun _ => true) true n 27 cs = some x → cs.length = Tryd.prog.cellsOf 27 → ∃ y : Int × ByteArray × (ByteArray × Int), cs = (fun x => [.int .i64 x.1, .string x.2.1, .string x.2.2.1, .int .i64 x.2.2.2]) y ∧ (fun x => (Lit.int .i64 x.1).wf = true ∧ x.2.1.size ≤ maxLen ∧ (x.2.2.1.size ≤ maxLen ∧ (Lit.int .i64 x.2.2.2).wf = true)) y := by
      intro n cs x h hl
      have hl' : cs.length = 4 := hl.trans (by kernel_rfl)
      obtain ⟨c0, c1, c2, c3, rfl⟩ : ∃ c0 c1 c2 c3, cs = [c0, c1, c2, c3] := by
        match cs, hl' with
        | [c0, c1, c2, c3], _ => exact ⟨c0, c1, c2, c3, rfl⟩
      obtain ⟨n0, y0, g0⟩ := Go.Px.trod_field Tryd.underlying27 h 0 _ rfl
      replace g0 : DataW.trod enc Tryd.prog W 0 (fun _ => true) true n0 22 (List.take (Tryd.prog.cellsOf 22) (List.drop 0 [c0, c1, c2, c3])) = some y0 := g0
      rw [show Tryd.prog.cellsOf 22 = 1 by kernel_rfl] at g0
      replace g0 : DataW.trod enc Tryd.prog W 0 (fun _ => true) true n0 22 [c0] = some y0 := g0
      obtain ⟨n1, y1, g1⟩ := Go.Px.trod_field Tryd.underlying27 h 1 _ rfl
      replace g1 : DataW.trod enc Tryd.prog W 0 (fun _ => true) true n1 23 (List.take (Tryd.prog.cellsOf 23) (List.drop 1 [c0, c1, c2, c3])) = some y1 := g1
      rw [show Tryd.prog.cellsOf 23 = 1 by kernel_rfl] at g1
      replace g1 : DataW.trod enc Tryd.prog W 0 (fun _ => true) true n1 23 [c1] = some y1 := g1
      obtain ⟨n2, y2, g2⟩ := Go.Px.trod_field Tryd.underlying27 h 2 _ rfl
      replace g2 : DataW.trod enc Tryd.prog W 0 (fun _ => true) true n2 25 (List.take (Tryd.prog.cellsOf 25) (List.drop 2 [c0, c1, c2, c3])) = some y2 := g2
      rw [show Tryd.prog.cellsOf 25 = 2 by kernel_rfl] at g2
      replace g2 : DataW.trod enc Tryd.prog W 0 (fun _ => true) true n2 25 [c2, c3] = some y2 := g2
      obtain ⟨v0, rfl, u0⟩ := Go.Px.trod_int Tryd.underlying22 g0
      obtain ⟨v1, rfl, u1⟩ := Go.Px.trod_str Tryd.underlying23 g1
      obtain ⟨v2, e2, u2⟩ : ∃ y : ByteArray × Int, [c2, c3] = (fun x => [.string x.1, .int .i64 x.2]) y ∧ (fun x => x.1.size ≤ maxLen ∧ (Lit.int .i64 x.2).wf = true) y := by
        have key2 : ∀ (n : Nat) (cs : List Value) (x : DataW H × List MemPlace), DataW.trod enc Tryd.prog W 0 (fun _ => true) true n 25 cs = some x → cs.length = Tryd.prog.cellsOf 25 → ∃ y : ByteArray × Int, cs = (fun x => [.string x.1, .int .i64 x.2]) y ∧ (fun x => x.1.size ≤ maxLen ∧ (Lit.int .i64 x.2).wf = true) y := by
          intro n cs x h hl
          have hl' : cs.length = 2 := hl.trans (by kernel_rfl)
          obtain ⟨c0, c1, rfl⟩ : ∃ c0 c1, cs = [c0, c1] := by
            match cs, hl' with
            | [c0, c1], _ => exact ⟨c0, c1, rfl⟩
          obtain ⟨n0, y0, g0⟩ := Go.Px.trod_field Tryd.underlying25 h 0 _ rfl
          replace g0 : DataW.trod enc Tryd.prog W 0 (fun _ => true) true n0 9 (List.take (Tryd.prog.cellsOf 9) (List.drop 0 [c0, c1])) = some y0 := g0
          rw [show Tryd.prog.cellsOf 9 = 1 by kernel_rfl] at g0
          replace g0 : DataW.trod enc Tryd.prog W 0 (fun _ => true) true n0 9 [c0] = some y0 := g0
          obtain ⟨n1, y1, g1⟩ := Go.Px.trod_field Tryd.underlying25 h 1 _ rfl
          replace g1 : DataW.trod enc Tryd.prog W 0 (fun _ => true) true n1 3 (List.take (Tryd.prog.cellsOf 3) (List.drop 1 [c0, c1])) = some y1 := g1
          rw [show Tryd.prog.cellsOf 3 = 1 by kernel_rfl] at g1
          replace g1 : DataW.trod enc Tryd.prog W 0 (fun _ => true) true n1 3 [c1] = some y1 := g1
          obtain ⟨v0, rfl, u0⟩ := Go.Px.trod_str Tryd.underlying9 g0
          obtain ⟨v1, rfl, u1⟩ := Go.Px.trod_int Tryd.underlying3 g1
          exact ⟨⟨v0, v1⟩, rfl, u0, u1⟩
        exact key2 _ _ _ g2 (by kernel_rfl)
      simp only [List.cons.injEq, and_true] at e2
      obtain ⟨rfl, rfl⟩ := e2
      exact ⟨⟨v0, v1, v2⟩, rfl, u0, u1, u2⟩
    obtain ⟨y, h1, h2⟩ := key m cs0.toList _ g (by rw [Array.length_toList]; exact hs0)
    exact ⟨y, by rw [← h1], h2⟩
  subst hy0
  obtain ⟨cs1, rfl, hs1⟩ := okWide_struct Tryd.underlying27 (hval 1 27 v1 rfl rfl)
  have k1 := h1
  have lt1 : ∀ x ∈ p1, x.block < W.heap.size := by obtain ⟨m, hm⟩ := k1; exact DataW.trod_lt m _ _ _ hm
  obtain ⟨y1, hy1, w1⟩ : ∃ y : Int × ByteArray × (ByteArray × Int), cs1 = ((fun x => [.int .i64 x.1, .string x.2.1, .string x.2.2.1, .int .i64 x.2.2.2]) y).toArray ∧ (fun x => (Lit.int .i64 x.1).wf = true ∧ x.2.1.size ≤ maxLen ∧ (x.2.2.1.size ≤ maxLen ∧ (Lit.int .i64 x.2.2.2).wf = true)) y := by
    obtain ⟨m, g⟩ := h1
    have key : ∀ (n : Nat) (cs : List Value) (x : DataW H × List MemPlace), DataW.trod enc Tryd.prog W 0 (fun _ => true) true n 27 cs = some x → cs.length = Tryd.prog.cellsOf 27 → ∃ y : Int × ByteArray × (ByteArray × Int), cs = (fun x => [.int .i64 x.1, .string x.2.1, .string x.2.2.1, .int .i64 x.2.2.2]) y ∧ (fun x => (Lit.int .i64 x.1).wf = true ∧ x.2.1.size ≤ maxLen ∧ (x.2.2.1.size ≤ maxLen ∧ (Lit.int .i64 x.2.2.2).wf = true)) y := by
      intro n cs x h hl
      have hl' : cs.length = 4 := hl.trans (by kernel_rfl)
      obtain ⟨c0, c1, c2, c3, rfl⟩ : ∃ c0 c1 c2 c3, cs = [c0, c1, c2, c3] := by
        match cs, hl' with
        | [c0, c1, c2, c3], _ => exact ⟨c0, c1, c2, c3, rfl⟩
      obtain ⟨n0, y0, g0⟩ := Go.Px.trod_field Tryd.underlying27 h 0 _ rfl
      replace g0 : DataW.trod enc Tryd.prog W 0 (fun _ => true) true n0 22 (List.take (Tryd.prog.cellsOf 22) (List.drop 0 [c0, c1, c2, c3])) = some y0 := g0
      rw [show Tryd.prog.cellsOf 22 = 1 by kernel_rfl] at g0
      replace g0 : DataW.trod enc Tryd.prog W 0 (fun _ => true) true n0 22 [c0] = some y0 := g0
      obtain ⟨n1, y1, g1⟩ := Go.Px.trod_field Tryd.underlying27 h 1 _ rfl
      replace g1 : DataW.trod enc Tryd.prog W 0 (fun _ => true) true n1 23 (List.take (Tryd.prog.cellsOf 23) (List.drop 1 [c0, c1, c2, c3])) = some y1 := g1
      rw [show Tryd.prog.cellsOf 23 = 1 by kernel_rfl] at g1
      replace g1 : DataW.trod enc Tryd.prog W 0 (fun _ => true) true n1 23 [c1] = some y1 := g1
      obtain ⟨n2, y2, g2⟩ := Go.Px.trod_field Tryd.underlying27 h 2 _ rfl
      replace g2 : DataW.trod enc Tryd.prog W 0 (fun _ => true) true n2 25 (List.take (Tryd.prog.cellsOf 25) (List.drop 2 [c0, c1, c2, c3])) = some y2 := g2
      rw [show Tryd.prog.cellsOf 25 = 2 by kernel_rfl] at g2
      replace g2 : DataW.trod enc Tryd.prog W 0 (fun _ => true) true n2 25 [c2, c3] = some y2 := g2
      obtain ⟨v0, rfl, u0⟩ := Go.Px.trod_int Tryd.underlying22 g0
      obtain ⟨v1, rfl, u1⟩ := Go.Px.trod_str Tryd.underlying23 g1
      obtain ⟨v2, e2, u2⟩ : ∃ y : ByteArray × Int, [c2, c3] = (fun x => [.string x.1, .int .i64 x.2]) y ∧ (fun x => x.1.size ≤ maxLen ∧ (Lit.int .i64 x.2).wf = true) y := by
        have key2 : ∀ (n : Nat) (cs : List Value) (x : DataW H × List MemPlace), DataW.trod enc Tryd.prog W 0 (fun _ => true) true n 25 cs = some x → cs.length = Tryd.prog.cellsOf 25 → ∃ y : ByteArray × Int, cs = (fun x => [.string x.1, .int .i64 x.2]) y ∧ (fun x => x.1.size ≤ maxLen ∧ (Lit.int .i64 x.2).wf = true) y := by
          intro n cs x h hl
          have hl' : cs.length = 2 := hl.trans (by kernel_rfl)
          obtain ⟨c0, c1, rfl⟩ : ∃ c0 c1, cs = [c0, c1] := by
            match cs, hl' with
            | [c0, c1], _ => exact ⟨c0, c1, rfl⟩
          obtain ⟨n0, y0, g0⟩ := Go.Px.trod_field Tryd.underlying25 h 0 _ rfl
          replace g0 : DataW.trod enc Tryd.prog W 0 (fun _ => true) true n0 9 (List.take (Tryd.prog.cellsOf 9) (List.drop 0 [c0, c1])) = some y0 := g0
          rw [show Tryd.prog.cellsOf 9 = 1 by kernel_rfl] at g0
          replace g0 : DataW.trod enc Tryd.prog W 0 (fun _ => true) true n0 9 [c0] = some y0 := g0
          obtain ⟨n1, y1, g1⟩ := Go.Px.trod_field Tryd.underlying25 h 1 _ rfl
          replace g1 : DataW.trod enc Tryd.prog W 0 (fun _ => true) true n1 3 (List.take (Tryd.prog.cellsOf 3) (List.drop 1 [c0, c1])) = some y1 := g1
          rw [show Tryd.prog.cellsOf 3 = 1 by kernel_rfl] at g1
          replace g1 : DataW.trod enc Tryd.prog W 0 (fun _ => true) true n1 3 [c1] = some y1 := g1
          obtain ⟨v0, rfl, u0⟩ := Go.Px.trod_str Tryd.underlying9 g0
          obtain ⟨v1, rfl, u1⟩ := Go.Px.trod_int Tryd.underlying3 g1
          exact ⟨⟨v0, v1⟩, rfl, u0, u1⟩
        exact key2 _ _ _ g2 (by kernel_rfl)
      simp only [List.cons.injEq, and_true] at e2
      obtain ⟨rfl, rfl⟩ := e2
      exact ⟨⟨v0, v1, v2⟩, rfl, u0, u1, u2⟩
    obtain ⟨y, h1, h2⟩ := key m cs1.toList _ g (by rw [Array.length_toList]; exact hs1)
    exact ⟨y, by rw [← h1], h2⟩
  subst hy1
  obtain ⟨cs2, rfl, hs2⟩ := okWide_struct Tryd.underlying27 (hval 2 27 v2 rfl rfl)
  have k2 := h2
  have lt2 : ∀ x ∈ p2, x.block < W.heap.size := by obtain ⟨m, hm⟩ := k2; exact DataW.trod_lt m _ _ _ hm
  obtain ⟨y2, hy2, w2⟩ : ∃ y : Int × ByteArray × (ByteArray × Int), cs2 = ((fun x => [.int .i64 x.1, .string x.2.1, .string x.2.2.1, .int .i64 x.2.2.2]) y).toArray ∧ (fun x => (Lit.int .i64 x.1).wf = true ∧ x.2.1.size ≤ maxLen ∧ (x.2.2.1.size ≤ maxLen ∧ (Lit.int .i64 x.2.2.2).wf = true)) y := by
    obtain ⟨m, g⟩ := h2
    have key : ∀ (n : Nat) (cs : List Value) (x : DataW H × List MemPlace), DataW.trod enc Tryd.prog W 0 (fun _ => true) true n 27 cs = some x → cs.length = Tryd.prog.cellsOf 27 → ∃ y : Int × ByteArray × (ByteArray × Int), cs = (fun x => [.int .i64 x.1, .string x.2.1, .string x.2.2.1, .int .i64 x.2.2.2]) y ∧ (fun x => (Lit.int .i64 x.1).wf = true ∧ x.2.1.size ≤ maxLen ∧ (x.2.2.1.size ≤ maxLen ∧ (Lit.int .i64 x.2.2.2).wf = true)) y := by
      intro n cs x h hl
      have hl' : cs.length = 4 := hl.trans (by kernel_rfl)
      obtain ⟨c0, c1, c2, c3, rfl⟩ : ∃ c0 c1 c2 c3, cs = [c0, c1, c2, c3] := by
        match cs, hl' with
        | [c0, c1, c2, c3], _ => exact ⟨c0, c1, c2, c3, rfl⟩
      obtain ⟨n0, y0, g0⟩ := Go.Px.trod_field Tryd.underlying27 h 0 _ rfl
      replace g0 : DataW.trod enc Tryd.prog W 0 (fun _ => true) true n0 22 (List.take (Tryd.prog.cellsOf 22) (List.drop 0 [c0, c1, c2, c3])) = some y0 := g0
      rw [show Tryd.prog.cellsOf 22 = 1 by kernel_rfl] at g0
      replace g0 : DataW.trod enc Tryd.prog W 0 (fun _ => true) true n0 22 [c0] = some y0 := g0
      obtain ⟨n1, y1, g1⟩ := Go.Px.trod_field Tryd.underlying27 h 1 _ rfl
      replace g1 : DataW.trod enc Tryd.prog W 0 (fun _ => true) true n1 23 (List.take (Tryd.prog.cellsOf 23) (List.drop 1 [c0, c1, c2, c3])) = some y1 := g1
      rw [show Tryd.prog.cellsOf 23 = 1 by kernel_rfl] at g1
      replace g1 : DataW.trod enc Tryd.prog W 0 (fun _ => true) true n1 23 [c1] = some y1 := g1
      obtain ⟨n2, y2, g2⟩ := Go.Px.trod_field Tryd.underlying27 h 2 _ rfl
      replace g2 : DataW.trod enc Tryd.prog W 0 (fun _ => true) true n2 25 (List.take (Tryd.prog.cellsOf 25) (List.drop 2 [c0, c1, c2, c3])) = some y2 := g2
      rw [show Tryd.prog.cellsOf 25 = 2 by kernel_rfl] at g2
      replace g2 : DataW.trod enc Tryd.prog W 0 (fun _ => true) true n2 25 [c2, c3] = some y2 := g2
      obtain ⟨v0, rfl, u0⟩ := Go.Px.trod_int Tryd.underlying22 g0
      obtain ⟨v1, rfl, u1⟩ := Go.Px.trod_str Tryd.underlying23 g1
      obtain ⟨v2, e2, u2⟩ : ∃ y : ByteArray × Int, [c2, c3] = (fun x => [.string x.1, .int .i64 x.2]) y ∧ (fun x => x.1.size ≤ maxLen ∧ (Lit.int .i64 x.2).wf = true) y := by
        have key2 : ∀ (n : Nat) (cs : List Value) (x : DataW H × List MemPlace), DataW.trod enc Tryd.prog W 0 (fun _ => true) true n 25 cs = some x → cs.length = Tryd.prog.cellsOf 25 → ∃ y : ByteArray × Int, cs = (fun x => [.string x.1, .int .i64 x.2]) y ∧ (fun x => x.1.size ≤ maxLen ∧ (Lit.int .i64 x.2).wf = true) y := by
          intro n cs x h hl
          have hl' : cs.length = 2 := hl.trans (by kernel_rfl)
          obtain ⟨c0, c1, rfl⟩ : ∃ c0 c1, cs = [c0, c1] := by
            match cs, hl' with
            | [c0, c1], _ => exact ⟨c0, c1, rfl⟩
          obtain ⟨n0, y0, g0⟩ := Go.Px.trod_field Tryd.underlying25 h 0 _ rfl
          replace g0 : DataW.trod enc Tryd.prog W 0 (fun _ => true) true n0 9 (List.take (Tryd.prog.cellsOf 9) (List.drop 0 [c0, c1])) = some y0 := g0
          rw [show Tryd.prog.cellsOf 9 = 1 by kernel_rfl] at g0
          replace g0 : DataW.trod enc Tryd.prog W 0 (fun _ => true) true n0 9 [c0] = some y0 := g0
          obtain ⟨n1, y1, g1⟩ := Go.Px.trod_field Tryd.underlying25 h 1 _ rfl
          replace g1 : DataW.trod enc Tryd.prog W 0 (fun _ => true) true n1 3 (List.take (Tryd.prog.cellsOf 3) (List.drop 1 [c0, c1])) = some y1 := g1
          rw [show Tryd.prog.cellsOf 3 = 1 by kernel_rfl] at g1
          replace g1 : DataW.trod enc Tryd.prog W 0 (fun _ => true) true n1 3 [c1] = some y1 := g1
          obtain ⟨v0, rfl, u0⟩ := Go.Px.trod_str Tryd.underlying9 g0
          obtain ⟨v1, rfl, u1⟩ := Go.Px.trod_int Tryd.underlying3 g1
          exact ⟨⟨v0, v1⟩, rfl, u0, u1⟩
        exact key2 _ _ _ g2 (by kernel_rfl)
      simp only [List.cons.injEq, and_true] at e2
      obtain ⟨rfl, rfl⟩ := e2
      exact ⟨⟨v0, v1, v2⟩, rfl, u0, u1, u2⟩
    obtain ⟨y, h1, h2⟩ := key m cs2.toList _ g (by rw [Array.length_toList]; exact hs2)
    exact ⟨y, by rw [← h1], h2⟩
  subst hy2
  clear hA0 hval0 hsz0 hsz
  refine (Go.Px.Runs.below (SearchLess_row W hg (y0.1) (y0.2.1) (y0.2.2.1) (y0.2.2.2) (y1.1) (y1.2.1) (y1.2.2.1) (y1.2.2.2) (y2.1) (y2.2.1) (y2.2.2.1) (y2.2.2.2) w0 w1 w2)).mono fun e W' ⟨he, bel⟩ => ?_
  subst he
  exact ⟨_, rfl, _, _, _, [], _, [], hW', trodAll_mk1 (shut_bool Tryd.underlying4 _), (trodAll_cons_mk (Below.trod laidOut (by kernel_rfl) (of_decide_eq_true (by kernel_rfl)) k0 bel lt0) (trodAll_cons_mk (Below.trod laidOut (by kernel_rfl) (of_decide_eq_true (by kernel_rfl)) k1 bel lt1) (trodAll_cons_mk (Below.trod laidOut (by kernel_rfl) (of_decide_eq_true (by kernel_rfl)) k2 bel lt2) trodAll_mk0))), rfl, bel.frame _, fun h => by cases h⟩
theorem over : Rows.searchLessRow.holds Tryd.pinned (OpenSpec.ofChange Rows.searchLessSpec) :=
  OpenClaim.holds_of_wide 3 Tryd.f3 rfl rfl rfl rfl rfl rfl rfl ⟨rfl, rfl, rfl, rfl, rfl⟩ rfl rfl rfl rfl rfl (by kernel_rfl) Tryd.func3 (by kernel_rfl)
    (of_decide_eq_true (by kernel_rfl)) (by unfold Func.isWrapper; first | (rw [if_pos (by decide +kernel)]; kernel_rfl) | (rw [if_neg (by decide +kernel)]; exact ⟨rfl, rfl⟩))
    (fun os started H enc _ => lifted os started H enc)
theorem proved : Rows.SearchLessCardSaid :=
  Claim7.holds_tied_plain_at .later [] [.data, .data, .data, .sentinel, .sentinel] true (true, "05cca0dec2e43c46265e7509ea3a29e68aa0e0124c91dc084018f3ccd082c65b") true
    over (fun _ h => by cases h) (by kernel_rfl) (fun _ h => by cases h) searchLess_row_tie rfl ⟨rfl, rfl⟩ (by kernel_rfl) rfl
    (fun f fn hf hfn => by
      obtain rfl : f = 3 := Option.some.inj ((show Tryd.prog.funcNamed "bolter/bolterlaw19.SearchLess" = some 3 by kernel_rfl).symm.trans hf) |>.symm
      obtain rfl : fn = Tryd.f3 := (Option.some.inj (Tryd.func3.symm.trans hfn)).symm
      exact ⟨by kernel_rfl, fun j t ht => by
        rw [Tryd.params3] at ht
        match j, ht with
        | 0, ht =>
          have h : t = 27 := by simpa using ht.symm
          subst h
          exact (show Tryd.prog.wantsStandIn 27 = false by kernel_rfl)
        | 1, ht =>
          have h : t = 27 := by simpa using ht.symm
          subst h
          exact (show Tryd.prog.wantsStandIn 27 = false by kernel_rfl)
        | 2, ht =>
          have h : t = 27 := by simpa using ht.symm
          subst h
          exact (show Tryd.prog.wantsStandIn 27 = false by kernel_rfl)
        | j + 3, ht => simp at ht⟩)
    (by kernel_rfl)
end Go.Proofs.YtmlojdbahlfiaaaDoor.searchLess
namespace Go.Proofs.YtmlojdbahlfiaaaDoor
/-- The tied card, under a short name. -/
theorem searchLess_holds : Rows.SearchLessCardSaid := searchLess.proved
#print axioms searchLess_holds
end Go.Proofs.YtmlojdbahlfiaaaDoor
