/- ZoneInsert: for every input the law returns true, and its arguments read afterwards as they read before. No condition. -/
import Derived.Test.YtdajglfbbcbgpaaDoorRows
import Derived.Test.YtdajglfbbcbgpaaDoorZi2
import Derived.Test.YtdajglfbbcbgpaaDoorPx8
import Derived.WalkKit
import Derived.ProofKit
import Derived.OpenShut
import Derived.ShutString
import Derived.ChangeOld
import Derived.Below
import Derived.SizedLaws
import Derived.Test.YtdajglfbbcbgpaaDoorPx9
import Derived.Test.YtdajglfbbcbgpaaDoorEr3
import Derived.Test.YtdajglfbbcbgpaaDoorCards
import Derived.Test.YtdajglfbbcbgpaaDoorTie
import Derived.SevenTiedAt
namespace Go.Proofs.YtdajglfbbcbgpaaDoor.zoneInsert
open Go.ChangeShapes Go.WideShapes Go.ChangeAt Go.RowKit
open Go.ChangeMaps (open_string shut_string)
set_option linter.unusedVariables false
theorem own : ownKnob Tryd.prog.godebug = none := by kernel_rfl
theorem laidOut : laidOutB Tryd.prog = true := by kernel_rfl
set_option maxRecDepth 100000 in
theorem lifted (os : Os) (started : os.Started) (H : Type) (enc : TypeId × Value → H) :
    ReturnsInHanded {} Tryd.checked os 3 .any (fun w args => (Rows.zoneInsertSpec.pre enc Tryd.prog Tryd.f3 Rows.zoneInsertRow.domain false w args ∧ laidMetH Tryd.prog LaidL w) ∧ sizedMet enc Tryd.prog Tryd.f3 (OpenSpec.ofChange Rows.zoneInsertSpec) false w args) (Rows.zoneInsertSpec.post enc Tryd.prog Tryd.f3 false true false false) := by
  refine returnsInHanded_of_change_and (C := Tryd.checked) (X := fun w _ => laidMetH Tryd.prog LaidL w) (fun _ _ _ hh h => h.of_heap hh) own started (by kernel_rfl) Tryd.func3
    (ChangeSpec.witness_at (enc := enc) (C := Tryd.checked) (os := os) (X := fun w _ => laidMetH Tryd.prog LaidL w) false (laidWorld os) #[.slice none 0 0, .agg #[.slice none 0 0, .int .u8 0, .int .u32 0, .slice none 0 0, .string ByteArray.empty], .agg #[.slice none 0 0, .int .u8 0, .int .u32 0, .slice none 0 0, .string ByteArray.empty]] 8 rfl (by kernel_rfl) (by kernel_rfl) (by kernel_rfl) (by kernel_rfl) (by kernel_rfl) (laidWorld_met os _)) ?_
  intro W base args ds gs before hval0 hW hcnd hsz0 hL _
  have hg := handle_of_laid hL
  have hsz : (DataW.weightsEach Tryd.prog (Tryd.f3.params.toList ++ Rows.zoneInsertSpec.plain.varTypes Tryd.prog) (ds ++ gs)).all (· ≤ reachBytes) = true := hsz0
  have hval : ∀ (j : Nat) t v, Tryd.f3.params[j]? = some t → args[j]? = some v → Value.okWide Tryd.prog W .any base t v := hval0
  have hW' := hW
  obtain ⟨p, q, hA0, hV, rfl, hfz, hnd⟩ := hW
  have hA : DataW.TrodAll enc Tryd.prog W 0 (fun _ => true) true Tryd.f3.params.toList args.toList ds p := hA0
  rw [Tryd.params3] at hA hval hsz
  obtain ⟨v0, vs0, d0, ds0, p0, q0, hargs, rfl, rfl, h0, r0⟩ := trodAll_cons hA
  obtain ⟨v1, vs1, d1, ds1, p1, q1, rfl, rfl, rfl, h1, r1⟩ := trodAll_cons r0
  obtain ⟨v2, vs2, d2, ds2, p2, q2, rfl, rfl, rfl, h2, r2⟩ := trodAll_cons r1
  obtain ⟨rfl, rfl, rfl⟩ := trodAll_nil r2
  obtain rfl : args = #[v0, v1, v2] := by cases args; simp_all
  obtain ⟨rfl, rfl⟩ := trodVars_none hV
  obtain ⟨a0, len0, cap0, rfl⟩ := okWide_slice Tryd.underlying22 (hval 0 22 v0 rfl rfl)
  have k0 := h0
  have lt0 : ∀ x ∈ p0, x.block < W.heap.size := by obtain ⟨m, hm⟩ := k0; exact DataW.trod_lt m _ _ _ hm
  have w0 := Go.Px.rowOf_trod (α := (Option Addr × Nat × Nat) × Int × Int × (Option Addr × Nat × Nat) × ByteArray) (fun x => [.slice x.1.1 x.1.2.1 x.1.2.2, .int .u8 x.2.1, .int .u32 x.2.2.1, .slice x.2.2.2.1.1 x.2.2.2.1.2.1 x.2.2.2.1.2.2, .string x.2.2.2.2]) (fun x => (x.1.2.1 ≤ x.1.2.2 ∧ x.1.2.2 ≤ maxLen ∧ ∃ ys : List (Int), Go.Px.SlIn (Go.Px.imW W) x.1.1 x.1.2.1 1 (fun x => [.int .u8 x]) ys ∧ ∀ y ∈ ys, (fun x => (Lit.int .u8 x).wf = true) y) ∧ (Lit.int .u8 x.2.1).wf = true ∧ (Lit.int .u32 x.2.2.1).wf = true ∧ (x.2.2.2.1.2.1 ≤ x.2.2.2.1.2.2 ∧ x.2.2.2.1.2.2 ≤ maxLen ∧ ∃ ys : List (Int), Go.Px.SlIn (Go.Px.imW W) x.2.2.2.1.1 x.2.2.2.1.2.1 1 (fun x => [.int .u8 x]) ys ∧ ∀ y ∈ ys, (fun x => (Lit.int .u8 x).wf = true) y) ∧ x.2.2.2.2.size ≤ maxLen) Tryd.underlying22 (by
    intro n cs x h hl
    have hl' : cs.length = 5 := hl.trans (by kernel_rfl)
    obtain ⟨c0, c1, c2, c3, c4, rfl⟩ : ∃ c0 c1 c2 c3 c4, cs = [c0, c1, c2, c3, c4] := by
      match cs, hl' with
      | [c0, c1, c2, c3, c4], _ => exact ⟨c0, c1, c2, c3, c4, rfl⟩
    obtain ⟨n0, y0, g0⟩ := Go.Px.trod_field Tryd.underlying26 h 0 _ rfl
    replace g0 : DataW.trod enc Tryd.prog W 0 (fun _ => true) true n0 23 (List.take (Tryd.prog.cellsOf 23) (List.drop 0 [c0, c1, c2, c3, c4])) = some y0 := g0
    rw [show Tryd.prog.cellsOf 23 = 1 by kernel_rfl] at g0
    replace g0 : DataW.trod enc Tryd.prog W 0 (fun _ => true) true n0 23 [c0] = some y0 := g0
    obtain ⟨n1, y1, g1⟩ := Go.Px.trod_field Tryd.underlying26 h 1 _ rfl
    replace g1 : DataW.trod enc Tryd.prog W 0 (fun _ => true) true n1 5 (List.take (Tryd.prog.cellsOf 5) (List.drop 1 [c0, c1, c2, c3, c4])) = some y1 := g1
    rw [show Tryd.prog.cellsOf 5 = 1 by kernel_rfl] at g1
    replace g1 : DataW.trod enc Tryd.prog W 0 (fun _ => true) true n1 5 [c1] = some y1 := g1
    obtain ⟨n2, y2, g2⟩ := Go.Px.trod_field Tryd.underlying26 h 2 _ rfl
    replace g2 : DataW.trod enc Tryd.prog W 0 (fun _ => true) true n2 24 (List.take (Tryd.prog.cellsOf 24) (List.drop 2 [c0, c1, c2, c3, c4])) = some y2 := g2
    rw [show Tryd.prog.cellsOf 24 = 1 by kernel_rfl] at g2
    replace g2 : DataW.trod enc Tryd.prog W 0 (fun _ => true) true n2 24 [c2] = some y2 := g2
    obtain ⟨n3, y3, g3⟩ := Go.Px.trod_field Tryd.underlying26 h 3 _ rfl
    replace g3 : DataW.trod enc Tryd.prog W 0 (fun _ => true) true n3 23 (List.take (Tryd.prog.cellsOf 23) (List.drop 3 [c0, c1, c2, c3, c4])) = some y3 := g3
    rw [show Tryd.prog.cellsOf 23 = 1 by kernel_rfl] at g3
    replace g3 : DataW.trod enc Tryd.prog W 0 (fun _ => true) true n3 23 [c3] = some y3 := g3
    obtain ⟨n4, y4, g4⟩ := Go.Px.trod_field Tryd.underlying26 h 4 _ rfl
    replace g4 : DataW.trod enc Tryd.prog W 0 (fun _ => true) true n4 9 (List.take (Tryd.prog.cellsOf 9) (List.drop 4 [c0, c1, c2, c3, c4])) = some y4 := g4
    rw [show Tryd.prog.cellsOf 9 = 1 by kernel_rfl] at g4
    replace g4 : DataW.trod enc Tryd.prog W 0 (fun _ => true) true n4 9 [c4] = some y4 := g4
    obtain ⟨va0, vl0, vc0, rfl, hT0⟩ := Go.Px.trod_sl Tryd.underlying23 g0
    have u0 := Go.Px.rowOf_trod (α := Int) (fun x => [.int .u8 x]) (fun x => (Lit.int .u8 x).wf = true) Tryd.underlying23 (by
      intro n cs x h hl
      obtain ⟨c, rfl⟩ := Go.Px.trod_len Tryd.underlying5 rfl h
      obtain ⟨m, rfl, w⟩ := Go.Px.trod_int Tryd.underlying5 h
      exact ⟨m, rfl, w⟩
      ) hT0
    rw [show Tryd.prog.cellsOf 5 = 1 by kernel_rfl] at u0
    obtain ⟨v1, rfl, u1⟩ := Go.Px.trod_int Tryd.underlying5 g1
    obtain ⟨v2, rfl, u2⟩ := Go.Px.trod_int Tryd.underlying24 g2
    obtain ⟨va3, vl3, vc3, rfl, hT3⟩ := Go.Px.trod_sl Tryd.underlying23 g3
    have u3 := Go.Px.rowOf_trod (α := Int) (fun x => [.int .u8 x]) (fun x => (Lit.int .u8 x).wf = true) Tryd.underlying23 (by
      intro n cs x h hl
      obtain ⟨c, rfl⟩ := Go.Px.trod_len Tryd.underlying5 rfl h
      obtain ⟨m, rfl, w⟩ := Go.Px.trod_int Tryd.underlying5 h
      exact ⟨m, rfl, w⟩
      ) hT3
    rw [show Tryd.prog.cellsOf 5 = 1 by kernel_rfl] at u3
    obtain ⟨v4, rfl, u4⟩ := Go.Px.trod_str Tryd.underlying9 g4
    exact ⟨⟨⟨va0, vl0, vc0⟩, v1, v2, ⟨va3, vl3, vc3⟩, v4⟩, rfl, u0, u1, u2, u3, u4⟩
    ) k0
  rw [show Tryd.prog.cellsOf 26 = 5 by kernel_rfl] at w0
  have z0 := Go.Px.weight_of 0 hsz rfl rfl Tryd.underlying22 (by decide +kernel) k0
  obtain ⟨cs1, rfl, hs1⟩ := okWide_struct Tryd.underlying26 (hval 1 26 v1 rfl rfl)
  have k1 := h1
  have lt1 : ∀ x ∈ p1, x.block < W.heap.size := by obtain ⟨m, hm⟩ := k1; exact DataW.trod_lt m _ _ _ hm
  obtain ⟨y1, hy1, w1⟩ : ∃ y : (Option Addr × Nat × Nat) × Int × Int × (Option Addr × Nat × Nat) × ByteArray, cs1 = ((fun x => [.slice x.1.1 x.1.2.1 x.1.2.2, .int .u8 x.2.1, .int .u32 x.2.2.1, .slice x.2.2.2.1.1 x.2.2.2.1.2.1 x.2.2.2.1.2.2, .string x.2.2.2.2]) y).toArray ∧ (fun x => (x.1.2.1 ≤ x.1.2.2 ∧ x.1.2.2 ≤ maxLen ∧ ∃ ys : List (Int), Go.Px.SlIn (Go.Px.imW W) x.1.1 x.1.2.1 1 (fun x => [.int .u8 x]) ys ∧ ∀ y ∈ ys, (fun x => (Lit.int .u8 x).wf = true) y) ∧ (Lit.int .u8 x.2.1).wf = true ∧ (Lit.int .u32 x.2.2.1).wf = true ∧ (x.2.2.2.1.2.1 ≤ x.2.2.2.1.2.2 ∧ x.2.2.2.1.2.2 ≤ maxLen ∧ ∃ ys : List (Int), Go.Px.SlIn (Go.Px.imW W) x.2.2.2.1.1 x.2.2.2.1.2.1 1 (fun x => [.int .u8 x]) ys ∧ ∀ y ∈ ys, (fun x => (Lit.int .u8 x).wf = true) y) ∧ x.2.2.2.2.size ≤ maxLen) y := by
    obtain ⟨m, g⟩ := h1
    have key : ∀ (n : Nat) (cs : List Value) (x : DataW H × List MemPlace), DataW.trod enc Tryd.prog W 0 (fun _ => true) true n 26 cs = some x → cs.length = Tryd.prog.cellsOf 26 → ∃ y : (Option Addr × Nat × Nat) × Int × Int × (Option Addr × Nat × Nat) × ByteArray, cs = (fun x => [.slice x.1.1 x.1.2.1 x.1.2.2, .int .u8 x.2.1, .int .u32 x.2.2.1, .slice x.2.2.2.1.1 x.2.2.2.1.2.1 x.2.2.2.1.2.2, .string x.2.2.2.2]) y ∧ (fun x => (x.1.2.1 ≤ x.1.2.2 ∧ x.1.2.2 ≤ maxLen ∧ ∃ ys : List (Int), Go.Px.SlIn (Go.Px.imW W) x.1.1 x.1.2.1 1 (fun x => [.int .u8 x]) ys ∧ ∀ y ∈ ys, (fun x => (Lit.int .u8 x).wf = true) y) ∧ (Lit.int .u8 x.2.1).wf = true ∧ (Lit.int .u32 x.2.2.1).wf = true ∧ (x.2.2.2.1.2.1 ≤ x.2.2.2.1.2.2 ∧ x.2.2.2.1.2.2 ≤ maxLen ∧ ∃ ys : List (Int), Go.Px.SlIn (Go.Px.imW W) x.2.2.2.1.1 x.2.2.2.1.2.1 1 (fun x => [.int .u8 x]) ys ∧ ∀ y ∈ ys, (fun x => (Lit.int .u8 x).wf = true) y) ∧ x.2.2.2.2.size ≤ maxLen) y := by
      intro n cs x h hl
      have hl' : cs.length = 5 := hl.trans (by kernel_rfl)
      obtain ⟨c0, c1, c2, c3, c4, rfl⟩ : ∃ c0 c1 c2 c3 c4, cs = [c0, c1, c2, c3, c4] := by
        match cs, hl' with
        | [c0, c1, c2, c3, c4], _ => exact ⟨c0, c1, c2, c3, c4, rfl⟩
      obtain ⟨n0, y0, g0⟩ := Go.Px.trod_field Tryd.underlying26 h 0 _ rfl
      replace g0 : DataW.trod enc Tryd.prog W 0 (fun _ => true) true n0 23 (List.take (Tryd.prog.cellsOf 23) (List.drop 0 [c0, c1, c2, c3, c4])) = some y0 := g0
      rw [show Tryd.prog.cellsOf 23 = 1 by kernel_rfl] at g0
      replace g0 : DataW.trod enc Tryd.prog W 0 (fun _ => true) true n0 23 [c0] = some y0 := g0
      obtain ⟨n1, y1, g1⟩ := Go.Px.trod_field Tryd.underlying26 h 1 _ rfl
      replace g1 : DataW.trod enc Tryd.prog W 0 (fun _ => true) true n1 5 (List.take (Tryd.prog.cellsOf 5) (List.drop 1 [c0, c1, c2, c3, c4])) = some y1 := g1
      rw [show Tryd.prog.cellsOf 5 = 1 by kernel_rfl] at g1
      replace g1 : DataW.trod enc Tryd.prog W 0 (fun _ => true) true n1 5 [c1] = some y1 := g1
      obtain ⟨n2, y2, g2⟩ := Go.Px.trod_field Tryd.underlying26 h 2 _ rfl
      replace g2 : DataW.trod enc Tryd.prog W 0 (fun _ => true) true n2 24 (List.take (Tryd.prog.cellsOf 24) (List.drop 2 [c0, c1, c2, c3, c4])) = some y2 := g2
      rw [show Tryd.prog.cellsOf 24 = 1 by kernel_rfl] at g2
      replace g2 : DataW.trod enc Tryd.prog W 0 (fun _ => true) true n2 24 [c2] = some y2 := g2
      obtain ⟨n3, y3, g3⟩ := Go.Px.trod_field Tryd.underlying26 h 3 _ rfl
      replace g3 : DataW.trod enc Tryd.prog W 0 (fun _ => true) true n3 23 (List.take (Tryd.prog.cellsOf 23) (List.drop 3 [c0, c1, c2, c3, c4])) = some y3 := g3
      rw [show Tryd.prog.cellsOf 23 = 1 by kernel_rfl] at g3
      replace g3 : DataW.trod enc Tryd.prog W 0 (fun _ => true) true n3 23 [c3] = some y3 := g3
      obtain ⟨n4, y4, g4⟩ := Go.Px.trod_field Tryd.underlying26 h 4 _ rfl
      replace g4 : DataW.trod enc Tryd.prog W 0 (fun _ => true) true n4 9 (List.take (Tryd.prog.cellsOf 9) (List.drop 4 [c0, c1, c2, c3, c4])) = some y4 := g4
      rw [show Tryd.prog.cellsOf 9 = 1 by kernel_rfl] at g4
      replace g4 : DataW.trod enc Tryd.prog W 0 (fun _ => true) true n4 9 [c4] = some y4 := g4
      obtain ⟨va0, vl0, vc0, rfl, hT0⟩ := Go.Px.trod_sl Tryd.underlying23 g0
      have u0 := Go.Px.rowOf_trod (α := Int) (fun x => [.int .u8 x]) (fun x => (Lit.int .u8 x).wf = true) Tryd.underlying23 (by
        intro n cs x h hl
        obtain ⟨c, rfl⟩ := Go.Px.trod_len Tryd.underlying5 rfl h
        obtain ⟨m, rfl, w⟩ := Go.Px.trod_int Tryd.underlying5 h
        exact ⟨m, rfl, w⟩
        ) hT0
      rw [show Tryd.prog.cellsOf 5 = 1 by kernel_rfl] at u0
      obtain ⟨v1, rfl, u1⟩ := Go.Px.trod_int Tryd.underlying5 g1
      obtain ⟨v2, rfl, u2⟩ := Go.Px.trod_int Tryd.underlying24 g2
      obtain ⟨va3, vl3, vc3, rfl, hT3⟩ := Go.Px.trod_sl Tryd.underlying23 g3
      have u3 := Go.Px.rowOf_trod (α := Int) (fun x => [.int .u8 x]) (fun x => (Lit.int .u8 x).wf = true) Tryd.underlying23 (by
        intro n cs x h hl
        obtain ⟨c, rfl⟩ := Go.Px.trod_len Tryd.underlying5 rfl h
        obtain ⟨m, rfl, w⟩ := Go.Px.trod_int Tryd.underlying5 h
        exact ⟨m, rfl, w⟩
        ) hT3
      rw [show Tryd.prog.cellsOf 5 = 1 by kernel_rfl] at u3
      obtain ⟨v4, rfl, u4⟩ := Go.Px.trod_str Tryd.underlying9 g4
      exact ⟨⟨⟨va0, vl0, vc0⟩, v1, v2, ⟨va3, vl3, vc3⟩, v4⟩, rfl, u0, u1, u2, u3, u4⟩
    obtain ⟨y, h1, h2⟩ := key m cs1.toList _ g (by rw [Array.length_toList]; exact hs1)
    exact ⟨y, by rw [← h1], h2⟩
  subst hy1
  obtain ⟨cs2, rfl, hs2⟩ := okWide_struct Tryd.underlying26 (hval 2 26 v2 rfl rfl)
  have k2 := h2
  have lt2 : ∀ x ∈ p2, x.block < W.heap.size := by obtain ⟨m, hm⟩ := k2; exact DataW.trod_lt m _ _ _ hm
  obtain ⟨y2, hy2, w2⟩ : ∃ y : (Option Addr × Nat × Nat) × Int × Int × (Option Addr × Nat × Nat) × ByteArray, cs2 = ((fun x => [.slice x.1.1 x.1.2.1 x.1.2.2, .int .u8 x.2.1, .int .u32 x.2.2.1, .slice x.2.2.2.1.1 x.2.2.2.1.2.1 x.2.2.2.1.2.2, .string x.2.2.2.2]) y).toArray ∧ (fun x => (x.1.2.1 ≤ x.1.2.2 ∧ x.1.2.2 ≤ maxLen ∧ ∃ ys : List (Int), Go.Px.SlIn (Go.Px.imW W) x.1.1 x.1.2.1 1 (fun x => [.int .u8 x]) ys ∧ ∀ y ∈ ys, (fun x => (Lit.int .u8 x).wf = true) y) ∧ (Lit.int .u8 x.2.1).wf = true ∧ (Lit.int .u32 x.2.2.1).wf = true ∧ (x.2.2.2.1.2.1 ≤ x.2.2.2.1.2.2 ∧ x.2.2.2.1.2.2 ≤ maxLen ∧ ∃ ys : List (Int), Go.Px.SlIn (Go.Px.imW W) x.2.2.2.1.1 x.2.2.2.1.2.1 1 (fun x => [.int .u8 x]) ys ∧ ∀ y ∈ ys, (fun x => (Lit.int .u8 x).wf = true) y) ∧ x.2.2.2.2.size ≤ maxLen) y := by
    obtain ⟨m, g⟩ := h2
    have key : ∀ (n : Nat) (cs : List Value) (x : DataW H × List MemPlace), DataW.trod enc Tryd.prog W 0 (fun _ => true) true n 26 cs = some x → cs.length = Tryd.prog.cellsOf 26 → ∃ y : (Option Addr × Nat × Nat) × Int × Int × (Option Addr × Nat × Nat) × ByteArray, cs = (fun x => [.slice x.1.1 x.1.2.1 x.1.2.2, .int .u8 x.2.1, .int .u32 x.2.2.1, .slice x.2.2.2.1.1 x.2.2.2.1.2.1 x.2.2.2.1.2.2, .string x.2.2.2.2]) y ∧ (fun x => (x.1.2.1 ≤ x.1.2.2 ∧ x.1.2.2 ≤ maxLen ∧ ∃ ys : List (Int), Go.Px.SlIn (Go.Px.imW W) x.1.1 x.1.2.1 1 (fun x => [.int .u8 x]) ys ∧ ∀ y ∈ ys, (fun x => (Lit.int .u8 x).wf = true) y) ∧ (Lit.int .u8 x.2.1).wf = true ∧ (Lit.int .u32 x.2.2.1).wf = true ∧ (x.2.2.2.1.2.1 ≤ x.2.2.2.1.2.2 ∧ x.2.2.2.1.2.2 ≤ maxLen ∧ ∃ ys : List (Int), Go.Px.SlIn (Go.Px.imW W) x.2.2.2.1.1 x.2.2.2.1.2.1 1 (fun x => [.int .u8 x]) ys ∧ ∀ y ∈ ys, (fun x => (Lit.int .u8 x).wf = true) y) ∧ x.2.2.2.2.size ≤ maxLen) y := by
      intro n cs x h hl
      have hl' : cs.length = 5 := hl.trans (by kernel_rfl)
      obtain ⟨c0, c1, c2, c3, c4, rfl⟩ : ∃ c0 c1 c2 c3 c4, cs = [c0, c1, c2, c3, c4] := by
        match cs, hl' with
        | [c0, c1, c2, c3, c4], _ => exact ⟨c0, c1, c2, c3, c4, rfl⟩
      obtain ⟨n0, y0, g0⟩ := Go.Px.trod_field Tryd.underlying26 h 0 _ rfl
      replace g0 : DataW.trod enc Tryd.prog W 0 (fun _ => true) true n0 23 (List.take (Tryd.prog.cellsOf 23) (List.drop 0 [c0, c1, c2, c3, c4])) = some y0 := g0
      rw [show Tryd.prog.cellsOf 23 = 1 by kernel_rfl] at g0
      replace g0 : DataW.trod enc Tryd.prog W 0 (fun _ => true) true n0 23 [c0] = some y0 := g0
      obtain ⟨n1, y1, g1⟩ := Go.Px.trod_field Tryd.underlying26 h 1 _ rfl
      replace g1 : DataW.trod enc Tryd.prog W 0 (fun _ => true) true n1 5 (List.take (Tryd.prog.cellsOf 5) (List.drop 1 [c0, c1, c2, c3, c4])) = some y1 := g1
      rw [show Tryd.prog.cellsOf 5 = 1 by kernel_rfl] at g1
      replace g1 : DataW.trod enc Tryd.prog W 0 (fun _ => true) true n1 5 [c1] = some y1 := g1
      obtain ⟨n2, y2, g2⟩ := Go.Px.trod_field Tryd.underlying26 h 2 _ rfl
      replace g2 : DataW.trod enc Tryd.prog W 0 (fun _ => true) true n2 24 (List.take (Tryd.prog.cellsOf 24) (List.drop 2 [c0, c1, c2, c3, c4])) = some y2 := g2
      rw [show Tryd.prog.cellsOf 24 = 1 by kernel_rfl] at g2
      replace g2 : DataW.trod enc Tryd.prog W 0 (fun _ => true) true n2 24 [c2] = some y2 := g2
      obtain ⟨n3, y3, g3⟩ := Go.Px.trod_field Tryd.underlying26 h 3 _ rfl
      replace g3 : DataW.trod enc Tryd.prog W 0 (fun _ => true) true n3 23 (List.take (Tryd.prog.cellsOf 23) (List.drop 3 [c0, c1, c2, c3, c4])) = some y3 := g3
      rw [show Tryd.prog.cellsOf 23 = 1 by kernel_rfl] at g3
      replace g3 : DataW.trod enc Tryd.prog W 0 (fun _ => true) true n3 23 [c3] = some y3 := g3
      obtain ⟨n4, y4, g4⟩ := Go.Px.trod_field Tryd.underlying26 h 4 _ rfl
      replace g4 : DataW.trod enc Tryd.prog W 0 (fun _ => true) true n4 9 (List.take (Tryd.prog.cellsOf 9) (List.drop 4 [c0, c1, c2, c3, c4])) = some y4 := g4
      rw [show Tryd.prog.cellsOf 9 = 1 by kernel_rfl] at g4
      replace g4 : DataW.trod enc Tryd.prog W 0 (fun _ => true) true n4 9 [c4] = some y4 := g4
      obtain ⟨va0, vl0, vc0, rfl, hT0⟩ := Go.Px.trod_sl Tryd.underlying23 g0
      have u0 := Go.Px.rowOf_trod (α := Int) (fun x => [.int .u8 x]) (fun x => (Lit.int .u8 x).wf = true) Tryd.underlying23 (by
        intro n cs x h hl
        obtain ⟨c, rfl⟩ := Go.Px.trod_len Tryd.underlying5 rfl h
        obtain ⟨m, rfl, w⟩ := Go.Px.trod_int Tryd.underlying5 h
        exact ⟨m, rfl, w⟩
        ) hT0
      rw [show Tryd.prog.cellsOf 5 = 1 by kernel_rfl] at u0
      obtain ⟨v1, rfl, u1⟩ := Go.Px.trod_int Tryd.underlying5 g1
      obtain ⟨v2, rfl, u2⟩ := Go.Px.trod_int Tryd.underlying24 g2
      obtain ⟨va3, vl3, vc3, rfl, hT3⟩ := Go.Px.trod_sl Tryd.underlying23 g3
      have u3 := Go.Px.rowOf_trod (α := Int) (fun x => [.int .u8 x]) (fun x => (Lit.int .u8 x).wf = true) Tryd.underlying23 (by
        intro n cs x h hl
        obtain ⟨c, rfl⟩ := Go.Px.trod_len Tryd.underlying5 rfl h
        obtain ⟨m, rfl, w⟩ := Go.Px.trod_int Tryd.underlying5 h
        exact ⟨m, rfl, w⟩
        ) hT3
      rw [show Tryd.prog.cellsOf 5 = 1 by kernel_rfl] at u3
      obtain ⟨v4, rfl, u4⟩ := Go.Px.trod_str Tryd.underlying9 g4
      exact ⟨⟨⟨va0, vl0, vc0⟩, v1, v2, ⟨va3, vl3, vc3⟩, v4⟩, rfl, u0, u1, u2, u3, u4⟩
    obtain ⟨y, h1, h2⟩ := key m cs2.toList _ g (by rw [Array.length_toList]; exact hs2)
    exact ⟨y, by rw [← h1], h2⟩
  subst hy2
  clear hA0 hval0 hsz0 hsz
  refine (Go.Px.Runs.below (ZoneInsert_row W hg a0 len0 cap0 (y1.1.1) (y1.1.2.1) (y1.1.2.2) (y1.2.1) (y1.2.2.1) (y1.2.2.2.1.1) (y1.2.2.2.1.2.1) (y1.2.2.2.1.2.2) (y1.2.2.2.2) (y2.1.1) (y2.1.2.1) (y2.1.2.2) (y2.2.1) (y2.2.2.1) (y2.2.2.2.1.1) (y2.2.2.2.1.2.1) (y2.2.2.2.1.2.2) (y2.2.2.2.2) w0 z0 w1 w2)).mono fun e W' ⟨he, bel⟩ => ?_
  subst he
  exact ⟨_, rfl, _, _, _, [], _, [], hW', trodAll_mk1 (shut_bool Tryd.underlying4 _), (trodAll_cons_mk (Below.trod laidOut (by kernel_rfl) (of_decide_eq_true (by kernel_rfl)) k0 bel lt0) (trodAll_cons_mk (Below.trod laidOut (by kernel_rfl) (of_decide_eq_true (by kernel_rfl)) k1 bel lt1) (trodAll_cons_mk (Below.trod laidOut (by kernel_rfl) (of_decide_eq_true (by kernel_rfl)) k2 bel lt2) trodAll_mk0))), rfl, bel.frame _, fun h => by cases h⟩
theorem over : Rows.zoneInsertRow.holds Tryd.pinned (OpenSpec.ofChange Rows.zoneInsertSpec) :=
  OpenClaim.holds_of_wide 3 Tryd.f3 rfl rfl rfl rfl rfl rfl rfl ⟨rfl, rfl, rfl, rfl, rfl⟩ rfl rfl rfl rfl rfl (by kernel_rfl) Tryd.func3 (by kernel_rfl)
    (of_decide_eq_true (by kernel_rfl)) (by unfold Func.isWrapper; first | (rw [if_pos (by decide +kernel)]; kernel_rfl) | (rw [if_neg (by decide +kernel)]; exact ⟨rfl, rfl⟩))
    (fun os started H enc _ => lifted os started H enc)
theorem proved : Rows.ZoneInsertCardSaid :=
  Claim7.holds_tied_plain_at .later [] [.handle] true (true, "a12128b3625d938c4a78380329e1d4718852546533b91d37352ef6041dbabd86") true
    over (fun _ h => by cases h) (by kernel_rfl) (fun _ h => by cases h) zoneInsert_row_tie rfl ⟨rfl, rfl⟩ (by kernel_rfl) rfl
    (fun f fn hf hfn => by
      obtain rfl : f = 3 := Option.some.inj ((show Tryd.prog.funcNamed "bolter/bolterlaw08.ZoneInsert" = some 3 by kernel_rfl).symm.trans hf) |>.symm
      obtain rfl : fn = Tryd.f3 := (Option.some.inj (Tryd.func3.symm.trans hfn)).symm
      exact ⟨by kernel_rfl, fun j t ht => by
        rw [Tryd.params3] at ht
        match j, ht with
        | 0, ht =>
          have h : t = 22 := by simpa using ht.symm
          subst h
          exact (show Tryd.prog.wantsStandIn 22 = false by kernel_rfl)
        | 1, ht =>
          have h : t = 26 := by simpa using ht.symm
          subst h
          exact (show Tryd.prog.wantsStandIn 26 = false by kernel_rfl)
        | 2, ht =>
          have h : t = 26 := by simpa using ht.symm
          subst h
          exact (show Tryd.prog.wantsStandIn 26 = false by kernel_rfl)
        | j + 3, ht => simp at ht⟩)
    (by kernel_rfl)
end Go.Proofs.YtdajglfbbcbgpaaDoor.zoneInsert
namespace Go.Proofs.YtdajglfbbcbgpaaDoor
/-- The tied card, under a short name. -/
theorem zoneInsert_holds : Rows.ZoneInsertCardSaid := zoneInsert.proved
#print axioms zoneInsert_holds
end Go.Proofs.YtdajglfbbcbgpaaDoor
