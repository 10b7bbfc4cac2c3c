/- IndexNone: for every input the law returns true, and its arguments read afterwards as they read before. No condition. -/
import Derived.Test.YtmlojdbahlfiaaaGreatDoorRows
import Derived.Test.YtmlojdbahlfiaaaGreatDoorM1IndexNone
import Derived.Test.YtmlojdbahlfiaaaGreatDoorM2IndexNone
import Derived.Test.YtmlojdbahlfiaaaGreatDoorM3IndexNone
import Derived.Test.YtmlojdbahlfiaaaGreatDoorM4IndexNone
import Derived.Test.YtmlojdbahlfiaaaGreatDoorM5IndexNone
import Derived.WalkKit
import Derived.ProofKit
import Derived.OpenShut
import Derived.ShutString
import Derived.ChangeOld
import Derived.Below
import Derived.SizedLaws
import Derived.Test.YtmlojdbahlfiaaaGreatDoorCards
import Derived.Test.YtmlojdbahlfiaaaGreatDoorTie
import Derived.SevenTiedAt
namespace Go.Proofs.YtmlojdbahlfiaaaGreatDoor.indexNone
open Go.ChangeShapes Go.WideShapes Go.ChangeAt Go.RowKit
open Go.ChangeMaps (open_string shut_string)
set_option linter.unusedVariables false
theorem own : ownKnob Tryz.prog.godebug = none := by kernel_rfl
theorem laidOut : laidOutB Tryz.prog = true := by kernel_rfl
set_option maxRecDepth 100000 in
theorem lifted (os : Os) (started : os.Started) (H : Type) (enc : TypeId × Value → H) :
    ReturnsInHanded {} Tryz.checked os 9 .any (fun w args => (Rows.indexNoneSpec.pre enc Tryz.prog Tryz.f9 Rows.indexNoneRow.domain false w args ∧ laidMetH Tryz.prog LaidL w) ∧ sizedMet enc Tryz.prog Tryz.f9 (OpenSpec.ofChange Rows.indexNoneSpec) false w args) (Rows.indexNoneSpec.post enc Tryz.prog Tryz.f9 false true false false) := by
  refine returnsInHanded_of_change_and (C := Tryz.checked) (X := fun w _ => laidMetH Tryz.prog LaidL w) (fun _ _ _ hh h => h.of_heap hh) own started (by kernel_rfl) Tryz.func9
    (ChangeSpec.witness_shaped (enc := enc) (C := Tryz.checked) (os := os) (X := fun w _ => laidMetH Tryz.prog LaidL w) false (laidWorld os) #[.agg #[.int .i64 0, .string ByteArray.empty, .string ByteArray.empty, .int .i64 0], .int .i64 0, .string ByteArray.empty] 8 (laidWorld_os os) (laidWorld_shaped os _) (by kernel_rfl) (by kernel_rfl) (by kernel_rfl) (laidWorld_met os _)) ?_
  intro W base args ds gs before hval0 hW hcnd hsz0 hL _
  have hg := handle_of_laid hL
  have hsz : (DataW.weightsEach Tryz.prog (Tryz.f9.params.toList ++ Rows.indexNoneSpec.plain.varTypes Tryz.prog) (ds ++ gs)).all (· ≤ reachBytes) = true := hsz0
  have hval : ∀ (j : Nat) t v, Tryz.f9.params[j]? = some t → args[j]? = some v → Value.okWide Tryz.prog W .any base t v := hval0
  have hW' := hW
  obtain ⟨p, q, hA0, hV, rfl, hfz, hnd⟩ := hW
  have hA : DataW.TrodAll enc Tryz.prog W 0 (fun _ => true) true Tryz.f9.params.toList args.toList ds p := hA0
  rw [Tryz.params9] at hA hval hsz
  obtain ⟨v0, vs0, d0, ds0, p0, q0, hargs, rfl, rfl, h0, r0⟩ := trodAll_cons hA
  obtain ⟨v1, vs1, d1, ds1, p1, q1, rfl, rfl, rfl, h1, r1⟩ := trodAll_cons r0
  obtain ⟨v2, vs2, d2, ds2, p2, q2, rfl, rfl, rfl, h2, r2⟩ := trodAll_cons r1
  obtain ⟨rfl, rfl, rfl⟩ := trodAll_nil r2
  obtain rfl : args = #[v0, v1, v2] := by cases args; simp_all
  obtain ⟨rfl, rfl⟩ := trodVars_none hV
  obtain ⟨cs0, rfl, hs0⟩ := okWide_struct Tryz.underlying33 (hval 0 33 v0 rfl rfl)
  have k0 := h0
  have lt0 : ∀ x ∈ p0, x.block < W.heap.size := by obtain ⟨m, hm⟩ := k0; exact DataW.trod_lt m _ _ _ hm
  obtain ⟨y0, hy0, w0⟩ : ∃ y : Int × ByteArray × (ByteArray × Int), cs0 = ((fun x => [.int .i64 x.1, .string x.2.1, .string x.2.2.1, .int .i64 x.2.2.2]) y).toArray ∧ (fun x => (Lit.int .i64 x.1).wf = true ∧ x.2.1.size ≤ maxLen ∧ (x.2.2.1.size ≤ maxLen ∧ (Lit.int .i64 x.2.2.2).wf = true)) y := by
    obtain ⟨m, g⟩ := h0
    have key : ∀ (n : Nat) (cs : List Value) (x : DataW H × List MemPlace), DataW.trod enc Tryz.prog W 0 (fun _ => true) true n 33 cs = some x → cs.length = Tryz.prog.cellsOf 33 → ∃ y : Int × ByteArray × (ByteArray × Int), cs = (fun x => [.int .i64 x.1, .string x.2.1, .string x.2.2.1, .int .i64 x.2.2.2]) y ∧ (fun x => (Lit.int .i64 x.1).wf = true ∧ x.2.1.size ≤ maxLen ∧ (x.2.2.1.size ≤ maxLen ∧ (Lit.int .i64 x.2.2.2).wf = true)) y := by
      intro n cs x h hl
      have hl' : cs.length = 4 := hl.trans (by kernel_rfl)
      obtain ⟨c0, c1, c2, c3, rfl⟩ : ∃ c0 c1 c2 c3, cs = [c0, c1, c2, c3] := by
        match cs, hl' with
        | [c0, c1, c2, c3], _ => exact ⟨c0, c1, c2, c3, rfl⟩
      obtain ⟨n0, y0, g0⟩ := Go.Px.trod_field Tryz.underlying33 h 0 _ rfl
      replace g0 : DataW.trod enc Tryz.prog W 0 (fun _ => true) true n0 28 (List.take (Tryz.prog.cellsOf 28) (List.drop 0 [c0, c1, c2, c3])) = some y0 := g0
      rw [show Tryz.prog.cellsOf 28 = 1 by kernel_rfl] at g0
      replace g0 : DataW.trod enc Tryz.prog W 0 (fun _ => true) true n0 28 [c0] = some y0 := g0
      obtain ⟨n1, y1, g1⟩ := Go.Px.trod_field Tryz.underlying33 h 1 _ rfl
      replace g1 : DataW.trod enc Tryz.prog W 0 (fun _ => true) true n1 29 (List.take (Tryz.prog.cellsOf 29) (List.drop 1 [c0, c1, c2, c3])) = some y1 := g1
      rw [show Tryz.prog.cellsOf 29 = 1 by kernel_rfl] at g1
      replace g1 : DataW.trod enc Tryz.prog W 0 (fun _ => true) true n1 29 [c1] = some y1 := g1
      obtain ⟨n2, y2, g2⟩ := Go.Px.trod_field Tryz.underlying33 h 2 _ rfl
      replace g2 : DataW.trod enc Tryz.prog W 0 (fun _ => true) true n2 31 (List.take (Tryz.prog.cellsOf 31) (List.drop 2 [c0, c1, c2, c3])) = some y2 := g2
      rw [show Tryz.prog.cellsOf 31 = 2 by kernel_rfl] at g2
      replace g2 : DataW.trod enc Tryz.prog W 0 (fun _ => true) true n2 31 [c2, c3] = some y2 := g2
      obtain ⟨v0, rfl, u0⟩ := Go.Px.trod_int Tryz.underlying28 g0
      obtain ⟨v1, rfl, u1⟩ := Go.Px.trod_str Tryz.underlying29 g1
      obtain ⟨v2, e2, u2⟩ : ∃ y : ByteArray × Int, [c2, c3] = (fun x => [.string x.1, .int .i64 x.2]) y ∧ (fun x => x.1.size ≤ maxLen ∧ (Lit.int .i64 x.2).wf = true) y := by
        have key2 : ∀ (n : Nat) (cs : List Value) (x : DataW H × List MemPlace), DataW.trod enc Tryz.prog W 0 (fun _ => true) true n 31 cs = some x → cs.length = Tryz.prog.cellsOf 31 → ∃ y : ByteArray × Int, cs = (fun x => [.string x.1, .int .i64 x.2]) y ∧ (fun x => x.1.size ≤ maxLen ∧ (Lit.int .i64 x.2).wf = true) y := by
          intro n cs x h hl
          have hl' : cs.length = 2 := hl.trans (by kernel_rfl)
          obtain ⟨c0, c1, rfl⟩ : ∃ c0 c1, cs = [c0, c1] := by
            match cs, hl' with
            | [c0, c1], _ => exact ⟨c0, c1, rfl⟩
          obtain ⟨n0, y0, g0⟩ := Go.Px.trod_field Tryz.underlying31 h 0 _ rfl
          replace g0 : DataW.trod enc Tryz.prog W 0 (fun _ => true) true n0 9 (List.take (Tryz.prog.cellsOf 9) (List.drop 0 [c0, c1])) = some y0 := g0
          rw [show Tryz.prog.cellsOf 9 = 1 by kernel_rfl] at g0
          replace g0 : DataW.trod enc Tryz.prog W 0 (fun _ => true) true n0 9 [c0] = some y0 := g0
          obtain ⟨n1, y1, g1⟩ := Go.Px.trod_field Tryz.underlying31 h 1 _ rfl
          replace g1 : DataW.trod enc Tryz.prog W 0 (fun _ => true) true n1 3 (List.take (Tryz.prog.cellsOf 3) (List.drop 1 [c0, c1])) = some y1 := g1
          rw [show Tryz.prog.cellsOf 3 = 1 by kernel_rfl] at g1
          replace g1 : DataW.trod enc Tryz.prog W 0 (fun _ => true) true n1 3 [c1] = some y1 := g1
          obtain ⟨v0, rfl, u0⟩ := Go.Px.trod_str Tryz.underlying9 g0
          obtain ⟨v1, rfl, u1⟩ := Go.Px.trod_int Tryz.underlying3 g1
          exact ⟨⟨v0, v1⟩, rfl, u0, u1⟩
        exact key2 _ _ _ g2 (by kernel_rfl)
      simp only [List.cons.injEq, and_true] at e2
      obtain ⟨rfl, rfl⟩ := e2
      exact ⟨⟨v0, v1, v2⟩, rfl, u0, u1, u2⟩
    obtain ⟨y, h1, h2⟩ := key m cs0.toList _ g (by rw [Array.length_toList]; exact hs0)
    exact ⟨y, by rw [← h1], h2⟩
  subst hy0
  obtain ⟨a1, rfl, rfl, rfl, w1⟩ := open_int Tryz.underlying3 (hval 1 3 v1 rfl rfl) h1
  obtain ⟨a2, rfl, rfl, rfl, y2⟩ := open_string Tryz.underlying9 (hval 2 9 v2 rfl rfl) h2
  have w2 : a2.size ≤ 140737488351232 := by
    have z := sized_string hsz (j := 2) (t := 9) rfl rfl
    rw [Array.length_toList] at z
    exact z
  clear hA0 hval0 hsz0 hsz
  refine (Go.Px.Runs.below (IndexNone_row W hg (y0.1) (y0.2.1) (y0.2.2.1) (y0.2.2.2) a1 a2 w0 w1 w2)).mono fun e W' ⟨he, bel⟩ => ?_
  subst he
  exact ⟨_, rfl, _, _, _, [], _, [], hW', trodAll_mk1 (shut_bool Tryz.underlying4 _), (trodAll_cons_mk (Below.trod laidOut (by kernel_rfl) (of_decide_eq_true (by kernel_rfl)) k0 bel lt0) (trodAll_cons_mk (shut_int Tryz.underlying3 w1) (trodAll_cons_mk (shut_string Tryz.underlying9 y2) trodAll_mk0))), rfl, bel.frame _, fun h => by cases h⟩
theorem over : Rows.indexNoneRow.holds Tryz.pinned (OpenSpec.ofChange Rows.indexNoneSpec) :=
  OpenClaim.holds_of_wide 9 Tryz.f9 rfl rfl rfl rfl rfl rfl rfl ⟨rfl, rfl, rfl, rfl, rfl⟩ rfl rfl rfl rfl rfl (by kernel_rfl) Tryz.func9 (by kernel_rfl)
    (of_decide_eq_true (by kernel_rfl)) (by unfold Func.isWrapper; first | (rw [if_pos (by decide +kernel)]; kernel_rfl) | (rw [if_neg (by decide +kernel)]; exact ⟨rfl, rfl⟩))
    (fun os started H enc _ => lifted os started H enc)
theorem proved : Rows.IndexNoneCardSaid :=
  Claim7.holds_tied_plain_at .later [] [.data, .data, .data, .sentinel, .sentinel] true (true, "f613b22d704ef95f664b70cc0d092546cd638f37aa74690687501968d7efc847") true
    over (fun _ h => by cases h) (by kernel_rfl) (fun _ h => by cases h) indexNone_row_tie rfl ⟨rfl, rfl⟩ (by kernel_rfl) rfl
    (fun f fn hf hfn => by
      obtain rfl : f = 9 := Option.some.inj ((show Tryz.prog.funcNamed "bolter/bolterlaw17.IndexNone" = some 9 by kernel_rfl).symm.trans hf) |>.symm
      obtain rfl : fn = Tryz.f9 := (Option.some.inj (Tryz.func9.symm.trans hfn)).symm
      exact ⟨by kernel_rfl, fun j t ht => by
        rw [Tryz.params9] at ht
        match j, ht with
        | 0, ht =>
          have h : t = 33 := by simpa using ht.symm
          subst h
          exact (show Tryz.prog.wantsStandIn 33 = false by kernel_rfl)
        | 1, ht =>
          have h : t = 3 := by simpa using ht.symm
          subst h
          exact (show Tryz.prog.wantsStandIn 3 = false by kernel_rfl)
        | 2, ht =>
          have h : t = 9 := by simpa using ht.symm
          subst h
          exact (show Tryz.prog.wantsStandIn 9 = false by kernel_rfl)
        | j + 3, ht => simp at ht⟩)
    (by kernel_rfl)
end Go.Proofs.YtmlojdbahlfiaaaGreatDoor.indexNone
namespace Go.Proofs.YtmlojdbahlfiaaaGreatDoor
/-- The tied card, under a short name. -/
theorem indexNone_holds : Rows.IndexNoneCardSaid := indexNone.proved
#print axioms indexNone_holds
end Go.Proofs.YtmlojdbahlfiaaaGreatDoor
