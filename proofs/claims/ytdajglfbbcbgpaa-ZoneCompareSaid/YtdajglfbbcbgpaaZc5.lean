/- ZoneCompare. -/
import Derived.Test.YtdajglfbbcbgpaaZc4
namespace Go.Proofs.Ytdajglfbbcbgpaa
open Go.Px
set_option linter.unusedVariables false

theorem ZoneCompare_row (W : World) (a0 : ByteArray) (a1 a2 : Int) (a3 b0 : ByteArray) (b1 b2 : Int) (b3 c0 : ByteArray) (c1 c2 : Int) (c3 : ByteArray)
    (wa : a0.size ≤ maxLen ∧ (Lit.int .u16 a1).wf = true ∧ (Lit.int .u32 a2).wf = true ∧ a3.size ≤ maxLen)
    (wb : b0.size ≤ maxLen ∧ (Lit.int .u16 b1).wf = true ∧ (Lit.int .u32 b2).wf = true ∧ b3.size ≤ maxLen)
    (wc : c0.size ≤ maxLen ∧ (Lit.int .u16 c1).wf = true ∧ (Lit.int .u32 c2).wf = true ∧ c3.size ≤ maxLen) :
    Runs Try.prog 3 #[.agg #[.string a0, .int .u16 a1, .int .u32 a2, .string a3], .agg #[.string b0, .int .u16 b1, .int .u32 b2, .string b3], .agg #[.string c0, .int .u16 c1, .int .u32 c2, .string c3]] (imW W) [] fun v _ _ => v = .bool true := by
  generalize hA : ((a0, a1, a2, a3) : Rc) = A
  generalize hB : ((b0, b1, b2, b3) : Rc) = B
  generalize hC : ((c0, c1, c2, c3) : Rc) = C
  refine bolterlaw08_ZoneCompare_fn _ _ _ _ _ _ _ _ _ _ _ _ _ _ _ ?_
  unfold bolterlaw08_ZoneCompare bolterlaw08_ZoneCompare_b1 bolterlaw08_ZoneCompare_b2 bolterlaw08_ZoneCompare_b3
  intro p q r
  refine (awake_runs _ _).mono ?_
  rintro v J T hle ⟨rfl, rfl⟩
  refine ⟨_, rfl, bcase_f rfl ?_⟩
  have hAB : ∀ J T, Runs Try.prog 9 #[vR (a0, a1, a2, a3), vR (b0, b1, b2, b3)] J T fun v _ T' => v = .int .i64 (cmpR A B) ∧ T' = T := fun J T => hA ▸ hB ▸ Compare_runs _ _ J T
  have hBC : ∀ J T, Runs Try.prog 9 #[vR (b0, b1, b2, b3), vR (c0, c1, c2, c3)] J T fun v _ T' => v = .int .i64 (cmpR B C) ∧ T' = T := fun J T => hB ▸ hC ▸ Compare_runs _ _ J T
  have hAC : ∀ J T, Runs Try.prog 9 #[vR (a0, a1, a2, a3), vR (c0, c1, c2, c3)] J T fun v _ T' => v = .int .i64 (cmpR A C) ∧ T' = T := fun J T => hA ▸ hC ▸ Compare_runs _ _ J T
  have hBA : ∀ J T, Runs Try.prog 9 #[vR (b0, b1, b2, b3), vR (a0, a1, a2, a3)] J T fun v _ T' => v = .int .i64 (cmpR B A) ∧ T' = T := fun J T => hB ▸ hA ▸ Compare_runs _ _ J T
  have hAA : ∀ J T, Runs Try.prog 9 #[vR (a0, a1, a2, a3), vR (a0, a1, a2, a3)] J T fun v _ T' => v = .int .i64 (cmpR A A) ∧ T' = T := fun J T => hA ▸ Compare_runs _ _ J T
  have hab : ∀ J T, Runs Try.prog 10 #[vR (a0, a1, a2, a3), vR (b0, b1, b2, b3)] J T fun v _ T' => v = .int .i64 (cmpR A B) ∧ T' = T := fun J T => hA ▸ hB ▸ compare_runs _ _ J T
  refine ⟨_, Cell.tl (Cell.tl (Cell.at0 rfl)), _, Cell.tl (Cell.tl (Cell.at0 rfl)), _, Cell.tl (Cell.tl (Cell.at0 rfl)), _, Cell.tl (Cell.tl (Cell.at0 rfl)), _, Cell.tl (Cell.at0 rfl), _, Cell.tl (Cell.at0 rfl), _, Cell.tl (Cell.at0 rfl), _, Cell.tl (Cell.at0 rfl), _, hAB _ _, ?_⟩
  refine ⟨_, Cell.tl (Cell.at0 rfl), _, Cell.tl (Cell.at0 rfl), _, Cell.tl (Cell.at0 rfl), _, Cell.tl (Cell.at0 rfl), _, Cell.at0 rfl, _, Cell.at0 rfl, _, Cell.at0 rfl, _, Cell.at0 rfl, _, hBC _ _, ?_⟩
  refine ⟨_, Cell.tl (Cell.tl (Cell.at0 rfl)), _, Cell.tl (Cell.tl (Cell.at0 rfl)), _, Cell.tl (Cell.tl (Cell.at0 rfl)), _, Cell.tl (Cell.tl (Cell.at0 rfl)), _, Cell.at0 rfl, _, Cell.at0 rfl, _, Cell.at0 rfl, _, Cell.at0 rfl, _, hAC _ _, ?_⟩
  refine ⟨_, Cell.tl (Cell.tl (Cell.at0 rfl)), _, Cell.tl (Cell.tl (Cell.at0 rfl)), _, Cell.tl (Cell.tl (Cell.at0 rfl)), _, Cell.tl (Cell.tl (Cell.at0 rfl)), _, Cell.tl (Cell.at0 rfl), _, Cell.tl (Cell.at0 rfl), _, Cell.tl (Cell.at0 rfl), _, Cell.tl (Cell.at0 rfl), ?_⟩
  refine (hab _ _).mono ?_
  rintro v J' T' hle' ⟨rfl, rfl⟩
  refine ⟨_, rfl, bcase_t (by simp) ?_⟩
  refine ⟨_, Cell.tl (Cell.at0 rfl), _, Cell.tl (Cell.at0 rfl), _, Cell.tl (Cell.at0 rfl), _, Cell.tl (Cell.at0 rfl), _, Cell.tl (Cell.tl (Cell.at0 rfl)), _, Cell.tl (Cell.tl (Cell.at0 rfl)), _, Cell.tl (Cell.tl (Cell.at0 rfl)), _, Cell.tl (Cell.tl (Cell.at0 rfl)), ?_⟩
  refine (hBA _ _).mono ?_
  rintro v J'' T'' hle'' ⟨rfl, rfl⟩
  have hv := cmR.vals A B
  refine ⟨_, rfl, bcase_t ?_ ?_⟩
  · rw [wrap_i64 (by omega) (by omega), cmR.anti A B]; simp
  refine ⟨_, Cell.tl (Cell.tl (Cell.at0 rfl)), _, Cell.tl (Cell.tl (Cell.at0 rfl)), _, Cell.tl (Cell.tl (Cell.at0 rfl)), _, Cell.tl (Cell.tl (Cell.at0 rfl)), _, Cell.tl (Cell.tl (Cell.at0 rfl)), _, Cell.tl (Cell.tl (Cell.at0 rfl)), _, Cell.tl (Cell.tl (Cell.at0 rfl)), _, Cell.tl (Cell.tl (Cell.at0 rfl)), ?_⟩
  refine (hAA _ _).mono ?_
  rintro v J3 T3 hle3 ⟨rfl, rfl⟩
  refine ⟨_, rfl, bcase_t (by rw [cmR.refl]; rfl) ?_⟩
  refine bcase_dec (fun _ => rfl) (fun h1 => bcase_dec (fun _ => rfl) (fun h2 => ?_))
  have := cmR.le_trans (a := A) (b := B) (d := C) (by omega) (by omega)
  rw [decide_eq_true this]
end Go.Proofs.Ytdajglfbbcbgpaa
