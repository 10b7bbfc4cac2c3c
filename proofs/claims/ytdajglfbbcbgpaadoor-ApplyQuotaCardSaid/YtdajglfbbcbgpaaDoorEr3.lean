/- The listed variable errors.errorType: what it holds; a world where it does. -/
import Derived.Test.YtdajglfbbcbgpaaDoorRows
import Derived.Test.YtdajglfbbcbgpaaDoorEr2
import Derived.LaidLaws
import Derived.LaidHandle
import Derived.Stop.Joined
import Derived.JoinedOf
import Derived.ChangeVars
namespace Go.Proofs.YtdajglfbbcbgpaaDoor
set_option linter.unusedVariables false

theorem lo_et : Program.globalNamed Tryd.prog "errors.errorType" = some 0 := by kernel_rfl
theorem lo_rt : (Tryd.prog.cutTypes.find? (·.1 == "internal/reflectlite.rtype")).map (·.2) = some 130 := by kernel_rfl
theorem lo_oneRow : ((List.range 202).filter fun t => Program.rowNamed Tryd.prog t [101, 114, 114, 111, 114]) = [39] := by kernel_rfl
theorem lo_size : Tryd.prog.types.size = 202 := by kernel_rfl
abbrev LaidL : List (String × DataW Unit) := [("errors.errorType", Rows.laid_errors_errorType)]
/-- WHAT THE CONDITION GIVES: the variable's one cell. -/
theorem handle_of_laid {W : World} (h : laidMetH Tryd.prog LaidL W) : W.cell? ⟨0, 0, none⟩ = some hErr := by
  have h' : laidMet Tryd.prog [] W ∧ handlesMet Tryd.prog LaidL W := h
  obtain ⟨name, u, ty, e1, e2, e3, e4, e5⟩ := h'.2 _ (List.mem_singleton.2 rfl)
  have en : name = [101, 114, 114, 111, 114] := (Option.some.inj e1).symm
  subst en
  obtain rfl := Option.some.inj (lo_rt.symm.trans e2)
  have hm : ty ∈ (List.range 202).filter fun t => Program.rowNamed Tryd.prog t [101, 114, 114, 111, 114] := List.mem_filter.2 ⟨List.mem_range.2 (by rw [← lo_size]; exact e3), e4⟩
  rw [lo_oneRow] at hm
  obtain rfl := List.mem_singleton.1 hm
  have hh : typeHandle Tryd.prog 39 = .pointer (some ⟨1, 39, none⟩) := by kernel_rfl
  rw [hh] at e5
  simpa using World.var?_cell lo_et e5 0
/-- A world that meets the condition: the settled one, the variable's cell laid. -/
noncomputable def laidWorld (os : Os) : World :=
  let w0 := World.holding Tryd.prog os ⟨#[], #[], []⟩
  { w0 with heap := w0.heap.modify 0 fun
      | .cells _ t frozen => .cells #[hErr] t frozen
      | o => o }
theorem laidWorld_met (os : Os) (args : Array Value) : laidMetH Tryd.prog LaidL ((laidWorld os).forCall (fun _ _ => 0) ⟨#[], args, []⟩).memory :=
  laidMetH_of_parts (laidMet_nil _ _) (by kernel_rfl)
end Go.Proofs.YtdajglfbbcbgpaaDoor
