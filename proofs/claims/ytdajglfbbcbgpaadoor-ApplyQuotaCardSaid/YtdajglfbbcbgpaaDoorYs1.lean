/- The library's sort of a zone: what it leaves. -/
import Derived.Test.YtdajglfbbcbgpaaDoorYr1
import Derived.Test.YtdajglfbbcbgpaaDoorSf1
import Derived.Test.YtdajglfbbcbgpaaDoorYn2
namespace Go.Proofs.YtdajglfbbcbgpaaDoor
open Go.Px Go.RowKit Go.Sort Go.Shelf Go.Lib
set_option linter.unusedVariables false
set_option linter.unusedSimpArgs false

theorem cmp_enters (args : Array Value) (w : World) : (callFunc 26 args).run Tryd.prog w = .ok (.enter 26 args) w := enters_of Tryd.func26 (by kernel_rfl) rfl args w
theorem encR_one' (x : Rc) (v : Value) (h : v ∈ encR x) : v.oneCell' = true := by
  simp only [encR, List.mem_cons, List.not_mem_nil, or_false] at h
  rcases h with rfl | rfl | rfl | rfl <;> rfl
theorem SortF_runs {xs : List Rc} {v : Value} {own : SH} (hv : OwnZ v xs own) (hl : xs.length ≤ 1000000) (I : IMem) (F : SH) :
    Runs Tryd.prog 48 #[v, .func (.func 26) #[] #[]] I (own ++ F) fun v' _ T => v' = .tuple #[] ∧ ∃ own', OwnZ v (msR xs) own' ∧ T = own' ++ F := by
  have hc : ∀ x y (I : IMem) (S : SH), Runs Tryd.prog 26 #[.agg (encR x).toArray, .agg (encR y).toArray] I S fun v _ T => v = .int .i64 (cmpR x y) := fun x y I S => (Compare_runs x y I S).mono fun v J T _ h => h.1
  rcases hv with ⟨rfl, rfl, rfl⟩ | ⟨g, cap, rest, rfl, rfl, hcap, hcm⟩
  · refine slices_SortFunc_api_Record_fn _ _ _ _ _ _ ?_
    unfold slices_SortFunc_api_Record
    refine (bitlen_runs Tryd.pdqRec (n := 0) (by omega) I _).mono ?_
    rintro v J T hle ⟨⟨l, rfl, hlt⟩, rfl⟩
    refine ⟨_, rfl, ?_⟩
    intro w hw
    refine (AnyF.pdqsortCmpFunc_none Tryd.pdqRec none 0 (l : Int) (.func (.func 26) #[] #[]) w).mono ?_
    rintro e w' ⟨rfl, rfl⟩
    exact ⟨_, J, _, rfl, IMem.le.refl J, hw, rfl, rfl, [], (by rw [show msR [] = [] by simp [msR]]; exact OwnR.nil), rfl⟩
  · refine slices_SortFunc_api_Record_fn _ _ _ _ _ _ ?_
    unfold slices_SortFunc_api_Record
    rw [wrap_u64 (by omega) (by omega)]
    refine (bitlen_runs Tryd.pdqRec (n := xs.length) (by omega) I _).mono ?_
    rintro v J T hle ⟨⟨l, rfl, hlt⟩, rfl⟩
    refine ⟨_, rfl, (pdq_runs Tryd.pdqRec 4 (fun w => Tryd.isAgg36 w) (fun w => Tryd.sizeOf36 w) encR encR_len encR_one' cmpR swoR totR 26 cmp_enters hc (by omega) hlt).mono ?_⟩
    rintro v J2 T2 hle2 ⟨rfl, rfl⟩
    exact ⟨rfl, rfl, _, .inr ⟨g, cap, rest, by rw [msR_len], rfl, by rw [msR_len]; exact hcap, hcm⟩, rfl⟩
end Go.Proofs.YtdajglfbbcbgpaaDoor
