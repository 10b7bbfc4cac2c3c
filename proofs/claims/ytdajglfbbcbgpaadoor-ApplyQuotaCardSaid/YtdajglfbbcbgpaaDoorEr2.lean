/- An error's number: errors.As and api.Number as contracts. -/
import Derived.Test.YtdajglfbbcbgpaaDoorEr1
import Derived.Test.YtdajglfbbcbgpaaDoorT3
import Derived.Test.YtdajglfbbcbgpaaDoorZi1
namespace Go.Proofs.YtdajglfbbcbgpaaDoor
open Go.Px
set_option linter.unusedVariables false

abbrev hErr : Value := .iface 130 (.agg #[.pointer (some ⟨1, 39, none⟩)])
abbrev errV := errN
theorem As_nil_runs (t : Value) (I : IMem) (S : SH) : Runs Tryd.prog 36 #[.nilIface, t] I S fun v _ T => v = .bool false ∧ T = S :=
  fun w hw => (as_nil t w).mono fun e w' ⟨he, hw'⟩ => ⟨_, I, S, he, IMem.le.refl I, by rw [hw']; exact hw, rfl, rfl⟩
theorem As_hit_runs {n : Int} {b : Nat} {old : Value} {I : IMem} {F : SH} (hg : Cell I [] ⟨0, 0, none⟩ hErr) :
    Runs Tryd.prog 36 #[errV (some n), .iface 78 (.pointer (some ⟨b, 0, none⟩))] I ((b, .cells #[old] 43 (0, 0)) :: F) fun v _ T => v = .bool true ∧ Sub ((b, .cells #[.int .i64 n] 43 (0, 0)) :: F) T := by
  intro w hw
  have hown := hw.own (b, .cells #[old] 43 (0, 0)) (List.mem_cons_self ..)
  dsimp only at hown
  have hc : w.cell? ⟨0, 0, none⟩ = some hErr := hg.run (Sub.sat ⟨_, List.Perm.refl _⟩ hw)
  have ht : w.cell? ⟨b, 0, none⟩ = some old := by simp [World.cell?, hown]
  have hf : w.frozen? ⟨b, 0, none⟩ = false := by simp [World.frozen?, hown]
  refine (as_hit n ⟨b, 0, none⟩ old w hc ht hf).mono fun e w' ⟨he, hw'⟩ => ?_
  have s1 := hw.new (.cells #[.pointer (some ⟨b, 0, none⟩)] 78 (0, 0))
  have s2 := s1.new (.cells #[.pointer (some ⟨1, 78, none⟩), .pointer (some ⟨w.heap.size, 0, none⟩), .int .u64 150] 101 (0, 0))
  have s3 := s2.new (.cells #[.pointer (some ⟨1, 78, none⟩), .pointer (some ⟨w.heap.size, 0, none⟩), .int .u64 150] 101 (0, 0))
  have s4 := s3.new (.cells #[.int .i64 n] 43 (0, 0))
  obtain ⟨w4, hw4, s4⟩ : ∃ w4, w4 = (((w.alloc (.cells #[.pointer (some ⟨b, 0, none⟩)] 78)).alloc (.cells #[.pointer (some ⟨1, 78, none⟩), .pointer (some ⟨w.heap.size, 0, none⟩), .int .u64 150] 101)).alloc (.cells #[.pointer (some ⟨1, 78, none⟩), .pointer (some ⟨w.heap.size, 0, none⟩), .int .u64 150] 101)).alloc (.cells #[.int .i64 n] 43) ∧ Sat I _ w4 := ⟨_, rfl, s4⟩
  have hb4 := s4.own (b, .cells #[old] 43 (0, 0)) (by simp)
  dsimp only at hb4
  have s5 := s4.set (i := 4) (b := b) (o := .cells #[old] 43 (0, 0)) (o' := .cells #[.int .i64 n] 43 (0, 0)) rfl
    (w' := w4.setCell ⟨b, 0, none⟩ (.int .i64 n)) rfl rfl rfl
    (by simp only [World.setCell]; rw [Array.getElem?_modify, if_pos rfl, hb4]; rfl)
    (fun b' hne => by simp only [World.setCell]; rw [Array.getElem?_modify, if_neg (fun e => hne e.symm)]) rfl
  refine ⟨_, I, _, he, IMem.le.refl I, by rw [hw']; subst hw4; exact s5, rfl, ?_⟩
  exact ((((Sub.refl _).skip _).skip _).skip _).skip _
theorem Number_runs (e : Option Int) {I : IMem} {S : SH} (hg : Cell I [] ⟨0, 0, none⟩ hErr) : Runs Tryd.prog 15 #[errV e] I S fun v _ T => v = .int .i64 (e.getD 0) ∧ T = S := by
  refine Runs.drop (api_Number_fn _ _ _ _ ?_)
  unfold api_Number
  intro b3
  cases e with
  | none =>
    refine (As_nil_runs _ _ _).mono ?_
    rintro v J T hle ⟨rfl, rfl⟩
    exact ⟨_, rfl, bcase_f rfl ⟨S, (Sub.refl S).skip _, rfl, rfl⟩⟩
  | some n =>
    refine (As_hit_runs hg).mono ?_
    rintro v J T hle ⟨rfl, hs⟩
    exact ⟨_, rfl, bcase_t rfl ⟨_, Sub.cell' hs (Cell.at0 rfl), S, hs.drop, rfl, rfl⟩⟩
end Go.Proofs.YtdajglfbbcbgpaaDoor
