/- A delta on a zone: what the law makes of it. -/
import Derived.Test.YtdajglfbbcbgpaaDoorYa3
namespace Go.Proofs.YtdajglfbbcbgpaaDoor
open Go.Px
set_option linter.unusedVariables false

abbrev SRes (S : SH) (v : Value) (T : SH) (res : Option Int × List Rc) : Prop := ∃ p n d own, v = .tuple #[.slice p n d, .int .i64 (res.1.getD 0)] ∧ OwnZ (.slice p n d) res.2 own ∧ Sub (own ++ S) T
theorem without_same {ys : List Rc} {r : Rc} (h : (without ys r).length = ys.length) : has ys r = false := by
  rw [has_false]
  intro hm
  have := List.length_filter_eq_length_iff.1 h r hm
  rw [Bool.not_eq_true', recB_false] at this
  exact this rfl
theorem without_none {ys : List Rc} {r : Rc} (h : has ys r = false) : without ys r = ys := by
  refine List.filter_eq_self.2 fun x hx => ?_
  rw [Bool.not_eq_true', recB_false]
  intro e; subst e; exact has_false.1 h hx
theorem without_less {ys : List Rc} {r : Rc} (h : (without ys r).length ≠ ys.length) : has ys r = true := by
  cases hh : has ys r with
  | true => rfl
  | false => rw [without_none hh] at h; exact absurd rfl h
theorem sorted_ins {ys : List Rc} {r : Rc} (h : SS ys) : sortR (ys ++ [r]) = insR ys r := sortR_eq (insR_SS h) fun x => by rw [insR_mem', List.mem_append, List.mem_singleton]
end Go.Proofs.YtdajglfbbcbgpaaDoor
