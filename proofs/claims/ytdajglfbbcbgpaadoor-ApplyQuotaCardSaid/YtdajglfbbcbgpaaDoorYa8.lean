/- ApplyBetween. -/
import Derived.Test.YtdajglfbbcbgpaaDoorYa7
namespace Go.Proofs.YtdajglfbbcbgpaaDoor
open Go.Px
set_option linter.unusedVariables false

def bothF (a b : List Rc) : List Rc := a.filter fun x => has b x
theorem mem_both {a b : List Rc} {x : Rc} : x ∈ bothF a b ↔ x ∈ a ∧ x ∈ b := by
  unfold bothF
  rw [List.mem_filter, has_iff]
theorem both_snoc {xs b : List Rc} {k : Nat} {x : Rc} (h : xs[k]? = some x) : bothF (xs.take (k + 1)) b = bothF (xs.take k) b ++ (if has b x then [x] else []) := by
  unfold bothF
  rw [take_snoc h, List.filter_append]
  congr 1
  cases hp : has b x <;> simp [List.filter, hp]
theorem SS.both {a : List Rc} (h : SS a) (b : List Rc) : SS (bothF a b) := h.sublist List.filter_sublist
theorem both_comm {a b : List Rc} (ha : SS a) (hb : SS b) : bothF a b = bothF b a := SS.ext (ha.both b) (hb.both a) fun x => by rw [mem_both, mem_both]; exact And.comm
theorem both_less (b : List Rc) : ∀ a : List Rc, (bothF a b).length + (lessF a b).length = a.length
  | [] => rfl
  | x :: a => by
    have ih := both_less b a
    unfold bothF lessF at ih ⊢
    cases h : has b x <;> simp [List.filter, h] <;> omega
theorem both_len (a b : List Rc) : (bothF a b).length ≤ a.length := List.length_filter_le _ _
theorem u32_of {x : Int} (h : (Lit.int .u32 x).wf = true) : 0 ≤ x ∧ x ≤ 4294967295 := by
  simp only [Lit.wf, IntKind.min, IntKind.max, IntKind.bits, IntKind.signed] at h
  simp at h; omega
end Go.Proofs.YtdajglfbbcbgpaaDoor
