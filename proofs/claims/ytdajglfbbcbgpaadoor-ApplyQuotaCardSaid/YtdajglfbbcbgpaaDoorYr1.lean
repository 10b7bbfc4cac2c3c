/- Records sorted by the library, and sorted one by one: plain laws. -/
import Derived.Test.YtdajglfbbcbgpaaDoorZp1
import Derived.Test.YtdajglfbbcbgpaaDoorPx17
namespace Go.Proofs.YtdajglfbbcbgpaaDoor
open Go.Px Go.RowKit Go.Sort Go.Shelf Go.Lib
set_option linter.unusedVariables false
set_option linter.unusedSimpArgs false

abbrev leR (x y : Rc) : Bool := !(ltOf cmpR) y x
def msR (rs : List Rc) : List Rc := rs.mergeSort leR
theorem leR_iff {x y : Rc} : leR x y = true ↔ ¬ cmpR y x < 0 := by simp [leR, ltOf]
theorem leR_trans (a b c : Rc) (h : leR a b = true) (g : leR b c = true) : leR a c = true := by
  rw [leR_iff] at *
  intro k
  by_cases e : a = b
  · subst e; exact g k
  · have h1 := gt_of h (fun h => e h.symm)
    exact g (cmR.trans _ _ _ k h1)
theorem leR_total (a b : Rc) : (leR a b || leR b a) = true := by
  rw [Bool.or_eq_true, leR_iff (x := a), leR_iff (x := b)]
  by_cases h : cmpR b a < 0
  · exact .inr fun g => lt_asy h g
  · exact .inl h
theorem msR_perm (rs : List Rc) : (msR rs).Perm rs := List.mergeSort_perm rs leR
theorem msR_len (rs : List Rc) : (msR rs).length = rs.length := (msR_perm rs).length_eq
theorem msR_le (rs : List Rc) : (msR rs).Pairwise fun x y => leR x y = true := List.pairwise_mergeSort leR_trans leR_total rs
theorem leR_asy {x y : Rc} (h : leR x y = true) (g : leR y x = true) : x = y := by
  rw [leR_iff] at h g
  by_cases e : x = y
  · exact e
  · exact absurd (gt_of h (fun h => e h.symm)) g
theorem swoR : SWO (ltOf cmpR) where
  irrefl x := by simp [ltOf]; rw [cmR.refl]; decide
  trans x y z h1 h2 := by simp [ltOf] at *; exact cmR.trans _ _ _ h1 h2
  ntrans x y z h1 h2 := by
    have a : leR y x = true := by simp [leR, h1]
    have b : leR z y = true := by simp [leR, h2]
    have := leR_trans _ _ _ b a
    simpa [leR] using this
theorem totR (x y : Rc) (h : (ltOf cmpR) x y = false) (g : (ltOf cmpR) y x = false) : x = y := leR_asy (by simp [leR, g]) (by simp [leR, h])
/-- one comes twice: beside itself, once it is sorted -/
theorem msR_nodup {rs : List Rc} (h : ∀ k x, (msR rs)[k]? = some x → (msR rs)[k + 1]? ≠ some x) : (msR rs).Nodup := by
  have hp := msR_le rs
  refine List.pairwise_iff_getElem.2 fun i j hi hj hij e0 => ?_
  have e : (msR rs)[i]? = (msR rs)[j]? := by rw [List.getElem?_eq_getElem hi, List.getElem?_eq_getElem hj, e0]
  obtain ⟨x, hx⟩ : ∃ x, (msR rs)[i]? = some x := ⟨_, List.getElem?_eq_getElem (by omega)⟩
  obtain ⟨y, hy⟩ : ∃ y, (msR rs)[i + 1]? = some y := ⟨_, List.getElem?_eq_getElem (by omega)⟩
  rw [hx] at e
  have le : ∀ a b u v, a < b → (msR rs)[a]? = some u → (msR rs)[b]? = some v → leR u v = true := fun a b u v hab hu hv => by
    obtain ⟨ha, rfl⟩ := List.getElem?_eq_some_iff.1 hu
    obtain ⟨hb, rfl⟩ := List.getElem?_eq_some_iff.1 hv
    exact List.pairwise_iff_getElem.1 hp a b ha hb hab
  have h1 := le i (i + 1) x y (by omega) hx hy
  have h2 : leR y x = true := by
    by_cases hj1 : i + 1 = j
    · subst hj1; rw [← e] at hy; injection hy with hy; rw [hy, leR_iff]; exact fun h => lt_irr h
    · exact le (i + 1) j y x (by omega) hy e.symm
  have := leR_asy h1 h2
  rw [this] at hx
  exact h i y hx hy
theorem msR_SS {rs : List Rc} (h : (msR rs).Nodup) : SS (msR rs) := by
  refine List.Pairwise.imp₂ ?_ (msR_le rs) h
  intro a b h1 h2
  rw [leR_iff] at h1
  exact gt_of h1 fun e => h2 e.symm
theorem msR_eq {rs : List Rc} (h : (msR rs).Nodup) : sortR rs = msR rs := sortR_eq (msR_SS h) fun x => (msR_perm rs).mem_iff
theorem sortR_nodup (rs : List Rc) : (sortR rs).Nodup := (sortR_SS rs).imp fun h e => by subst e; exact lt_irr h
theorem nodup_perm {α : Type} : ∀ {l rs : List α}, l.Nodup → (∀ x ∈ l, x ∈ rs) → rs.length ≤ l.length → l.Perm rs
  | [], rs, _, _, h => by have : rs = [] := List.length_eq_zero_iff.1 (by simpa using h); rw [this]
  | x :: l, rs, hd, hs, h => by
    obtain ⟨s, t, rfl⟩ := List.append_of_mem (hs x (List.mem_cons_self ..))
    have hd' := List.pairwise_cons.1 hd
    have hl : l.Perm (s ++ t) := nodup_perm hd'.2 (fun y hy => by
      have := hs y (List.mem_cons_of_mem _ hy)
      rcases List.mem_append.1 this with g | g
      · exact List.mem_append.2 (.inl g)
      · rcases List.mem_cons.1 g with e | g
        · exact absurd e.symm (hd'.1 y hy)
        · exact List.mem_append.2 (.inr g)) (by simp only [List.length_append, List.length_cons] at h ⊢; omega)
    exact (hl.cons x).trans List.perm_middle.symm
theorem sortR_less {rs : List Rc} (h : (sortR rs).length = rs.length) : (msR rs).Nodup := by
  have h2 := nodup_perm (sortR_nodup rs) (fun x hx => mem_sortR.1 hx) (by omega)
  exact ((msR_perm rs).nodup_iff).2 (h2.nodup_iff.1 (sortR_nodup rs))
end Go.Proofs.YtdajglfbbcbgpaaDoor
