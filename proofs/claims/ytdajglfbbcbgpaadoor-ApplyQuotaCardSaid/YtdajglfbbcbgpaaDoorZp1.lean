/- Records in order: each once, the same ones just if they are the same; what is put in, and what is taken out. -/
import Derived.Test.YtdajglfbbcbgpaaDoorZs2
namespace Go.Proofs.YtdajglfbbcbgpaaDoor
open Go.Px
set_option linter.unusedVariables false

abbrev SS (xs : List Rc) : Prop := xs.Pairwise (fun a b => cmpR a b < 0)
theorem lt_irr {a : Rc} (h : cmpR a a < 0) : False := by rw [cmR.refl] at h; omega
theorem lt_asy {a b : Rc} (h : cmpR a b < 0) (g : cmpR b a < 0) : False := lt_irr (cmR.trans _ _ _ h g)
theorem gt_of {a b : Rc} (h : ¬ cmpR a b < 0) (hne : a ≠ b) : cmpR b a < 0 := by
  have h1 := cmR.anti a b
  have h2 : cmpR a b ≠ 0 := fun e => hne (cmR.eq _ _ e)
  omega
theorem SS.ext : ∀ {xs ys : List Rc}, SS xs → SS ys → (∀ x, x ∈ xs ↔ x ∈ ys) → xs = ys
  | [], [], _, _, _ => rfl
  | [], y :: ys, _, _, h => by have := (h y).2 (List.mem_cons_self ..); cases this
  | x :: xs, [], _, _, h => by have := (h x).1 (List.mem_cons_self ..); cases this
  | x :: xs, y :: ys, hx, hy, h => by
    have hx' := List.pairwise_cons.1 hx
    have hy' := List.pairwise_cons.1 hy
    have hxy : x = y := by
      rcases List.mem_cons.1 ((h x).1 (List.mem_cons_self ..)) with e | e
      · exact e
      · rcases List.mem_cons.1 ((h y).2 (List.mem_cons_self ..)) with e' | e'
        · exact e'.symm
        · exact (lt_asy (hx'.1 y e') (hy'.1 x e)).elim
    subst hxy
    congr 1
    refine SS.ext hx'.2 hy'.2 fun z => ⟨fun hz => ?_, fun hz => ?_⟩
    · rcases List.mem_cons.1 ((h z).1 (List.mem_cons_of_mem _ hz)) with e | e
      · subst e; exact (lt_irr (hx'.1 z hz)).elim
      · exact e
    · rcases List.mem_cons.1 ((h z).2 (List.mem_cons_of_mem _ hz)) with e | e
      · subst e; exact (lt_irr (hy'.1 z hz)).elim
      · exact e
/-- what is put where it belongs -/
theorem SS.ins {xs : List Rc} {r : Rc} {k : Nat} (h : SS xs) (hlo : ∀ i x, xs[i]? = some x → i < k → cmpR x r < 0) (hhi : ∀ i x, xs[i]? = some x → k ≤ i → cmpR r x < 0) : SS (xs.take k ++ r :: xs.drop k) := by
  have hlo' : ∀ x ∈ xs.take k, cmpR x r < 0 := fun x hx => by
    obtain ⟨i, hi⟩ := List.getElem?_of_mem hx
    rw [List.getElem?_take] at hi
    split at hi
    · exact hlo i x hi ‹_›
    · cases hi
  have hhi' : ∀ x ∈ xs.drop k, cmpR r x < 0 := fun x hx => by
    obtain ⟨i, hi⟩ := List.getElem?_of_mem hx
    rw [List.getElem?_drop] at hi
    exact hhi _ x hi (by omega)
  have h' := h
  rw [← List.take_append_drop k xs] at h'
  obtain ⟨h1, h2, h3⟩ := List.pairwise_append.1 h'
  refine List.pairwise_append.2 ⟨h1, List.pairwise_cons.2 ⟨hhi', h2⟩, fun a ha b hb => ?_⟩
  rcases List.mem_cons.1 hb with rfl | hb
  · exact hlo' a ha
  · exact h3 a ha b hb
theorem SS.get {xs : List Rc} (h : SS xs) {i j : Nat} {x y : Rc} (hij : i < j) (hx : xs[i]? = some x) (hy : xs[j]? = some y) : cmpR x y < 0 := by
  have hi := lt_get hx
  have hj := lt_get hy
  have := List.pairwise_iff_getElem.1 h i j hi hj hij
  rw [List.getElem?_eq_getElem hi] at hx
  rw [List.getElem?_eq_getElem hj] at hy
  injection hx with hx; injection hy with hy
  rw [hx, hy] at this; exact this
theorem SS.mono {xs : List Rc} (h : SS xs) (r : Rc) : Mono xs r := fun i j x y hij hi hj hy => by
  rcases Nat.lt_or_ge i j with g | g
  · exact cmR.trans _ _ _ (h.get g hi hj) hy
  · obtain rfl : i = j := by omega
    rw [hi] at hj; injection hj with hj; subst hj; exact hy
theorem mem_split {xs : List Rc} {k : Nat} {r x : Rc} : x ∈ xs.take k ++ r :: xs.drop k ↔ x ∈ xs ∨ x = r := by
  rw [List.mem_append, List.mem_cons]
  constructor
  · rintro (h | h | h)
    · exact .inl (List.mem_of_mem_take h)
    · exact .inr h
    · exact .inl (List.mem_of_mem_drop h)
  · rintro (h | h)
    · rw [← List.take_append_drop k xs] at h
      rcases List.mem_append.1 h with h | h
      · exact .inl h
      · exact .inr (.inr h)
    · exact .inr (.inl h)
theorem insR_mem' {out : List Rc} {r x : Rc} : x ∈ insR out r ↔ x ∈ out ∨ x = r := by
  constructor
  · exact insR_mem
  · intro h
    unfold insR
    split
    · rename_i hh
      rcases h with h | h
      · exact h
      · rw [h]; exact List.mem_of_getElem? (hasR_iff.1 hh)
    · exact mem_split.2 h
theorem insR_SS {out : List Rc} {r : Rc} (h : SS out) : SS (insR out r) := by
  unfold insR
  split
  · exact h
  · rename_i hh
    refine h.ins (fun i x hi hlt => ?_) (fun i x hi hle => ?_)
    · have := tw_lt (r := r) (out := out) hlt hi
      rwa [ltR, decide_eq_true_eq] at this
    · have hat : ∀ y, out[atR out r]? = some y → cmpR r y < 0 := fun y hy => by
        have h1 := tw_at (p := ltR r) hy
        rw [ltR, decide_eq_false_iff_not] at h1
        refine gt_of h1 fun e => hh (hasR_iff.2 (by rw [hy, e]))
      rcases Nat.lt_or_ge (atR out r) i with g | g
      · obtain ⟨y, hy⟩ := get_lt (xs := out) (k := atR out r) (by have := lt_get hi; omega)
        exact cmR.trans _ _ _ (hat y hy) (h.get g hy hi)
      · obtain rfl : i = atR out r := by omega
        exact hat x hi
theorem foldl_SS : ∀ (rs out : List Rc), SS out → SS (rs.foldl insR out)
  | [], out, h => h
  | r :: rs, out, h => foldl_SS rs _ (insR_SS h)
theorem foldl_mem' : ∀ (rs out : List Rc) (x : Rc), x ∈ rs.foldl insR out ↔ x ∈ out ∨ x ∈ rs
  | [], out, x => by simp
  | r :: rs, out, x => by
    rw [List.foldl_cons, foldl_mem' rs, insR_mem', List.mem_cons]
    constructor
    · rintro ((h | h) | h)
      · exact .inl h
      · exact .inr (.inl h)
      · exact .inr (.inr h)
    · rintro (h | h | h)
      · exact .inl (.inl h)
      · exact .inl (.inr h)
      · exact .inr h
theorem sortR_SS (rs : List Rc) : SS (sortR rs) := foldl_SS rs [] List.Pairwise.nil
theorem mem_sortR {rs : List Rc} {x : Rc} : x ∈ sortR rs ↔ x ∈ rs := by
  rw [sortR, foldl_mem']; simp
/-- two sorted lists of the same records -/
theorem sortR_eq {rs zs : List Rc} (h : SS zs) (hm : ∀ x, x ∈ zs ↔ x ∈ rs) : sortR rs = zs := SS.ext (sortR_SS rs) h fun x => by rw [mem_sortR, hm]
theorem sortR_self {zs : List Rc} (h : SS zs) : sortR zs = zs := sortR_eq h fun _ => Iff.rfl
/-- what an insertion makes -/
theorem ins_SS {zs : List Rc} {r : Rc} {k : Nat} (h : SS zs) (hb : Below zs r k) (hn : zs[k]? ≠ some r) : SS (zs.take k ++ r :: zs.drop k) := by
  refine h.ins (fun i x hi hlt => (hb.2 i x hi).1 hlt) (fun i x hi hle => ?_)
  have h1 : ¬ cmpR x r < 0 := fun e => by have := (hb.2 i x hi).2 e; omega
  refine gt_of h1 fun e => ?_
  subst e
  rcases Nat.lt_or_ge k i with g | g
  · obtain ⟨y, hy⟩ := get_lt (xs := zs) (k := k) (by have := lt_get hi; omega)
    have h2 := h.get g hy hi
    have := (hb.2 k y hy).2 h2; omega
  · obtain rfl : i = k := by omega
    exact hn hi
theorem mem_at {zs : List Rc} {r : Rc} {k : Nat} (h : SS zs) (hb : Below zs r k) : r ∈ zs ↔ zs[k]? = some r := by
  constructor
  · intro hm
    obtain ⟨i, hi⟩ := List.getElem?_of_mem hm
    have h1 : ¬ i < k := fun e => lt_irr ((hb.2 i r hi).1 e)
    rcases Nat.lt_or_ge k i with g | g
    · obtain ⟨y, hy⟩ := get_lt (xs := zs) (k := k) (by have := lt_get hi; omega)
      have := (hb.2 k y hy).2 (h.get g hy hi); omega
    · obtain rfl : i = k := by omega
      exact hi
  · exact fun e => List.mem_of_getElem? e
/-- what a deletion makes -/
def recB (x r : Rc) : Bool := ((x.1 : ByteArray) == (r.1 : ByteArray)) && (((x.2.1 : Int) == (r.2.1 : Int)) && (((x.2.2.1 : Int) == (r.2.2.1 : Int)) && (((x.2.2.2 : ByteArray) == (r.2.2.2 : ByteArray)) && true)))
theorem recB_iff {a b : Rc} : recB a b = true ↔ a = b := recEq
theorem recB_false {a b : Rc} : recB a b = false ↔ a ≠ b := by rw [← Bool.not_eq_true, recB_iff]
def without (xs : List Rc) (r : Rc) : List Rc := xs.filter fun x => !recB x r
theorem mem_without {xs : List Rc} {r x : Rc} : x ∈ without xs r ↔ x ∈ xs ∧ x ≠ r := by
  unfold without
  rw [List.mem_filter, Bool.not_eq_true', recB_false]
theorem SS.without {xs : List Rc} (h : SS xs) (r : Rc) : SS (without xs r) := h.sublist List.filter_sublist
theorem del_eq {zs : List Rc} {r : Rc} {k : Nat} (h : SS zs) (hk : zs[k]? = some r) : zs.take k ++ zs.drop (k + 1) = without zs r := by
  have hlt := lt_get hk
  have hd : zs.drop k = r :: zs.drop (k + 1) := by
    rw [List.drop_eq_getElem_cons hlt]
    rw [List.getElem?_eq_getElem hlt] at hk
    injection hk with hk; rw [hk]
  have hz : zs = zs.take k ++ r :: zs.drop (k + 1) := by rw [← hd, List.take_append_drop]
  have h' := h
  rw [hz] at h'
  obtain ⟨h1, h2, h3⟩ := List.pairwise_append.1 h'
  have h4 := List.pairwise_cons.1 h2
  refine SS.ext (List.pairwise_append.2 ⟨h1, h4.2, fun a ha b hb => h3 a ha b (List.mem_cons_of_mem _ hb)⟩) (h.without r) fun x => ?_
  rw [mem_without, List.mem_append]
  constructor
  · rintro (hx | hx)
    · exact ⟨List.mem_of_mem_take hx, fun e => by subst e; exact lt_irr (h3 x hx x (List.mem_cons_self ..))⟩
    · exact ⟨List.mem_of_mem_drop hx, fun e => by subst e; exact lt_irr (h4.1 x hx)⟩
  · rintro ⟨hx, hne⟩
    rw [hz] at hx
    rcases List.mem_append.1 hx with hx | hx
    · exact .inl hx
    · rcases List.mem_cons.1 hx with hx | hx
      · exact absurd hx hne
      · exact .inr hx
theorem without_snoc {xs : List Rc} {k : Nat} {x r : Rc} (h : xs[k]? = some x) : without (xs.take (k + 1)) r = without (xs.take k) r ++ (if recB x r then [] else [x]) := by
  unfold without
  rw [take_snoc h, List.filter_append]
  congr 1
  cases hp : recB x r <;> simp [List.filter, hp]
end Go.Proofs.YtdajglfbbcbgpaaDoor
