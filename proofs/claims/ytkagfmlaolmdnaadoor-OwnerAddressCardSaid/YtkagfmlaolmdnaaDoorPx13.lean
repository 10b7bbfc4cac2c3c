/- What a slice that is read as data holds, with the reach of all its parts. -/
import Derived.Test.YtkagfmlaolmdnaaDoorPx9
namespace Go.Px
set_option linter.unusedVariables false
set_option linter.unusedSimpArgs false
section
variable {H : Type} {enc : TypeId × Value → H} {P : Program} {W : World} {sp : Nat → Bool} {held : Bool} {n : Nat} {t : TypeId} {c : Value} {x : DataW H × List MemPlace}
def WOk (P : Program) (t : TypeId) (d : DataW H) : Prop := ∀ w ∈ d.weights P t, w ≤ 140737488351232
theorem WOk.of {ts : List TypeId} {ds : List (DataW H)} {j : Nat} {T : TypeId} {d : DataW H} (hsz : (DataW.weightsEach P ts ds).all (· ≤ reachBytes) = true) (ht : ts[j]? = some T) (hd : ds[j]? = some d) : WOk P T d := fun w hw => by
  have := List.all_eq_true.1 hsz _ (DataW.weights_mem_each ht hd w hw)
  exact of_decide_eq_true this
theorem trod_strW (hu : P.underlying t = some .string) (h : DataW.trod enc P W 0 sp held n t [c] = some x) (hw : WOk P t x.1) : ∃ m, c = .string m ∧ m.size ≤ 140737488351232 := by
  obtain ⟨s, hc, rfl, _⟩ := DataW.trod_string hu h
  injection hc with hc
  exact ⟨s, hc, hw s.data.toList.length (by rw [DataW.weights]; exact List.mem_singleton.2 rfl)⟩
theorem trod_fieldW {cs : List Value} {fs : Array Field} (hE : P.underlying t = some (.struct fs)) (h : DataW.trod enc P W 0 sp held n t cs = some x) (hw : WOk P t x.1) (i : Nat) (f : Field) (hf : fs[i]? = some f) :
    ∃ n' y, DataW.trod enc P W 0 sp held n' f.type ((cs.drop f.offset).take (P.cellsOf f.type)) = some y ∧ WOk P f.type y.1 := by
  obtain ⟨xs, n', _, hx1, _, hl, hx⟩ := DataW.trod_struct hE h
  have hi : i < xs.length := by
    rcases Nat.lt_or_ge i fs.size with g | g
    · omega
    · rw [Array.getElem?_eq_none g] at hf; cases hf
  refine ⟨n', xs[i], (hx i f hf).trans (List.getElem?_eq_getElem hi), fun w hm => hw w ?_⟩
  rw [hx1]
  simp only [DataW.weights, hE]
  exact DataW.weights_mem_each (j := i) (by rw [List.getElem?_map, Array.getElem?_toList, hf]; rfl) (by rw [List.getElem?_map, List.getElem?_eq_getElem hi]; rfl) w hm
theorem weights_all {E : TypeId} : ∀ {l : List (DataW H)} {i : Nat} {d : DataW H}, l[i]? = some d → ∀ w ∈ d.weights P E, w ∈ DataW.weightsAll P E l
  | [], _, _, h, _, _ => by simp at h
  | e :: l, 0, d, h, w, hw => by
    simp only [List.getElem?_cons_zero, Option.some.injEq] at h
    subst h
    simp only [DataW.weightsAll, List.mem_append]
    exact .inl hw
  | e :: l, i + 1, d, h, w, hw => by
    simp only [List.getElem?_cons_succ] at h
    simp only [DataW.weightsAll, List.mem_append]
    exact .inr (weights_all h w hw)
theorem rowOf_trodW {α : Type} (el : α → List Value) (ok : α → Prop) {T E : TypeId} {a : Option Addr} {len cap : Nat} {d : DataW H} {p : List MemPlace} (hT : P.underlying T = some (.slice E))
    (hel : ∀ (n : Nat) (cs : List Value) (x : DataW H × List MemPlace), DataW.trod enc P W 0 (fun _ => true) true n E cs = some x → cs.length = P.cellsOf E → WOk P E x.1 → ∃ y, cs = el y ∧ ok y)
    (h : DataW.Trod enc P W 0 (fun _ => true) true T (.slice a len cap) d p) (hw : WOk P T d) : len ≤ cap ∧ cap ≤ maxLen ∧ len * P.bytesOf E ≤ 140737488351232 ∧ ∃ xs : List α, SlIn (imW W) a len (P.cellsOf E) el xs ∧ ∀ x ∈ xs, ok x := by
  obtain ⟨m, h⟩ := h
  rcases DataW.trod_slice hT h with ⟨hc, _⟩ | ⟨a', len', cap', elems, rest, n, _, hc, hx, _, hlc, hcm, hel', hget, _, _⟩
  · have hc' : a = none ∧ len = 0 ∧ cap = 0 := by simpa [Value.cells] using hc
    obtain ⟨rfl, rfl, rfl⟩ := hc'
    exact ⟨Nat.le_refl _, Nat.zero_le _, by omega, [], ⟨rfl, fun i x hi => by simp at hi⟩, fun x hx => by simp at hx⟩
  · have hc' : a = some a' ∧ len = len' ∧ cap = cap' := by simpa [Value.cells] using hc
    obtain ⟨rfl, rfl, rfl⟩ := hc'
    injection hx with hx _
    subst hx
    have hw1 : len * P.bytesOf E ≤ 140737488351232 := by
      have := hw ((elems.length + rest.length) * P.bytesOf E) (by simp [DataW.weights, hT])
      rw [hel', Nat.add_mul] at this
      omega
    have key : ∀ i, i < len → ∃ y : α, ok y ∧ ∀ j v, (el y)[j]? = some v → Cell (imW W) [] ((a'.add (i * P.cellsOf E)).add j) v := fun i hi => by
      have hg := hget i hi
      rw [List.getElem?_eq_getElem (by omega)] at hg
      obtain ⟨cs, h1, h2⟩ := Option.bind_eq_some_iff.1 hg
      unfold World.cells? at h1
      rw [if_pos (Nat.zero_le _)] at h1
      have hl := mapM_some_length h1
      rw [List.length_range] at hl
      obtain ⟨y, rfl, hy⟩ := hel n cs _ h2 hl (fun w hm => hw w (by
        simp only [DataW.weights, hT, List.mem_cons, List.mem_append]
        exact .inr (.inl (weights_all (i := i) (by rw [List.getElem?_map, List.getElem?_eq_getElem (by omega)]; rfl) w hm))))
      refine ⟨y, hy, fun j v hj => cell_im ?_⟩
      have hjl : j < P.cellsOf E := by
        rcases Nat.lt_or_ge j (el y).length with g | g
        · omega
        · rw [List.getElem?_eq_none g] at hj; cases hj
      have := mapM_some_get h1 j j (by simp [hjl])
      rw [this, hj]
    obtain ⟨xs, hxl, hxs⟩ := exists_list key
    refine ⟨hlc, hcm, hw1, xs, ⟨hxl, fun i x hi => ⟨a', rfl, (hxs i x hi).2⟩⟩, fun x hx => ?_⟩
    obtain ⟨i, hi⟩ := List.getElem?_of_mem hx
    exact (hxs i x hi).1
end
end Go.Px
