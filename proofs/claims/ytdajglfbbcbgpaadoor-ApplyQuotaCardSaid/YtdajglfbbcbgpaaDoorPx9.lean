/- What a slice that is read as data holds. -/
import Derived.Test.YtdajglfbbcbgpaaDoorPx8
import Derived.ChangeArms
import Derived.SizedLaws
namespace Go.Px
set_option linter.unusedVariables false
section
variable {H : Type} {enc : TypeId × Value → H} {P : Program} {W : World} {sp : Nat → Bool} {held : Bool} {n : Nat} {t : TypeId} {c : Value} {x : DataW H × List MemPlace}
theorem trod_int {k : IntKind} (hu : P.underlying t = some (.int k)) (h : DataW.trod enc P W 0 sp held n t [c] = some x) : ∃ m, c = .int k m ∧ (Lit.int k m).wf = true := by
  cases n with
  | zero => simp [DataW.trod] at h
  | succ n =>
    unfold DataW.trod at h
    rw [hu] at h
    split at h <;> simp_all
theorem trod_bool (hu : P.underlying t = some .bool) (h : DataW.trod enc P W 0 sp held n t [c] = some x) : ∃ m, c = .bool m := by
  cases n with
  | zero => simp [DataW.trod] at h
  | succ n =>
    unfold DataW.trod at h
    rw [hu] at h
    split at h <;> simp_all
theorem trod_str (hu : P.underlying t = some .string) (h : DataW.trod enc P W 0 sp held n t [c] = some x) : ∃ m, c = .string m ∧ m.size ≤ maxLen := by
  cases n with
  | zero => simp [DataW.trod] at h
  | succ n =>
    unfold DataW.trod at h
    rw [hu] at h
    split at h <;> simp_all
theorem trod_sl {E : TypeId} (hu : P.underlying t = some (.slice E)) (h : DataW.trod enc P W 0 sp held n t [c] = some x) : ∃ a len cap, c = .slice a len cap ∧ DataW.Trod enc P W 0 sp held t (.slice a len cap) x.1 x.2 := by
  rcases DataW.trod_slice hu h with ⟨hc, _⟩ | ⟨a', len', cap', elems, rest, n', _, hc, _⟩
  · injection hc with hc; subst hc
    exact ⟨_, _, _, rfl, n, h⟩
  · injection hc with hc; subst hc
    exact ⟨_, _, _, rfl, n, h⟩
theorem trod_len {d : TypeDesc} {cs : List Value} (hu : P.underlying t = some d) (hd : aggB d = false) (h : DataW.trod enc P W 0 sp held n t cs = some x) : ∃ c, cs = [c] := by
  cases n with
  | zero => simp [DataW.trod] at h
  | succ n =>
    unfold DataW.trod at h
    rw [hu] at h
    split at h <;> first | exact ⟨_, rfl⟩ | (simp_all [aggB]; done)
theorem trod_field {cs : List Value} {fs : Array Field} (hE : P.underlying t = some (.struct fs)) (h : DataW.trod enc P W 0 sp held n t cs = some x) (i : Nat) (f : Field) (hf : fs[i]? = some f) : ∃ n' y, DataW.trod enc P W 0 sp held n' f.type ((cs.drop f.offset).take (P.cellsOf f.type)) = some y := by
  obtain ⟨xs, n', _, _, _, hl, hx⟩ := DataW.trod_struct hE h
  have hi : i < xs.length := by
    rcases Nat.lt_or_ge i fs.size with g | g
    · omega
    · rw [Array.getElem?_eq_none g] at hf; cases hf
  exact ⟨n', xs[i], (hx i f hf).trans (List.getElem?_eq_getElem hi)⟩
theorem exists_list {α : Type} {Q : Nat → α → Prop} : ∀ {n : Nat}, (∀ i, i < n → ∃ x, Q i x) → ∃ xs : List α, xs.length = n ∧ ∀ i x, xs[i]? = some x → Q i x
  | 0, _ => ⟨[], rfl, fun i x h => by simp at h⟩
  | n + 1, h => by
    obtain ⟨xs, hl, hx⟩ := exists_list (n := n) (fun i hi => h i (by omega))
    obtain ⟨y, hy⟩ := h n (by omega)
    refine ⟨xs ++ [y], by simp [hl], fun i x hi => ?_⟩
    rcases Nat.lt_trichotomy i xs.length with g | g | g
    · rw [List.getElem?_append_left g] at hi; exact hx i x hi
    · rw [List.getElem?_append_right (by omega), g, Nat.sub_self] at hi
      simp at hi; subst hi; rw [g, hl]; exact hy
    · rw [List.getElem?_eq_none (by simp; omega)] at hi; cases hi
/-- a slice that stays as it is: its elements -/
def SlIn {α : Type} (I : IMem) (a : Option Addr) (len sz : Nat) (el : α → List Value) (xs : List α) : Prop :=
  xs.length = len ∧ ∀ i x, xs[i]? = some x → ∃ a', a = some a' ∧ ∀ j v, (el x)[j]? = some v → Cell I [] ((a'.add (i * sz)).add j) v
theorem SlIn.cell {α : Type} {I : IMem} {a : Option Addr} {len sz : Nat} {el : α → List Value} {xs : List α} (h : SlIn I a len sz el xs) {i : Nat} {x : α} (hx : xs[i]? = some x) : ∃ a', a = some a' ∧ ∀ J T, I.le J → ∀ j v, (el x)[j]? = some v → Cell J T ((a'.add (i * sz)).add j) v := by
  obtain ⟨a', ha, hc⟩ := h.2 i x hx
  exact ⟨a', ha, fun J T hle j v hj => Sub.cell ⟨T, List.Perm.refl _⟩ hle (hc j v hj)⟩
theorem cell_im {a : Addr} {v : Value} (h : W.cell? a = some v) : Cell (imW W) [] a v := by
  unfold World.cell? at h
  split at h
  · rename_i cs e fz hb
    split at h
    · cases h
    · rename_i hs
      exact ⟨by cases hsp : a.spot with | none => rfl | some s => rw [hsp] at hs; exact absurd rfl hs, cs, e, fz, .inl hb, h⟩
  · cases h
theorem rowOf_trod {α : Type} (el : α → List Value) (ok : α → Prop) {T E : TypeId} {a : Option Addr} {len cap : Nat} {d : DataW H} {p : List MemPlace} (hT : P.underlying T = some (.slice E))
    (hel : ∀ (n : Nat) (cs : List Value) (x : DataW H × List MemPlace), DataW.trod enc P W 0 (fun _ => true) true n E cs = some x → cs.length = P.cellsOf E → ∃ y, cs = el y ∧ ok y)
    (h : DataW.Trod enc P W 0 (fun _ => true) true T (.slice a len cap) d p) : len ≤ cap ∧ cap ≤ maxLen ∧ ∃ xs : List α, SlIn (imW W) a len (P.cellsOf E) el xs ∧ ∀ x ∈ xs, ok x := by
  obtain ⟨m, h⟩ := h
  rcases DataW.trod_slice hT h with ⟨hc, _⟩ | ⟨a', len', cap', elems, rest, n, _, hc, _, _, hlc, hcm, hel', hget, _, _⟩
  · have hc' : a = none ∧ len = 0 ∧ cap = 0 := by simpa [Value.cells] using hc
    obtain ⟨rfl, rfl, rfl⟩ := hc'
    exact ⟨Nat.le_refl _, Nat.zero_le _, [], ⟨rfl, fun i x hi => by simp at hi⟩, fun x hx => by simp at hx⟩
  · have hc' : a = some a' ∧ len = len' ∧ cap = cap' := by simpa [Value.cells] using hc
    obtain ⟨rfl, rfl, rfl⟩ := hc'
    have key : ∀ i, i < len → ∃ y : α, ok y ∧ ∀ j v, (el y)[j]? = some v → Cell (imW W) [] ((a'.add (i * P.cellsOf E)).add j) v := fun i hi => by
      have hg := hget i hi
      rw [List.getElem?_eq_getElem (by omega)] at hg
      obtain ⟨cs, h1, h2⟩ := Option.bind_eq_some_iff.1 hg
      unfold World.cells? at h1
      rw [if_pos (Nat.zero_le _)] at h1
      have hl := mapM_some_length h1
      rw [List.length_range] at hl
      obtain ⟨y, rfl, hy⟩ := hel n cs _ h2 hl
      refine ⟨y, hy, fun j v hj => cell_im ?_⟩
      have hjl : j < P.cellsOf E := by
        rcases Nat.lt_or_ge j (el y).length with g | g
        · omega
        · rw [List.getElem?_eq_none g] at hj; cases hj
      have := mapM_some_get h1 j j (by simp [hjl])
      rw [this, hj]
    obtain ⟨xs, hxl, hxs⟩ := exists_list key
    refine ⟨hlc, hcm, xs, ⟨hxl, fun i x hi => ⟨a', rfl, (hxs i x hi).2⟩⟩, fun x hx => ?_⟩
    obtain ⟨i, hi⟩ := List.getElem?_of_mem hx
    exact (hxs i x hi).1
end
/-- how many elements a slice of data may have -/
theorem weight_of {H : Type} {P : Program} {enc : TypeId × Value → H} {W : World} {ts : List TypeId} {ds : List (DataW H)} (j : Nat) {T E : TypeId} {a : Option Addr} {len cap : Nat} {d : DataW H} {p : List MemPlace}
    (hsz : (DataW.weightsEach P ts ds).all (· ≤ reachBytes) = true) (ht : ts[j]? = some T) (hd : ds[j]? = some d) (hT : P.underlying T = some (.slice E)) (hb : 1 ≤ P.bytesOf E)
    (h : DataW.Trod enc P W 0 (fun _ => true) true T (.slice a len cap) d p) : len ≤ 140737488355328 := by
  obtain ⟨m, h⟩ := h
  rcases DataW.trod_slice hT h with ⟨hc, _⟩ | ⟨a', len', cap', elems, rest, n, _, hc, hx, _, hlc, hcm, hel', hget, _, _⟩
  · have hc' : a = none ∧ len = 0 ∧ cap = 0 := by simpa [Value.cells] using hc
    omega
  · have hc' : a = some a' ∧ len = len' ∧ cap = cap' := by simpa [Value.cells] using hc
    obtain ⟨rfl, rfl, rfl⟩ := hc'
    injection hx with hx _
    subst hx
    have := sized_slice hsz ht hd hT
    have hr := reachBytes_lt
    simp only [List.length_map] at this
    have : elems.length + rest.length ≤ (elems.length + rest.length) * P.bytesOf E := Nat.le_mul_of_pos_right _ hb
    omega
end Go.Px
