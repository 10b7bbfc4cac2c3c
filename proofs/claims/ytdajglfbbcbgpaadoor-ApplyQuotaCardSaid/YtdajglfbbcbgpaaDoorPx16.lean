/- A row that was sorted, in the heap. -/
import Derived.Test.YtdajglfbbcbgpaaDoorPx15
import Derived.Shelf.GgSortFunc.InsertionK
namespace Go.Px
open Go.RowKit Go.Sort Go.Shelf Go.Proofs
set_option linter.unusedVariables false
set_option linter.unusedSimpArgs false
section
variable {α : Type} [Inhabited α] {enc : α → List Value} {k : Nat}
theorem flat_eq (he : ∀ x, (enc x).length = k) (ys : List α) : flatK enc k ys.toArray = (ys.flatMap enc).toArray := by
  refine ext_get! (by simp [flatMap_len he]) fun t ht => ?_
  have ht' : t < ys.length * k := by simpa using ht
  have k0 : 0 < k := by
    rcases Nat.eq_zero_or_pos k with h | h
    · subst h; simp at ht'
    · exact h
  have hi : t / k < ys.length := (Nat.div_lt_iff_lt_mul k0).2 ht'
  have hj : t % k < k := Nat.mod_lt _ k0
  rw [get_flatK _ _ _ t (by simpa using ht')]
  have hx : ys[t / k]? = some ys[t / k] := List.getElem?_eq_getElem hi
  have h1 := flatMap_get he ys (t / k) (t % k) _ hx hj
  rw [Nat.div_add_mod'] at h1
  have h2 : ys.toArray[t / k]! = ys[t / k] := by
    rw [getElem!_pos _ _ (by simpa using hi)]; simp
  rw [h2]
  have hl : t < (ys.flatMap enc).length := by rw [flatMap_len he]; exact ht'
  rw [getElem!_pos (ys.flatMap enc).toArray t (by simpa using hl), getElem!_pos (enc ys[t / k]) (t % k) (by rw [he]; exact hj)]
  rw [List.getElem?_eq_getElem hl, List.getElem?_eq_getElem (by rw [he]; exact hj)] at h1
  injection h1 with h1
  simpa using h1.symm
theorem put_eq (he : ∀ x, (enc x).length = k) {xs ys : List α} {rest : List Value} (hl : ys.length = xs.length) : putCells id 0 (flatK enc k ys.toArray) (xs.flatMap enc ++ rest).toArray = (ys.flatMap enc ++ rest).toArray := by
  rw [flat_eq he]
  refine Array.ext_getElem? fun i => ?_
  simp only [putCells, Array.getElem?_mapIdx, List.getElem?_toArray, Nat.zero_le, true_and, Nat.zero_add, Nat.sub_zero, List.size_toArray, id_eq]
  have e1 : (ys.flatMap enc).length = (xs.flatMap enc).length := by rw [flatMap_len he, flatMap_len he, hl]
  by_cases hi : i < (ys.flatMap enc).length
  · rw [List.getElem?_append_left (by omega), List.getElem?_append_left hi, List.getElem?_eq_getElem (by omega), List.getElem?_eq_getElem hi]
    simp only [Option.map_some, if_pos hi]
    rw [getElem!_pos (ys.flatMap enc).toArray i (by simpa using hi)]
    simp
  · rw [List.getElem?_append_right (by omega), List.getElem?_append_right (by omega), e1]
    cases rest[i - (xs.flatMap enc).length]? with
    | none => rfl
    | some v => simp only [Option.map_some]; rw [if_neg (by omega)]
theorem holds_row (he : ∀ x, (enc x).length = k) {I : IMem} {F : SH} {w : World} {blk : Nat} {e : TypeId} {xs : List α} {rest : List Value} (hw : Sat I ((blk, .cells (xs.flatMap enc ++ rest).toArray e (0, 0)) :: F) w) : HoldsK enc k w blk 0 xs.toArray := by
  have hb := hw.own _ (List.mem_cons_self ..)
  dsimp only at hb
  intro j hj
  rw [flat_eq he] at hj ⊢
  have hj' : j < (xs.flatMap enc).length := by simpa using hj
  rw [Nat.zero_add]
  constructor
  · simp only [World.cell?, hb, Option.isSome_none, Bool.false_eq_true, if_false, List.getElem?_toArray]
    rw [List.getElem?_append_left hj', List.getElem?_eq_getElem hj', getElem!_pos (xs.flatMap enc).toArray j (by simpa using hj')]
    simp
  · simp only [World.frozen?, hb]
    simp
theorem Sat.sorted (he : ∀ x, (enc x).length = k) {I : IMem} {F : SH} {w : World} {blk : Nat} {e : TypeId} {xs ys : List α} {rest : List Value} (hw : Sat I ((blk, .cells (xs.flatMap enc ++ rest).toArray e (0, 0)) :: F) w) (hl : ys.length = xs.length) (n : Nat) (os : Array Obj) :
    Sat I ((blk, .cells (ys.flatMap enc ++ rest).toArray e (0, 0)) :: F) (sortWorldK enc k w blk 0 n ys.toArray os) := by
  have hb := hw.own _ (List.mem_cons_self ..)
  dsimp only at hb
  have hlt : ∀ b o, w.heap[b]? = some o → b < w.heap.size := fun b o h => by
    rcases Nat.lt_or_ge b w.heap.size with g | g
    · exact g
    · rw [Array.getElem?_eq_none g] at h; cases h
  have hheap : (sortWorldK enc k w blk 0 n ys.toArray os).heap = w.heap.modify blk (onCells (putCells id 0 (flatK enc k ys.toArray))) ++ os := rfl
  have hold : ∀ b o, b ≠ blk → w.heap[b]? = some o → (sortWorldK enc k w blk 0 n ys.toArray os).heap[b]? = some o := fun b o hne h => by
    rw [hheap, Array.getElem?_append, if_pos (by rw [Array.size_modify]; exact hlt b o h), Array.getElem?_modify, if_neg (fun e => hne e.symm)]
    exact h
  have hnd := hw.nodup
  simp only [List.map_cons, List.nodup_cons] at hnd
  refine ⟨hw.os, hw.tape, hw.out, Nat.le_trans hw.dr (Nat.le_add_right _ _), fun b o hb' => hold b o (fun e => ?_) (hw.im b o hb'), fun p hp => ?_, fun p hp => ?_, by simpa using hw.nodup⟩
  · subst e
    have := hw.apart _ (List.mem_cons_self ..)
    rw [this] at hb'; cases hb'
  · rcases List.mem_cons.1 hp with rfl | hp
    · rw [hheap, Array.getElem?_append, if_pos (by rw [Array.size_modify]; exact hlt _ _ hb), Array.getElem?_modify, if_pos rfl, hb]
      simp only [Option.map_some, onCells, put_eq he hl]
    · exact hold _ _ (fun e => hnd.1 (e ▸ List.mem_map_of_mem hp)) (hw.own p (List.mem_cons_of_mem _ hp))
  · rcases List.mem_cons.1 hp with rfl | hp
    · exact hw.apart (blk, .cells (xs.flatMap enc ++ rest).toArray e (0, 0)) (List.mem_cons_self ..)
    · exact hw.apart p (List.mem_cons_of_mem _ hp)
end
end Go.Px
