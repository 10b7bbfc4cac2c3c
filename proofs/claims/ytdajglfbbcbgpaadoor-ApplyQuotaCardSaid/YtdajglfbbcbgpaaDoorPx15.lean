/- A call that leaves all blocks as they were only draws and lays blocks. -/
import Derived.Test.YtdajglfbbcbgpaaDoorPx8
import Derived.Sort.Grow
import Derived.Deep.Draws
namespace Go.Px
open Go.RowKit Go.Sort
set_option linter.unusedVariables false
theorem Runs.grown {P : Program} {f : FuncId} {args : Array Value} {W : World} {u : Value} (h : Runs P f args (imW W) [] fun v _ _ => v = u) : Calls P f args W fun e W' => e = .returned u ∧ ∃ q os', W' = grow (W.drewN q) os' := by
  refine (h W (imW_sat W)).mono ?_
  rintro e W' ⟨v, J, T, rfl, hle, hs, rfl⟩
  have hb : ∀ i, i < W.heap.size → W'.heap[i]? = W.heap[i]? := fun i hi => by
    have h1 : (imW W).at_ i = some W.heap[i] := Array.getElem?_eq_getElem hi
    rw [hs.im i _ (hle.at_ i _ h1), Array.getElem?_eq_getElem hi]
  have hd : W.drawn ≤ W'.drawn := by have := hs.dr; rw [hle.dr] at this; exact this
  have hsz : W.heap.size ≤ W'.heap.size := by
    rcases Nat.lt_or_ge W'.heap.size W.heap.size with hlt | hge
    · have := hb W'.heap.size hlt
      rw [Array.getElem?_eq_none (Nat.le_refl _), Array.getElem?_eq_getElem hlt] at this
      cases this
    · exact hge
  have h1 : W'.os = W.os := hs.os.trans hle.os
  have h2 : W'.tape = W.tape := hs.tape.trans hle.tape
  have h3 : W'.output = W.output := hs.out.trans hle.out
  have hh : W'.heap = W.heap ++ W'.heap.extract W.heap.size W'.heap.size := by
    refine Array.ext_getElem? fun i => ?_
    rw [Array.getElem?_append]
    split
    · rename_i hi; exact hb i hi
    · rename_i hi
      rw [Array.getElem?_extract]
      split
      · congr 1; omega
      · rw [Array.getElem?_eq_none (by omega)]
  refine ⟨rfl, W'.drawn - W.drawn, W'.heap.extract W.heap.size W'.heap.size, ?_⟩
  obtain ⟨heap, tape, drawn, os, output⟩ := W'
  dsimp only at h1 h2 h3 hh hd ⊢
  subst h1; subst h2; subst h3
  unfold grow World.drewN
  dsimp only
  rw [← hh, Nat.add_sub_cancel' hd]
end Go.Px
