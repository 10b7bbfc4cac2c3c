/- From what a call does to what the model's rows ask. -/
import Derived.Test.YtdajglfbbcbgpaaDoorPx7
import Derived.Below
namespace Go.Px
open Go.RowKit
def imW (W : World) : IMem := ⟨fun b => W.heap[b]?, W.os, W.tape, W.output, W.drawn⟩
theorem imW_sat (W : World) : Sat (imW W) [] W := ⟨rfl, rfl, rfl, Nat.le_refl _, fun _ _ h => h, (fun _ h => by cases h), (fun _ h => by cases h), List.nodup_nil⟩
theorem Runs.below {P : Program} {f : FuncId} {args : Array Value} {W : World} {u : Value} (h : Runs P f args (imW W) [] fun v _ _ => v = u) : Calls P f args W fun e W' => e = .returned u ∧ Below W.heap.size W W' := by
  refine (h W (imW_sat W)).mono ?_
  rintro e W' ⟨v, J, T, rfl, hle, hs, rfl⟩
  have hb : ∀ i, i < W.heap.size → W'.heap[i]? = W.heap[i]? := fun i hi => by
    have h1 : (imW W).at_ i = some W.heap[i] := Array.getElem?_eq_getElem hi
    rw [hs.im i _ (hle.at_ i _ h1), Array.getElem?_eq_getElem hi]
  refine ⟨rfl, hs.os.trans hle.os, hs.tape.trans hle.tape, hs.out.trans hle.out, ?_, fun i hi => hb i hi⟩
  rcases Nat.lt_or_ge W'.heap.size W.heap.size with hlt | hge
  · have := hb W'.heap.size hlt
    rw [Array.getElem?_eq_none (Nat.le_refl _), Array.getElem?_eq_getElem hlt] at this
    cases this
  · exact hge
end Go.Px
