/- The library's sort of structs, as a contract of ours. -/
import Derived.Test.YtdajglfbbcbgpaaDoorPx16
import Derived.Shelf.SlSortCmp.NoneTotal
namespace Go.Px
open Go.RowKit Go.Sort Go.Shelf Go.Proofs Go.Lib
set_option linter.unusedVariables false
section
variable {P : Program} {ρ : Ren} {α : Type} [Inhabited α]
theorem cmp_lays {enc : α → List Value} {k : Nat} {cf : α → α → Int} {g : Nat} (hcmp : ∀ x y (I : IMem) (S : SH), Runs P g #[.agg (enc x).toArray, .agg (enc y).toArray] I S fun v _ _ => v = .int .i64 (cf x y)) (blk off size : Nat) (w : World) : CmpLays P g #[] enc k cf blk off size w := by
  intro m os dk _ x y
  exact (hcmp x y _ []).grown
theorem pdq_runs (L : SlLaysF0.n14 P ρ) (k : Nat) (aE : ∀ w, (isAgg (ρ.t 24)).run P w = .ok true w) (zE : ∀ w, (Go.sizeOf (ρ.t 24)).run P w = .ok k w) (enc : α → List Value) (hk : ∀ x, (enc x).length = k) (h1 : ∀ x, ∀ v ∈ enc x, v.oneCell' = true) (cf : α → α → Int) (hO : SWO (ltOf cf))
    (hT : ∀ x y, (ltOf cf) x y = false → (ltOf cf) y x = false → x = y) (g : Nat) (eg : ∀ args w, (callFunc g args).run P w = .ok (.enter g args) w) (hcmp : ∀ x y (I : IMem) (S : SH), Runs P g #[.agg (enc x).toArray, .agg (enc y).toArray] I S fun v _ _ => v = .int .i64 (cf x y))
    {xs : List α} {blk cap : Nat} {e : TypeId} {rest : List Value} {I : IMem} {F : SH} {lim : Nat} (hsz : xs.length < 4611686018427387904) (hlim : lim < 4611686018427387904) :
    Runs P (ρ.f 14) #[.slice (some ⟨blk, 0, none⟩) xs.length cap, .int .i64 0, .int .i64 (xs.length : Int), .int .i64 (lim : Int), .func (.func g) #[] #[]] I ((blk, .cells (xs.flatMap enc ++ rest).toArray e (0, 0)) :: F) fun v _ T => v = .tuple #[] ∧ T = (blk, .cells ((xs.mergeSort fun x y => !(ltOf cf) y x).flatMap enc ++ rest).toArray e (0, 0)) :: F := by
  intro w hw
  have hb := hw.own _ (List.mem_cons_self ..)
  have hlt : blk < w.heap.size := by
    rcases Nat.lt_or_ge blk w.heap.size with h | h
    · exact h
    · rw [Array.getElem?_eq_none h] at hb; cases hb
  have hH := holds_row hk hw
  have hs : xs.toArray.size = xs.length := List.size_toArray
  have h := AnyQ.pdqsortCmpFunc_all L k aE zE enc cf g #[] hO blk 0 cap xs.toArray w eg (cmp_lays hcmp blk 0 _ w) ⟨hk, h1, hH, hlt⟩ (xs.toArray.size + 1) 0 xs.toArray.size lim xs.toArray w (by omega) rfl (SWK.start hH) (Nat.zero_le _) (Nat.le_refl _) (by rw [hs]; exact hsz) hlim (Or.inl rfl)
  have hp := pdq_sorts (ltOf cf) hO xs.toArray 0 xs.toArray.size lim true true (Nat.zero_le _) (Nat.le_refl _) (Or.inl rfl)
  have hu := sorted_unique_holds hO hT xs.toArray _ hp.1 hp.2
  rw [hs] at h
  refine h.mono ?_
  rintro e' w' ⟨rfl, n, os, rfl⟩
  refine ⟨_, I, _, rfl, IMem.le.refl I, ?_, rfl, rfl⟩
  rw [hs] at hu
  have hm := Sat.sorted (ys := xs.mergeSort fun x y => !(ltOf cf) y x) hk hw (List.length_mergeSort _) n os
  rw [← hu] at *
  exact hm
theorem bitlen_runs (L : SlLaysF0.n14 P ρ) {n : Nat} (hn : n < 4611686018427387904) (I : IMem) (S : SH) : Runs P (ρ.f 15) #[.int .u64 (n : Int)] I S fun v _ T => (∃ l : Nat, v = .int .i64 (l : Int) ∧ l < 4611686018427387904) ∧ T = S := by
  intro w hw
  have h := Any.bits_Len (SlLaysF0.n15.bits (P := P) (ρ := ρ) { L with }) (n : Int) w (by omega) (by omega)
  rw [Int.toNat_natCast] at h
  refine h.mono ?_
  rintro e w' ⟨rfl, rfl⟩
  exact ⟨_, I, _, rfl, IMem.le.refl I, hw, ⟨_, rfl, Nat.lt_of_le_of_lt (Lib.bitLen_le n 62 (by omega) (by omega)) (by omega)⟩, rfl⟩
end
end Go.Px
