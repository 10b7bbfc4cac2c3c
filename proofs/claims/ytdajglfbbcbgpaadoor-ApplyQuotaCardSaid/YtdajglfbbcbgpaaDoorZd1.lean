/- A zone's size; ZoneFits. -/
import Derived.Test.YtdajglfbbcbgpaaDoorZc4
namespace Go.Proofs.YtdajglfbbcbgpaaDoor
open Go.Px
set_option linter.unusedVariables false

theorem StP.rec {S : SH} {b : Nat} {x : Rc} {K : SH → Prop} (h : K ((b, .cells (encR x).toArray 36 (0, 0)) :: S)) :
    StP ((b, .cells #[.string ⟨#[]⟩, .int .u16 0, .int .u32 0, .string ⟨#[]⟩] 36 (0, 0)) :: S) ⟨b, 0, none⟩ [.string x.1, .int .u16 x.2.1, .int .u32 x.2.2.1, .string x.2.2.2] K :=
  StP.at0 (o := 0) (vs := encR x) (Nat.le_refl 4) rfl h
theorem get_lt {α : Type} {xs : List α} {k : Nat} (h : k < xs.length) : ∃ x, xs[k]? = some x := ⟨_, List.getElem?_eq_getElem h⟩
theorem lt_get {α : Type} {xs : List α} {k : Nat} {x : α} (h : xs[k]? = some x) : k < xs.length := by
  rcases Nat.lt_or_ge k xs.length with g | g
  · exact g
  · rw [List.getElem?_eq_none g] at h; cases h
theorem take_snoc {α : Type} {xs : List α} {k : Nat} {x : α} (h : xs[k]? = some x) : xs.take (k + 1) = xs.take k ++ [x] := by
  rw [List.take_add_one, h]; rfl

def szR (r : Rc) : Nat := 10 + r.1.size + r.2.2.2.size
def sizeR (xs : List Rc) : Nat := (xs.map szR).sum
theorem sizeR_app (xs ys : List Rc) : sizeR (xs ++ ys) = sizeR xs + sizeR ys := by simp [sizeR]
theorem sizeR_take {xs : List Rc} (k : Nat) : sizeR (xs.take k) ≤ sizeR xs := by
  have : sizeR (xs.take k ++ xs.drop k) = _ := sizeR_app _ _
  rw [List.take_append_drop] at this; omega
theorem Size_runs {xs : List Rc} {a : Option Addr} {c : Nat} {I : IMem} {S : SH} (hx : RowIn I S a xs.length 4 encR xs) (hl : xs.length ≤ 4611686018427387904) (hs : sizeR xs ≤ 4611686018427387904) :
    Runs Tryd.prog 29 #[.slice a xs.length c] I S fun v _ T => v = .int .i64 (sizeR xs : Int) ∧ T = S := by
  refine Runs.drop (zone_Size_fn _ _ _ _ _ _ ?_)
  unfold zone_Size zone_Size_b1 zone_Size_b2
  refine ⟨fun m n p n' c' q i J T => p = a ∧ n' = xs.length ∧ q = (xs.length : Int) ∧ Sub S T ∧ I.le J ∧ ∃ k : Nat, i = (k : Int) ∧ k ≤ xs.length ∧ m = xs.length - k ∧ n = (sizeR (xs.take k) : Int), xs.length,
    ⟨rfl, rfl, rfl, Sub.refl S, IMem.le.refl I, 0, rfl, Nat.zero_le _, by simp, by simp [sizeR]⟩, ?_⟩
  rintro m n p n' c' q i J T - ⟨rfl, rfl, rfl, hT, hle, k, rfl, hk, rfl, rfl⟩
  unfold zone_Size_l3 zone_Size_b4
  refine bcase_dec (fun h => ?_) (fun h => ?_)
  · obtain ⟨x, hxk⟩ := get_lt (xs := xs) (k := k) (by omega)
    obtain ⟨a', rfl, hc⟩ := ((hx.sub hT).le hle).cell hxk
    obtain ⟨c0, c1, c2, c3⟩ := CellsR hc
    have e : sizeR (xs.take (k + 1)) = sizeR (xs.take k) + szR x := by rw [take_snoc hxk, sizeR_app]; simp [sizeR]
    have hb := sizeR_take (xs := xs) (k + 1)
    have hz : szR x = 10 + x.1.size + x.2.2.2.size := rfl
    refine ⟨by omega, by omega, _, c0, _, c1, _, c2, _, c3, fun b5 => StP.rec ⟨_, Cell.at0 rfl, _, Cell.at0 rfl, xs.length - (k + 1), by omega, rfl, rfl, rfl, hT.skip _, hle, k + 1, ?_, by omega, rfl, ?_⟩⟩
    · rw [wrap_i64 (by omega) (by omega)]; rfl
    · rw [wrap_i64 (x := (10 : Int) + (x.1.size : Int)) (by omega) (by omega), wrap_i64 (x := (10 : Int) + (x.1.size : Int) + (x.2.2.2.size : Int)) (by omega) (by omega), wrap_i64 (by omega) (by omega)]
      omega
  · have : k = xs.length := by omega
    subst this
    rw [List.take_length]
    exact ⟨S, hT, rfl, rfl⟩
theorem Fits_runs {xs : List Rc} {a : Option Addr} {c : Nat} {I : IMem} {S : SH} (hx : RowIn I S a xs.length 4 encR xs) (hl : xs.length ≤ 4611686018427387904) (hs : sizeR xs ≤ 4611686018427387904) :
    Runs Tryd.prog 63 #[.slice a xs.length c] I S fun v _ T => v = .bool (decide (xs.length ≤ 256 ∧ sizeR xs ≤ 16384)) ∧ T = S := by
  refine zone_Fits_fn _ _ _ _ _ _ ?_
  unfold zone_Fits zone_Fits_b1
  refine bcase_dec (fun h => ?_) (fun h => ⟨?_, rfl⟩)
  · refine (Size_runs hx hl hs).mono ?_
    rintro v J T hle ⟨rfl, rfl⟩
    refine ⟨_, rfl, ?_, rfl⟩
    congr 1
    exact decide_eq_decide.2 ⟨fun g => ⟨by omega, by omega⟩, fun g => by omega⟩
  · rw [decide_eq_false (by omega)]

def zeroB (d : Nat) : ByteArray := ⟨(List.replicate d 0).toArray⟩
theorem zeroB_size (d : Nat) : (zeroB d).size = d := by simp [zeroB, ByteArray.size]
theorem zeroB_v (d : Nat) : (repV d [.int .u8 0]).toArray = byV (zeroB d) := by
  have : ∀ d, repV d [.int .u8 0] = List.replicate d (Value.int .u8 0) := by
    intro d
    induction d with
    | zero => rfl
    | succ d ih => rw [repV, ih]; rfl
  rw [this]
  simp [byV, zeroB]
end Go.Proofs.YtdajglfbbcbgpaaDoor
