/- The law's arguments: acts as they come; the zone's SOA. -/
import Derived.Test.YtdajglfbbcbgpaaDoorZn3
namespace Go.Proofs.YtdajglfbbcbgpaaDoor
open Go.Px
set_option linter.unusedVariables false

abbrev SlW (W : World) (x : Sl) : Prop := x.2.1 ≤ x.2.2 ∧ x.2.2 ≤ maxLen ∧ ∃ ys : List Int, SlIn (imW W) x.1 x.2.1 1 (fun x => [.int .u8 x]) ys ∧ ∀ y ∈ ys, (fun x => (Lit.int .u8 x).wf = true) y
abbrev AcW (W : World) (x : Ac) : Prop := SlW W x.1 ∧ (Lit.int .u8 x.2.1).wf = true ∧ (Lit.int .u32 x.2.2.1).wf = true ∧ SlW W x.2.2.2.1 ∧ x.2.2.2.2.size ≤ maxLen
abbrev ActsW (W : World) (a : Option Addr) (len cap : Nat) : Prop := len ≤ cap ∧ cap ≤ maxLen ∧ ∃ xs : List Ac, SlIn (imW W) a len 5 (fun x => [.slice x.1.1 x.1.2.1 x.1.2.2, .int .u8 x.2.1, .int .u32 x.2.2.1, .slice x.2.2.2.1.1 x.2.2.2.1.2.1 x.2.2.2.1.2.2, .string x.2.2.2.2]) xs ∧ ∀ x ∈ xs, AcW W x
theorem slb_of {W : World} {x : Sl} (h : SlW W x) : ∃ xs, Slb (imW W) [] x xs := by
  obtain ⟨h1, h2, ys, h3, h4⟩ := h
  have hl := h3.1
  refine ⟨ys, RowIn.of_slin (el := elI8) (fun _ => Nat.zero_lt_one) h3, hl.symm, ?_, fun y hy => ?_⟩
  · simp only [maxLen] at h2; omega
  · have := h4 y hy
    simp only [Lit.wf, IntKind.min, IntKind.max, IntKind.bits, IntKind.signed] at this
    simp at this; omega
theorem acts_of {W : World} {a : Option Addr} {len cap : Nat} (h : ActsW W a len cap) : ∃ xs : List Ac, len = xs.length ∧ RowIn (imW W) [] a xs.length 5 encA xs ∧ xs.length ≤ 9223372036854775807 ∧ ∀ x ∈ xs, AcOK (imW W) [] x := by
  obtain ⟨h1, h2, xs, h3, h4⟩ := h
  have hl := h3.1
  refine ⟨xs, hl.symm, RowIn.of_slin (el := encA) (fun _ => by simp [encA]) h3, ?_, fun x hx => ?_⟩
  · simp only [maxLen] at h2; omega
  · obtain ⟨g1, _, _, g2, g3⟩ := h4 x hx
    exact ⟨slb_of g1, slb_of g2, g3⟩

def zR0 : Rc := (⟨#[]⟩, 0, 0, ⟨#[]⟩)
def isSoa (r : Rc) : Bool := r.2.1 == 6
theorem find_snoc {xs : List Rc} {k : Nat} {x : Rc} (h : xs[k]? = some x) : (xs.take (k + 1)).find? isSoa = ((xs.take k).find? isSoa).or (if isSoa x then some x else none) := by
  rw [take_snoc h, List.find?_append]
  congr 1
  simp only [List.find?]
  cases isSoa x <;> rfl
theorem Soa_runs {xs : List Rc} {a : Option Addr} {c : Nat} {I : IMem} {S : SH} (hx : RowIn I S a xs.length 4 encR xs) (hl : xs.length ≤ 4611686018427387904) :
    Runs Tryd.prog 40 #[.slice a xs.length c] I S fun v _ T => v = .tuple #[vR ((xs.find? isSoa).getD zR0), .bool (xs.find? isSoa).isSome] ∧ T = S := by
  refine Runs.drop (zone_Soa_fn _ _ _ _ _ _ ?_)
  unfold zone_Soa zone_Soa_b1 zone_Soa_b2
  intro b2
  refine ⟨fun m o x xn xc q i J T => o = ⟨b2, 0, none⟩ ∧ x = a ∧ xn = xs.length ∧ q = (xs.length : Int) ∧ I.le J ∧ Sub ((b2, Obj.cells (encR zR0).toArray 36 (0, 0)) :: S) T ∧ ∃ k : Nat, i = (k : Int) ∧ k ≤ xs.length ∧ m = xs.length - k ∧ (xs.take k).find? isSoa = none,
    xs.length, ⟨rfl, rfl, rfl, rfl, IMem.le.refl I, Sub.refl _, 0, rfl, Nat.zero_le _, rfl, rfl⟩, ?_⟩
  rintro m o x xn xc q i J T - ⟨rfl, rfl, rfl, rfl, hle, hT, k, rfl, hk, rfl, hf⟩
  unfold zone_Soa_l3 zone_Soa_b4
  refine bcase_dec (fun h => ?_) (fun h => ?_)
  · obtain ⟨x, hxk⟩ := get_lt (xs := xs) (k := k) (by omega)
    obtain ⟨a', rfl, hc⟩ := ((hx.sub hT.drop).le hle).cell hxk
    obtain ⟨c0, c1, c2, c3⟩ := CellsR hc
    have hs := find_snoc hxk
    rw [hf, Option.none_or] at hs
    refine ⟨by omega, by omega, _, c0, _, c1, _, c2, _, c3, fun b5 => StP.rec ⟨_, Cell.at0 rfl, bcase_beq (fun h6 => ?_) (fun h6 => ?_)⟩⟩
    · have hso : isSoa x = true := beq_iff_eq.2 h6
      rw [hso, if_pos rfl] at hs
      have hall : xs.find? isSoa = some x := by
        rw [← List.take_append_drop (k + 1) xs, List.find?_append, hs]; rfl
      refine ⟨_, Cell.at0 rfl, _, Cell.at0 rfl, _, Cell.at0 rfl, _, Cell.at0 rfl, StP.of_sub (hT.skip _) (StP.at0 (o := 0) (vs := encR x) (Nat.le_refl 4) rfl ?_)⟩
      intro T' hT'
      have hcell : ∀ {o : Nat} {v : Value}, (encR x)[o]? = some v → Cell J T' ⟨b2, o, none⟩ v := fun h => Sub.cell hT' (IMem.le.refl _) (Cell.at0 (by rw [show setR _ 0 (encR x) = (encR x).toArray from rfl, List.getElem?_toArray]; exact h))
      refine ⟨_, hcell rfl, _, hcell rfl, _, hcell rfl, _, hcell rfl, S, hT'.drop, by rw [hall]; rfl, rfl⟩
    · have hso : isSoa x = false := beq_eq_false_iff_ne.2 h6
      rw [hso] at hs
      refine ⟨xs.length - (k + 1), by omega, rfl, rfl, rfl, rfl, hle, hT.skip _, k + 1, ?_, by omega, rfl, hs⟩
      rw [wrap_i64 (by omega) (by omega)]; rfl
  · have : k = xs.length := by omega
    subst this
    rw [List.take_length] at hf
    refine StP.of_sub hT (StP.at0 (o := 0) (vs := encR zR0) (Nat.le_refl 4) rfl ?_)
    intro T' hT'
    have hcell : ∀ {o : Nat} {v : Value}, (encR zR0)[o]? = some v → Cell J T' ⟨b2, o, none⟩ v := fun h => Sub.cell hT' (IMem.le.refl _) (Cell.at0 (by rw [show setR _ 0 (encR zR0) = (encR zR0).toArray from rfl, List.getElem?_toArray]; exact h))
    refine ⟨_, hcell rfl, _, hcell rfl, _, hcell rfl, _, hcell rfl, S, hT'.drop, by rw [hf]; rfl, rfl⟩

end Go.Proofs.YtdajglfbbcbgpaaDoor
