/- Whether records are a zone of a name; ZoneRight. -/
import Derived.Test.YtdajglfbbcbgpaaDoorZs2
import Derived.Test.YtdajglfbbcbgpaaDoorZs3
namespace Go.Proofs.YtdajglfbbcbgpaaDoor
open Go.Px
set_option linter.unusedVariables false

structure OkAt (xs : List Rc) (o : ByteArray) (k : Nat) (r : Rc) : Prop where
  may : mayR r = true
  below : belowB r.1 o = true
  up : 0 < k → ∀ x, xs[k - 1]? = some x → cmpR x r < 0
  own : r.2.1 = 6 → r.1 = o
def cntS (xs : List Rc) : Nat := (xs.filter isSoa).length
theorem cnt_snoc {xs : List Rc} {k : Nat} {x : Rc} (h : xs[k]? = some x) : cntS (xs.take (k + 1)) = cntS (xs.take k) + (if isSoa x then 1 else 0) := by
  unfold cntS
  rw [filter_snoc isSoa h, List.length_append]
  cases isSoa x <;> rfl
structure RightP (xs : List Rc) (o : ByteArray) : Prop where
  each : ∀ (k : Nat) (r : Rc), xs[k]? = some r → OkAt xs o k r
  one : cntS xs = 1
  many : xs.length ≤ 256
  size : sizeR xs ≤ 16384
theorem Right_runs {xs : List Rc} {a : Option Addr} {c : Nat} {o : ByteArray} {I : IMem} {S : SH} (hx : RowIn I S a xs.length 4 encR xs) (hl : xs.length ≤ 1000000) (hsm : ∀ r ∈ xs, SmallR r) :
    Runs Tryd.prog 64 #[.slice a xs.length c, .string o] I S fun v _ T => (∃ f : Bool, v = .bool f ∧ (f = true ↔ RightP xs o)) ∧ T = S := by
  refine Runs.drop (zone_Right_fn _ _ _ _ _ _ _ ?_)
  unfold zone_Right zone_Right_b1 zone_Right_b2
  have hsz := sizeR_small hsm
  refine ⟨fun m z zn zc o' so x xn xc q i J T => z = a ∧ zn = xs.length ∧ o' = o ∧ x = a ∧ xn = xs.length ∧ q = (xs.length : Int) ∧ Sub S T ∧ I.le J ∧ ∃ k : Nat, i = (k : Int) ∧ k ≤ xs.length ∧ m = xs.length - k ∧ so = (cntS (xs.take k) : Int) ∧ (∀ (j : Nat) (r : Rc), j < k → xs[j]? = some r → OkAt xs o j r),
    xs.length, ⟨rfl, rfl, rfl, rfl, rfl, rfl, Sub.refl S, IMem.le.refl I, 0, rfl, Nat.zero_le _, rfl, rfl, fun j r h => by omega⟩, ?_⟩
  rintro m z zn zc o' so x xn xc q i J T - ⟨rfl, rfl, rfl, rfl, rfl, rfl, hT, hle, k, rfl, hk, rfl, rfl, hall⟩
  have hrow := (hx.sub hT).le hle
  have bad : ∀ (L : SH) (r : Rc), Sub S L → xs[k]? = some r → ¬ OkAt xs o' k r → ∃ L', Sub L' L ∧ (∃ f : Bool, Value.bool false = .bool f ∧ (f = true ↔ RightP xs o')) ∧ L' = S := fun L r h1 h2 h3 =>
    ⟨S, h1, ⟨false, rfl, ⟨fun e => (by cases e), fun e => absurd (e.each k r h2) h3⟩⟩, rfl⟩
  unfold zone_Right_l3 zone_Right_b4 zone_Right_b5 zone_Right_b6 zone_Right_b7 zone_Right_b8 zone_Right_b9 zone_Right_b10
  refine bcase_dec (fun h => ?_) (fun h => ?_)
  · obtain ⟨r, hrk⟩ := get_lt (xs := xs) (k := k) (by omega)
    obtain ⟨a', rfl, hc⟩ := hrow.cell hrk
    obtain ⟨c0, c1, c2, c3⟩ := CellsR hc
    have hr := hsm r (List.mem_of_getElem? hrk)
    have hdt := hr.dt
    have hcs := cnt_snoc hrk
    have hcl : cntS (xs.take k) ≤ k := by
      have := List.length_filter_le isSoa (xs.take k)
      rw [List.length_take] at this
      unfold cntS; omega
    have hnext : IntKind.wrap .i64 ((k : Int) + 1) = ((k + 1 : Nat) : Int) := by rw [wrap_i64 (by omega) (by omega)]; rfl
    refine ⟨by omega, by omega, _, c0, _, c1, _, c2, _, c3, fun b7 => StP.rec ?_⟩
    have hT7 : Sub S ((b7, Obj.cells (encR r).toArray 36 (0, 0)) :: T) := hT.skip _
    have hrow7 := hrow.sub ((Sub.refl T).skip (b7, Obj.cells (encR r).toArray 36 (0, 0)))
    refine ⟨_, Cell.at0 rfl, _, Cell.at0 rfl, _, Cell.at0 rfl, _, Cell.at0 rfl, _, MayRecord_runs r (by omega) _ _, ?_⟩
    refine bcase_not (bcase_of (fun hmay => ?_) (fun hmay => bcase_t rfl (bad _ r hT7 hrk (fun e => by rw [e.may] at hmay; cases hmay))))
    refine ⟨_, Cell.at0 rfl, _, Below_runs _ _ _ _, bcase_not (bcase_of (fun hbel => ?_) (fun hbel => bcase_t rfl (bad _ r hT7 hrk (fun e => by rw [e.below] at hbel; cases hbel))))⟩
    -- what is left, once the order is known to rise
    have rest : (0 < k → ∀ x, xs[k - 1]? = some x → cmpR x r < 0) → ∃ x40, Cell J ((b7, Obj.cells (encR r).toArray 36 (0, 0)) :: T) ((⟨b7, 0, none⟩ : Addr).add 1) (.int .u16 x40) ∧ bcase (x40 == (6 : Int))
        (∃ x45, Cell J ((b7, Obj.cells (encR r).toArray 36 (0, 0)) :: T) ⟨b7, 0, none⟩ (.string x45) ∧ bcase (!(x45.toList == o'.toList))
          (∃ L, Sub L ((b7, Obj.cells (encR r).toArray 36 (0, 0)) :: T) ∧ (∃ f : Bool, Value.bool false = .bool f ∧ (f = true ↔ RightP xs o')) ∧ L = S)
          (∃ m', m' < xs.length - k ∧ (some a' = some a' ∧ xs.length = xs.length ∧ o' = o' ∧ some a' = some a' ∧ xs.length = xs.length ∧ (xs.length : Int) = (xs.length : Int) ∧ Sub S ((b7, Obj.cells (encR r).toArray 36 (0, 0)) :: T) ∧ I.le J ∧ ∃ k' : Nat, IntKind.wrap .i64 ((k : Int) + 1) = (k' : Int) ∧ k' ≤ xs.length ∧ m' = xs.length - k' ∧ IntKind.wrap .i64 ((cntS (xs.take k) : Int) + 1) = (cntS (xs.take k') : Int) ∧ (∀ (j : Nat) (r : Rc), j < k' → xs[j]? = some r → OkAt xs o' j r))))
        (∃ m', m' < xs.length - k ∧ (some a' = some a' ∧ xs.length = xs.length ∧ o' = o' ∧ some a' = some a' ∧ xs.length = xs.length ∧ (xs.length : Int) = (xs.length : Int) ∧ Sub S ((b7, Obj.cells (encR r).toArray 36 (0, 0)) :: T) ∧ I.le J ∧ ∃ k' : Nat, IntKind.wrap .i64 ((k : Int) + 1) = (k' : Int) ∧ k' ≤ xs.length ∧ m' = xs.length - k' ∧ (cntS (xs.take k) : Int) = (cntS (xs.take k') : Int) ∧ (∀ (j : Nat) (r : Rc), j < k' → xs[j]? = some r → OkAt xs o' j r))) := by
      intro hup
      have step : (r.2.1 = 6 → r.1 = o') → ∀ (j : Nat) (r : Rc), j < k + 1 → xs[j]? = some r → OkAt xs o' j r := by
        intro hown j r' hj hr'
        rcases Nat.lt_or_ge j k with g | g
        · exact hall j r' g hr'
        · have : j = k := by omega
          subst this
          rw [hrk] at hr'; injection hr' with hr'; subst hr'
          exact ⟨hmay, hbel, hup, hown⟩
      refine ⟨_, Cell.at0 rfl, bcase_beq (fun h6 => ⟨_, Cell.at0 rfl, bcase_of (fun g => bad _ r hT7 hrk (fun e => (strNe.1 g) (e.own h6))) (fun g => ?_)⟩) (fun h6 => ?_)⟩
      · have hso : isSoa r = true := beq_iff_eq.2 h6
        rw [hso] at hcs
        refine ⟨xs.length - (k + 1), by omega, rfl, rfl, rfl, rfl, rfl, rfl, hT7, hle, k + 1, hnext, by omega, rfl, ?_, step (fun _ => strNe'.1 g)⟩
        rw [hcs, wrap_i64 (by omega) (by omega)]; rfl
      · have hso : isSoa r = false := beq_eq_false_iff_ne.2 h6
        rw [hso] at hcs
        exact ⟨xs.length - (k + 1), by omega, rfl, rfl, rfl, rfl, rfl, rfl, hT7, hle, k + 1, hnext, by omega, rfl, by rw [hcs]; rfl, step (fun e => absurd e h6)⟩
    refine bcase_dec (fun hk0 => ?_) (fun hk0 => bcase_f rfl (rest (fun g => by omega)))
    obtain ⟨x, hxk⟩ := get_lt (xs := xs) (k := k - 1) (by omega)
    have hw1 : IntKind.wrap .i64 ((k : Int) - 1) = ((k - 1 : Nat) : Int) := by rw [wrap_i64 (by omega) (by omega)]; omega
    obtain ⟨a2, ha2, hc2⟩ := hrow7.cell hxk
    injection ha2 with ha2
    subst ha2
    obtain ⟨d0, d1, d2, d3⟩ := CellsR hc2
    rw [hw1]
    refine ⟨by omega, by omega, _, d0, _, d1, _, d2, _, d3, _, Cell.at0 rfl, _, Cell.at0 rfl, _, Cell.at0 rfl, _, Cell.at0 rfl, _, Compare_runs x r _ _, ?_⟩
    refine bcase_dec (fun g => bad _ r hT7 hrk (fun e => by have := e.up (by omega) x hxk; omega)) (fun g => rest (fun _ y hy => ?_))
    rw [hxk] at hy; injection hy with hy; subst hy; omega
  · have : k = xs.length := by omega
    subst this
    rw [List.take_length]
    refine bcase_beq (fun h1 => ?_) (fun h1 => ⟨S, hT, ⟨false, rfl, ⟨fun e => (by cases e), fun e => ?_⟩⟩, rfl⟩)
    · refine (Fits_runs hrow (by omega) (by omega)).mono ?_
      rintro v J' T' hle' ⟨rfl, rfl⟩
      refine ⟨_, rfl, S, hT, ⟨_, rfl, ?_⟩, rfl⟩
      rw [decide_eq_true_eq]
      exact ⟨fun e => ⟨fun j r hj => hall j r (lt_get hj) hj, by omega, e.1, e.2⟩, fun e => ⟨e.many, e.size⟩⟩
    · have := e.one; omega
end Go.Proofs.YtdajglfbbcbgpaaDoor
