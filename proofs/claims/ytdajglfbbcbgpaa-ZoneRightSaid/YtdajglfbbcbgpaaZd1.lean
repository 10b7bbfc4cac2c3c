/- A zone's size; ZoneFits. -/
import Derived.Test.YtdajglfbbcbgpaaZc4
namespace Go.Proofs.Ytdajglfbbcbgpaa
open Go.Px
set_option linter.unusedVariables false

theorem StP.rec {S : SH} {b : Nat} {x : Rc} {K : SH → Prop} (h : K ((b, .cells (encR x).toArray 27 (0, 0)) :: S)) :
    StP ((b, .cells #[.string ⟨#[]⟩, .int .u16 0, .int .u32 0, .string ⟨#[]⟩] 27 (0, 0)) :: S) ⟨b, 0, none⟩ [.string x.1, .int .u16 x.2.1, .int .u32 x.2.2.1, .string x.2.2.2] K :=
  StP.at0 (o := 0) (vs := encR x) (Nat.le_refl 4) rfl h
theorem get_lt {α : Type} {xs : List α} {k : Nat} (h : k < xs.length) : ∃ x, xs[k]? = some x := ⟨_, List.getElem?_eq_getElem h⟩
theorem lt_get {α : Type} {xs : List α} {k : Nat} {x : α} (h : xs[k]? = some x) : k < xs.length := by
  rcases Nat.lt_or_ge k xs.length with g | g
  · exact g
  · rw [List.getElem?_eq_none g] at h; cases h
theorem take_snoc {α : Type} {xs : List α} {k : Nat} {x : α} (h : xs[k]? = some x) : xs.take (k + 1) = xs.take k ++ [x] := by
  rw [List.take_add_one, h]; rfl

def szR (r : Rc) : Nat := 10 + r.1.size + r.2.2.2.size
def sizeR (xs : List Rc) : Nat := (xs.map szR).sum
theorem sizeR_app (xs ys : List Rc) : sizeR (xs ++ ys) = sizeR xs + sizeR ys := by simp [sizeR]
theorem sizeR_take {xs : List Rc} (k : Nat) : sizeR (xs.take k) ≤ sizeR xs := by
  have : sizeR (xs.take k ++ xs.drop k) = _ := sizeR_app _ _
  rw [List.take_append_drop] at this; omega
theorem Size_runs {xs : List Rc} {a : Option Addr} {c : Nat} {I : IMem} {S : SH} (hx : RowIn I S a xs.length 4 encR xs) (hl : xs.length ≤ 4611686018427387904) (hs : sizeR xs ≤ 4611686018427387904) :
    Runs Try.prog 11 #[.slice a xs.length c] I S fun v _ T => v = .int .i64 (sizeR xs : Int) ∧ T = S := by
  refine Runs.drop (zone_Size_fn _ _ _ _ _ _ ?_)
  unfold zone_Size zone_Size_b1 zone_Size_b2
  refine ⟨fun m n p n' c' q i J T => p = a ∧ n' = xs.length ∧ q = (xs.length : Int) ∧ Sub S T ∧ I.le J ∧ ∃ k : Nat, i = (k : Int) ∧ k ≤ xs.length ∧ m = xs.length - k ∧ n = (sizeR (xs.take k) : Int), xs.length,
    ⟨rfl, rfl, rfl, Sub.refl S, IMem.le.refl I, 0, rfl, Nat.zero_le _, by simp, by simp [sizeR]⟩, ?_⟩
  rintro m n p n' c' q i J T - ⟨rfl, rfl, rfl, hT, hle, k, rfl, hk, rfl, rfl⟩
  unfold zone_Size_l3 zone_Size_b4
  refine bcase_dec (fun h => ?_) (fun h => ?_)
  · obtain ⟨x, hxk⟩ := get_lt (xs := xs) (k := k) (by omega)
    obtain ⟨a', rfl, hc⟩ := ((hx.sub hT).le hle).cell hxk
    obtain ⟨c0, c1, c2, c3⟩ := CellsR hc
    have e : sizeR (xs.take (k + 1)) = sizeR (xs.take k) + szR x := by rw [take_snoc hxk, sizeR_app]; simp [sizeR]
    have hb := sizeR_take (xs := xs) (k + 1)
    have hz : szR x = 10 + x.1.size + x.2.2.2.size := rfl
    refine ⟨by omega, by omega, _, c0, _, c1, _, c2, _, c3, fun b5 => StP.rec ⟨_, Cell.at0 rfl, _, Cell.at0 rfl, xs.length - (k + 1), by omega, rfl, rfl, rfl, hT.skip _, hle, k + 1, ?_, by omega, rfl, ?_⟩⟩
    · rw [wrap_i64 (by omega) (by omega)]; rfl
    · rw [wrap_i64 (x := (10 : Int) + (x.1.size : Int)) (by omega) (by omega), wrap_i64 (x := (10 : Int) + (x.1.size : Int) + (x.2.2.2.size : Int)) (by omega) (by omega), wrap_i64 (by omega) (by omega)]
      omega
  · have : k = xs.length := by omega
    subst this
    rw [List.take_length]
    exact ⟨S, hT, rfl, rfl⟩
theorem Fits_runs {xs : List Rc} {a : Option Addr} {c : Nat} {I : IMem} {S : SH} (hx : RowIn I S a xs.length 4 encR xs) (hl : xs.length ≤ 4611686018427387904) (hs : sizeR xs ≤ 4611686018427387904) :
    Runs Try.prog 12 #[.slice a xs.length c] I S fun v _ T => v = .bool (decide (xs.length ≤ 256 ∧ sizeR xs ≤ 16384)) ∧ T = S := by
  refine zone_Fits_fn _ _ _ _ _ _ ?_
  unfold zone_Fits zone_Fits_b1
  refine bcase_dec (fun h => ?_) (fun h => ⟨?_, rfl⟩)
  · refine (Size_runs hx hl hs).mono ?_
    rintro v J T hle ⟨rfl, rfl⟩
    refine ⟨_, rfl, ?_, rfl⟩
    congr 1
    exact decide_eq_decide.2 ⟨fun g => ⟨by omega, by omega⟩, fun g => by omega⟩
  · rw [decide_eq_false (by omega)]

def zeroB (d : Nat) : ByteArray := ⟨(List.replicate d 0).toArray⟩
theorem zeroB_size (d : Nat) : (zeroB d).size = d := by simp [zeroB, ByteArray.size]
theorem zeroB_v (d : Nat) : (repV d [.int .u8 0]).toArray = byV (zeroB d) := by
  have : ∀ d, repV d [.int .u8 0] = List.replicate d (Value.int .u8 0) := by
    intro d
    induction d with
    | zero => rfl
    | succ d ih => rw [repV, ih]; rfl
  rw [this]
  simp [byV, zeroB]
theorem ZoneFits_row (W : World) (n size : Int) (w0 : (Lit.int .u16 n).wf = true) (w1 : (Lit.int .u16 size).wf = true) :
    Runs Try.prog 4 #[.int .u16 n, .int .u16 size] (imW W) [] fun v _ _ => v = .bool true := by
  have hn : 0 ≤ n := by simp only [Lit.wf, IntKind.min, IntKind.max, IntKind.bits, IntKind.signed] at w0; simp at w0; omega
  have hz : 0 ≤ size := by simp only [Lit.wf, IntKind.min, IntKind.max, IntKind.bits, IntKind.signed] at w1; simp at w1; omega
  refine bolterlaw08_ZoneFits_fn _ _ _ _ _ ?_
  unfold bolterlaw08_ZoneFits bolterlaw08_ZoneFits_b1 bolterlaw08_ZoneFits_b2
  refine (awake_runs _ _).mono ?_
  rintro v J T hle ⟨rfl, rfl⟩
  refine ⟨_, rfl, bcase_f rfl ?_⟩
  obtain ⟨kk, hk, hk4⟩ : ∃ kk : Nat, n.tmod 400 = (kk : Int) ∧ kk < 400 := ⟨(n.tmod 400).toNat, by rw [Int.tmod_eq_emod_of_nonneg hn]; omega, by rw [Int.tmod_eq_emod_of_nonneg hn]; omega⟩
  obtain ⟨d, hd, hd5⟩ : ∃ d : Nat, size.tmod 500 = (d : Int) ∧ d < 500 := ⟨(size.tmod 500).toNat, by rw [Int.tmod_eq_emod_of_nonneg hz]; omega, by rw [Int.tmod_eq_emod_of_nonneg hz]; omega⟩
  rw [hk, hd, wrap_i64 (by omega) (by omega), wrap_i64 (by omega) (by omega)]
  refine ⟨fun m k' d' z zn zc i J' T' => k' = (kk : Int) ∧ d' = (d : Int) ∧ ∃ (zs : List Rc) (own F : SH), i = (zs.length : Int) ∧ zs.length ≤ kk ∧ m = kk - zs.length ∧ T'.Perm (own ++ F) ∧ OwnZ (.slice z zn zc) zs own ∧ sizeR zs = zs.length * (10 + d), kk,
    ⟨rfl, rfl, [], [], [], rfl, Nat.zero_le _, by simp, List.Perm.refl _, OwnR.nil, by simp [sizeR]⟩, ?_⟩
  rintro m k' d' z zn zc i J' T' - ⟨rfl, rfl, zs, own, F, rfl, hzk, rfl, hp, ho, hsz⟩
  unfold bolterlaw08_ZoneFits_l3 bolterlaw08_ZoneFits_b4 bolterlaw08_ZoneFits_b5
  refine bcase_dec (fun h => ?_) (fun h => ?_)
  · refine ⟨by omega, by omega, by omega, by omega, fun b26 => ⟨zeroB d, BytesAt.at0 _ (by rw [zeroB_size]; omega) (by rw [Int.toNat_natCast, zeroB_v]), fun b29 => ?_⟩⟩
    generalize hr : ((⟨#[]⟩, 0, IntKind.wrap .u32 (zs.length : Int), zeroB d) : Rc) = r
    have hcl : (#[.string ⟨#[]⟩, .int .u16 0, .int .u32 (IntKind.wrap .u32 (zs.length : Int)), .string (zeroB d)] : Array Value) = (encR r).toArray := by rw [← hr]; rfl
    rw [hcl]
    refine AppG.own (xs := zs) (ys := [r]) (el := encR) (own := own) (F := (b29, .cells (encR r).toArray 27 (0, 0)) :: (b26, .cells (repV ((d : Int)).toNat [.int .u8 0]).toArray 5 (0, 0)) :: F) encR_len encR_one rfl ?_ ho ⟨?_, rfl⟩ ?_ ?_ ?_
    · exact (((hp.cons _).cons _).trans ((List.perm_middle.symm).cons _)).trans List.perm_middle.symm
    · exact Rd.list rfl (by simp [encR_len])
    · simp only [List.length_singleton, maxLen]; omega
    · simp only [List.length_singleton]; omega
    · intro p n c own' ho'
      refine ⟨kk - (zs.length + 1), by omega, rfl, rfl, zs ++ [r], own', _, ?_, by simp; omega, by simp, List.Perm.refl _, ho', ?_⟩
      · rw [wrap_i64 (by omega) (by omega)]; simp
      · rw [sizeR_app, hsz, List.length_append, Nat.add_mul]
        congr 1
        rw [← hr]
        simp [sizeR, szR, zeroB_size]
        rfl
  · have hkk : zs.length = kk := by omega
    have hrow : RowIn J' T' z zs.length 4 encR zs := by
      have := (ho.row encR_len (I := J')).sub ⟨F, hp⟩
      rwa [ho.len] at this
    have hln := ho.len
    subst hln
    have hsz' : sizeR zs ≤ 399 * 509 := by rw [hsz, hkk]; exact Nat.mul_le_mul (by omega) (by omega)
    refine (Size_runs hrow (by omega) (by omega)).mono ?_
    rintro v J'' T'' hle'' ⟨rfl, rfl⟩
    have hw : IntKind.wrap .i64 ((kk : Int) * (IntKind.wrap .i64 ((10 : Int) + (d : Int)))) = (sizeR zs : Int) := by
      rw [wrap_i64 (x := (10 : Int) + (d : Int)) (by omega) (by omega)]
      have : (kk : Int) * ((10 : Int) + (d : Int)) = (sizeR zs : Int) := by rw [hsz, hkk]; simp
      rw [this, wrap_i64 (by omega) (by omega)]
    rw [hw]
    refine ⟨_, rfl, bcase_t (by simp) ?_⟩
    refine (Fits_runs (hrow.le hle'') (by omega) (by omega)).mono ?_
    rintro v J3 T3 hle3 ⟨rfl, rfl⟩
    refine ⟨_, rfl, bcase_dec (fun g => ?_) (fun g => ?_)⟩
    · congr 1
      rw [beq_iff_eq]
      exact decide_eq_decide.2 ⟨fun g => by omega, fun g => ⟨by omega, by omega⟩⟩
    · congr 1
      rw [beq_iff_eq]
      exact decide_eq_false (by omega)
end Go.Proofs.Ytdajglfbbcbgpaa
