/- ApplyQuota: a zone that would be beyond the quota is not made. -/
import Derived.Test.YtdajglfbbcbgpaaDoorYr2
import Derived.Test.YtdajglfbbcbgpaaDoorYa6
import Derived.Test.YtdajglfbbcbgpaaDoorYa7
namespace Go.Proofs.YtdajglfbbcbgpaaDoor
open Go.Px
set_option linter.unusedVariables false
set_option linter.unusedSimpArgs false

theorem u16_of {x : Int} (h : (Lit.int .u16 x).wf = true) : 0 ≤ x ∧ x ≤ 65535 := by
  simp only [Lit.wf, IntKind.min, IntKind.max, IntKind.bits, IntKind.signed] at h
  simp at h; omega
def qz (d : Nat) : ByteArray := ⟨(List.replicate d (0 : UInt8)).toArray⟩
theorem qz_size (d : Nat) : (qz d).size = d := by simp [qz, ByteArray.size]
def qR (d i : Nat) : Rc := (⟨#[]⟩, 99, (i : Int), qz d)
def qs (d k : Nat) : List Rc := soaR ⟨#[]⟩ 1 :: (List.range k).map (qR d)
theorem qs_succ (d k : Nat) : qs d (k + 1) = qs d k ++ [qR d k] := by
  unfold qs
  rw [List.range_succ, List.map_append]; rfl
theorem qs_len (d k : Nat) : (qs d k).length = k + 1 := by simp [qs]
theorem qs_nodup (d k : Nat) : (qs d k).Nodup := by
  unfold qs
  refine List.nodup_cons.2 ⟨fun h => ?_, ?_⟩
  · obtain ⟨i, _, he⟩ := List.mem_map.1 h
    have h2 : (99 : Int) = 6 := congrArg (fun r : Rc => r.2.1) he
    omega
  · refine List.pairwise_map.2 (List.nodup_range.imp fun {a b} h he => h ?_)
    have h2 : (a : Int) = (b : Int) := congrArg (fun r : Rc => r.2.2.1) he
    omega
theorem ZOK.q {d : Nat} (hd : d ≤ 256) (i : Nat) : ZOK ⟨#[]⟩ (qR d i) where
  may := mayR_of isName_nil (by show (99 : Int) ≠ 41; decide) (mayD_99 (by show (qz d).size ≤ 512; rw [qz_size]; omega))
  below := below_self isName_nil
  small := ⟨by show (0 : Nat) ≤ 254; decide, by show (qz d).size ≤ 600; rw [qz_size]; omega, by show (0 : Int) ≤ 99 ∧ (99 : Int) ≤ 99; decide⟩
  own := fun h => by
    have h2 : (99 : Int) = 6 := h
    omega
  name := isName_nil
theorem ZOK.qs {d k : Nat} (hd : d ≤ 256) : ∀ r ∈ qs d k, ZOK ⟨#[]⟩ r := fun r hr => by
  rcases List.mem_cons.1 hr with rfl | hr
  · exact ZOK.soa 1 isName_nil
  · obtain ⟨i, _, rfl⟩ := List.mem_map.1 hr
    exact ZOK.q hd i
theorem right_big {zs : List Rc} {s : Rc} {o : ByteArray} (h : ZoneOf zs s) (hz : ∀ r ∈ zs, ZOK o r) (hl : zs.length ≤ 256) (hs : sizeR zs ≤ 16384) : RightP zs o where
  each := fun k r hr => by
    have hm := List.mem_of_getElem? hr
    exact ⟨(hz r hm).may, (hz r hm).below, fun hk x hx => h.ss.get (by omega) hx hr, (hz r hm).own⟩
  one := cntS_one h
  many := hl
  size := hs
theorem qs_zone {d k : Nat} (h : (msR (qs d k)).Nodup) : ZoneOf (msR (qs d k)) (soaR ⟨#[]⟩ 1) where
  ss := msR_SS h
  soa := rfl
  mem := (msR_perm _).mem_iff.2 (List.mem_cons_self ..)
  one := fun x hx hs => by
    rcases List.mem_cons.1 ((msR_perm _).mem_iff.1 hx) with rfl | hx
    · rfl
    · obtain ⟨i, _, rfl⟩ := List.mem_map.1 hx
      cases hs
theorem bytes_zero {I : IMem} {S : SH} {b d : Nat} {e : TypeId} : BytesAt I ((b, .cells (repV d [.int .u8 0]).toArray e (0, 0)) :: S) (some ⟨b, 0, none⟩) d (qz d) := by
  have h := BytesAt.list (I := I) (S := S) (g := b) (n := d) (l := List.replicate d (0 : UInt8)) (rest := []) (e := e) (fz := (0, 0)) (by simp)
  have e1 : bytL (List.replicate d (0 : UInt8)) = repV d [.int .u8 0] := by
    unfold bytL
    rw [List.map_replicate]
    clear h
    induction d with
    | zero => rfl
    | succ d ih => rw [List.replicate_succ]; simp only [repV]; rw [ih]; rfl
  rw [List.append_nil, e1] at h
  exact h
theorem quota_tail {d k : Nat} {p : Option Addr} {c : Nat} {own : SH} {I : IMem} {S : SH} (hd : d ≤ 256) (hk : k ≤ 300) (hg : Cell I [] ⟨0, 0, none⟩ hErr) (ho : OwnZ (.slice p (qs d k).length c) (qs d k) own) (hs : Sub own S) :
    bolterlaw10_ApplyQuota_b4 (fun v _ _ => v = .bool true) p (qs d k).length c I S := by
  unfold bolterlaw10_ApplyQuota_b4
  have hz := ZOK.qs (k := k) hd
  have hnd := (msR_perm (qs d k)).nodup_iff.2 (qs_nodup d k)
  have hzone := qs_zone hnd
  have hlen := qs_len d k
  have heq := msR_eq hnd
  have hmem : ∀ r, r ∈ msR (qs d k) ↔ r ∈ qs d k := fun r => (msR_perm _).mem_iff
  generalize qs d k = xs at *
  have hsm : ∀ r ∈ xs, SmallR r := fun r hr => (hz r hr).small
  have hrow : ∀ {J : IMem} {T : SH}, Sub S T → RowIn J T p xs.length 4 encR xs := fun h => (ho.row encR_len).sub (hs.trans h)
  refine (Replace_runs (o := ⟨#[]⟩) (hrow (J := I) (Sub.refl S)) (by omega) hsm).mono ?_
  rintro v J1 T1 hle1 ⟨p1, n1, d1, own1, rfl, ho1, hs1⟩
  have hn1 := ho1.len
  subst hn1
  refine ⟨_, _, _, _, rfl, ?_⟩
  have hml := msR_len xs
  have hgJ : Cell J1 [] ⟨0, 0, none⟩ hErr := Cell.le hle1 hg
  have big : ¬ ((msR xs).length ≤ 256 ∧ sizeR (msR xs) ≤ 16384) → ∀ {J : IMem} {T : SH}, J1.le J → bolterlaw10_ApplyQuota_b6 (fun v _ _ => v = .bool true) p xs.length c p1 (repF xs ⟨#[]⟩).2.length d1 (errV (repF xs ⟨#[]⟩).1) true J T := by
    intro hb J T hle
    have hc := chk_bad (o := ⟨#[]⟩) hb
    have hne : chkF (msR xs) ⟨#[]⟩ ≠ 0 := by rw [hc]; decide
    have hrep := rep_bad hnd hne
    rw [hc] at hrep
    rw [hrep]
    unfold bolterlaw10_ApplyQuota_b6 bolterlaw10_ApplyQuota_b7
    refine bcase_t rfl (bcase_t rfl ((Number_runs (some 8) (Cell.le hle hgJ)).mono ?_))
    rintro v J4 T4 hle4 ⟨rfl, rfl⟩
    exact ⟨_, rfl, rfl⟩
  unfold bolterlaw10_ApplyQuota_b5
  refine bcase_dec (fun h => big (by omega) (IMem.le.refl _)) (fun h => ?_)
  refine (Sorted_runs (hrow (J := J1) hs1.right) (by omega)).mono ?_
  rintro v J2 T2 hle2 ⟨own2, ho2, hs2⟩
  obtain ⟨p2, d2, rfl⟩ := ho2.slice
  refine ⟨_, _, _, rfl, ?_⟩
  have hlen2 := sortR_len xs
  have hsz := sizeR_small (xs := sortR xs) fun r hr => hsm r (sortR_mem hr)
  refine (Size_runs (xs := sortR xs) (((ho2.row encR_len (I := J2)).sub hs2.left)) (by omega) (by omega)).mono ?_
  rintro v J3 T3 hle3 ⟨rfl, rfl⟩
  refine ⟨_, rfl, ?_⟩
  rw [heq]
  by_cases h2 : ((sizeR (msR xs) : Nat) : Int) > 16384
  · rw [decide_eq_true h2]
    exact big (by omega) (hle2.trans hle3)
  · rw [decide_eq_false h2]
    have hright : RightP (msR xs) ⟨#[]⟩ := right_big hzone (fun r hr => hz r ((hmem r).1 hr)) (by omega) (by omega)
    have hrep := rep_ok hnd (chk_ok hright)
    rw [hrep]
    unfold bolterlaw10_ApplyQuota_b6 bolterlaw10_ApplyQuota_b8 bolterlaw10_ApplyQuota_b9
    refine bcase_f rfl ⟨true, rfl, bcase_t rfl ?_⟩
    rw [show ((msR xs).length : Int) = (xs.length : Int) by rw [hml]]
    simp
theorem ApplyQuota_row (W : World) (hg : W.cell? ⟨0, 0, none⟩ = some hErr) (n size : Int) (w0 : (Lit.int .u16 n).wf = true) (w1 : (Lit.int .u8 size).wf = true) :
    Runs Tryd.prog 8 #[.int .u16 n, .int .u8 size] (imW W) [] fun v _ _ => v = .bool true := by
  have hn := u16_of w0
  have hsz := u8_of w1
  have hg0 : Cell (imW W) [] ⟨0, 0, none⟩ hErr := cell_im hg
  refine bolterlaw10_ApplyQuota_fn _ _ _ _ _ ?_
  unfold bolterlaw10_ApplyQuota
  refine (awake10_runs hg0).mono ?_
  rintro v J1 T1 hle1 ⟨rfl, rfl⟩
  refine ⟨_, rfl, bcase_f rfl ?_⟩
  refine (SoaAt_runs _ _ _ _).mono ?_
  rintro v J2 T2 hle2 ⟨rfl, rfl⟩
  refine ⟨_, _, _, _, rfl, fun b20 => ?_⟩
  obtain ⟨D, hD⟩ : ∃ D : Nat, size + 1 = (D : Int) := ⟨(size + 1).toNat, by omega⟩
  have hD2 : D ≤ 256 ∧ 1 ≤ D := by omega
  have htm : n.tmod 300 = n % 300 := Int.tmod_eq_emod_of_nonneg hn.1
  obtain ⟨K, hK⟩ : ∃ K : Nat, n % 300 = (K : Int) := ⟨(n % 300).toNat, by omega⟩
  have hK2 : K < 300 := by omega
  rw [htm, hK, wrap_i64 (x := size) (by omega) (by omega), show (1 : Int) + size = (D : Int) by omega, wrap_i64 (x := (K : Int)) (by omega) (by omega), wrap_i64 (x := (D : Int)) (by omega) (by omega)]
  unfold bolterlaw10_ApplyQuota_b1 bolterlaw10_ApplyQuota_b2
  have hle02 := hle1.trans hle2
  refine ⟨fun m k d rs rsn rsc i J T => k = (K : Int) ∧ d = (D : Int) ∧ (imW W).le J ∧ ∃ (j : Nat) (own : SH), i = (j : Int) ∧ j ≤ K ∧ m = K - j ∧ rsn = (qs D j).length ∧ OwnZ (.slice rs rsn rsc) (qs D j) own ∧ Sub own T,
    K, ⟨rfl, rfl, hle02, 0, _, rfl, Nat.zero_le _, rfl, rfl, .inr ⟨b20, 1, [], rfl, rfl, rfl, by decide⟩, Sub.refl _⟩, ?_⟩
  rintro m k d rs rsn rsc i J T - ⟨rfl, rfl, hleJ, j, own, rfl, hj, rfl, rfl, ho, hsub⟩
  unfold bolterlaw10_ApplyQuota_l3
  have hlen := qs_len D j
  refine bcase_dec (fun h => ?_) (fun h => ?_)
  · refine ⟨by omega, Int.le_refl _, by omega, by omega, fun b30 => ⟨qz D, bytes_zero, fun b33 => ?_⟩⟩
    rw [wrap_u32 (x := (j : Int)) (by omega) (by omega), wrap_i64 (x := (j : Int) + 1) (by omega) (by omega)]
    refine AppZ (r := qR D j) (F := []) (own := own) (by simpa using hsub.skip _) ho (by omega) ?_
    intro p' n' d' own' T5 ho5 hs5
    rw [← qs_succ] at ho5
    have hn5 := ho5.len
    subst hn5
    exact ⟨K - (j + 1), by omega, rfl, rfl, hleJ, j + 1, own', rfl, by omega, rfl, rfl, ho5, by simpa using hs5⟩
  · have hjk : j = K := by omega
    subst hjk
    exact quota_tail hD2.1 (by omega) (Cell.le hleJ hg0) ho hsub
end Go.Proofs.YtdajglfbbcbgpaaDoor
