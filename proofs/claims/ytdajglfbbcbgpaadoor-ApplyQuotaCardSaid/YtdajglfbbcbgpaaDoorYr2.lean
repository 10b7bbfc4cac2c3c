/- A zone made out of records: apply.Replace. -/
import Derived.Test.YtdajglfbbcbgpaaDoorYs1
import Derived.Test.YtdajglfbbcbgpaaDoorEr2
namespace Go.Proofs.YtdajglfbbcbgpaaDoor
open Go.Px
set_option linter.unusedVariables false
set_option linter.unusedSimpArgs false

open Classical in
noncomputable def chkF (zs : List Rc) (o : ByteArray) : Int := if zs.length ≤ 256 ∧ sizeR zs ≤ 16384 then (if RightP zs o then 0 else 4) else 8
theorem chk_bad {zs : List Rc} {o : ByteArray} (h : ¬ (zs.length ≤ 256 ∧ sizeR zs ≤ 16384)) : chkF zs o = 8 := by unfold chkF; rw [if_neg h]
theorem chk_wrong {zs : List Rc} {o : ByteArray} (h : zs.length ≤ 256 ∧ sizeR zs ≤ 16384) (g : ¬ RightP zs o) : chkF zs o = 4 := by unfold chkF; rw [if_pos h, if_neg g]
theorem chk_ok {zs : List Rc} {o : ByteArray} (g : RightP zs o) : chkF zs o = 0 := by unfold chkF; rw [if_pos ⟨g.many, g.size⟩, if_pos g]
theorem checked_runs {zs : List Rc} {a : Option Addr} {c : Nat} {o : ByteArray} {I : IMem} {S : SH} (hx : RowIn I S a zs.length 4 encR zs) (hl : zs.length ≤ 1000000) (hsm : ∀ r ∈ zs, SmallR r) :
    Runs Tryd.prog 47 #[.string o, .slice a zs.length c] I S fun v _ T => (chkF zs o = 0 ∧ v = .tuple #[.slice a zs.length c, .nilIface] ∨ chkF zs o ≠ 0 ∧ v = .tuple #[.slice none 0 0, errV (some (chkF zs o))]) ∧ T = S := by
  have hs := sizeR_small hsm
  refine apply_checked_fn _ _ _ _ _ _ _ ?_
  unfold apply_checked
  refine (Fits_runs hx (by omega) (by omega)).mono ?_
  rintro v J T hle ⟨rfl, rfl⟩
  refine ⟨_, rfl, bcase_not (bcase_dec (fun h => ?_) (fun h => ?_))⟩
  · refine (Right_runs (o := o) (hx.le hle) (by omega) hsm).mono ?_
    rintro v J2 T2 hle2 ⟨⟨f, rfl, hf⟩, rfl⟩
    refine ⟨_, rfl, bcase_not (bcase_of (fun g => ?_) (fun g => ?_))⟩
    · exact ⟨.inl ⟨chk_ok (hf.1 g), rfl⟩, rfl⟩
    · rw [chk_wrong h fun k => by rw [hf.2 k] at g; cases g]; exact ⟨.inr ⟨by decide, rfl⟩, rfl⟩
  · rw [chk_bad h]; exact ⟨.inr ⟨by decide, rfl⟩, rfl⟩
open Classical in
noncomputable def repF (rs : List Rc) (o : ByteArray) : Option Int × List Rc :=
  if (msR rs).Nodup then (if chkF (msR rs) o = 0 then (none, msR rs) else (some (chkF (msR rs) o), [])) else (some 7, [])
theorem rep_twice {rs : List Rc} {o : ByteArray} (h : ¬ (msR rs).Nodup) : repF rs o = (some 7, []) := by unfold repF; rw [if_neg h]
theorem rep_ok {rs : List Rc} {o : ByteArray} (h : (msR rs).Nodup) (g : chkF (msR rs) o = 0) : repF rs o = (none, msR rs) := by unfold repF; rw [if_pos h, if_pos g]
theorem rep_bad {rs : List Rc} {o : ByteArray} (h : (msR rs).Nodup) (g : chkF (msR rs) o ≠ 0) : repF rs o = (some (chkF (msR rs) o), []) := by unfold repF; rw [if_pos h, if_neg g]
theorem msR_small {rs : List Rc} (h : ∀ r ∈ rs, SmallR r) : ∀ r ∈ msR rs, SmallR r := fun r hr => h r ((msR_perm rs).mem_iff.1 hr)
theorem Replace_runs {rs : List Rc} {a : Option Addr} {c : Nat} {o : ByteArray} {I : IMem} {S : SH} (hx : RowIn I S a rs.length 4 encR rs) (hl : rs.length ≤ 10000) (hsm : ∀ r ∈ rs, SmallR r) :
    Runs Tryd.prog 28 #[.string o, .slice a rs.length c] I S fun v _ T => ∃ p n d own, v = .tuple #[.slice p n d, errV (repF rs o).1] ∧ OwnZ (.slice p n d) (repF rs o).2 own ∧ Sub (own ++ S) T := by
  refine apply_Replace_fn _ _ _ _ _ _ _ ?_
  unfold apply_Replace
  refine (Clone2_runs hx (by omega)).mono ?_
  rintro v J1 T1 hle1 ⟨own1, ho1, G1, hG1⟩
  obtain ⟨p1, d1, rfl⟩ := ho1.slice
  refine ⟨_, _, _, rfl, Runs.perm (S' := own1 ++ (S ++ G1)) (by rw [← List.append_assoc]; exact hG1) ((SortF_runs ho1 (by omega) J1 (S ++ G1)).mono ?_)⟩
  rintro v J2 T2 hle2 ⟨rfl, own2, ho2, rfl⟩
  refine ⟨rfl, ?_⟩
  have hml := msR_len rs
  have hsz := msR_small hsm
  have hP := @rep_twice rs o
  have hB := @rep_bad rs o
  have hK := @rep_ok rs o
  have hnd := @msR_nodup rs
  rw [← hml] at ho2 ⊢
  generalize msR rs = zs at *
  have hs2 : Sub (own2 ++ S) (own2 ++ (S ++ G1)) := ⟨G1, by rw [List.append_assoc]⟩
  have rowz : ∀ {J : IMem} {T : SH}, Sub (own2 ++ S) T → RowIn J T p1 zs.length 4 encR zs := fun h => (ho2.row encR_len).sub h.left
  unfold apply_Replace_b1 apply_Replace_b2
  refine ⟨fun m o' z zn zc k J T => o' = o ∧ z = p1 ∧ zn = zs.length ∧ zc = d1 ∧ Sub (own2 ++ S) T ∧ ∃ j : Nat, k = ((j + 1 : Nat) : Int) ∧ j ≤ zs.length ∧ m = zs.length - j ∧ ∀ i x, i < j → zs[i]? = some x → zs[i + 1]? ≠ some x,
    zs.length, ⟨rfl, rfl, rfl, rfl, hs2, 0, rfl, Nat.zero_le _, rfl, fun i x h => by omega⟩, ?_⟩
  rintro m o' z zn zc k J T hle ⟨rfl, rfl, rfl, rfl, hT, j, rfl, hj, rfl, hall⟩
  unfold apply_Replace_l3 apply_Replace_b4
  refine bcase_dec (fun h => ?_) (fun h => ?_)
  · obtain ⟨x, hx1⟩ := get_lt (xs := zs) (k := j) (by omega)
    obtain ⟨y, hy1⟩ := get_lt (xs := zs) (k := j + 1) (by omega)
    have w1 : IntKind.wrap .i64 (((j + 1 : Nat) : Int) - 1) = (j : Int) := by rw [wrap_i64 (by omega) (by omega)]; omega
    have w2 : IntKind.wrap .i64 (((j + 1 : Nat) : Int) + 1) = ((j + 1 + 1 : Nat) : Int) := by rw [wrap_i64 (by omega) (by omega)]; rfl
    obtain ⟨ay, hae, hcy⟩ := (rowz (J := J) hT).cell hy1
    obtain ⟨ax, hae', hcx⟩ := (rowz (J := J) hT).cell hx1
    rw [hae] at hae'
    injection hae' with hae'
    subst hae'
    obtain ⟨y0, y1, y2, y3⟩ := CellsR hcy
    obtain ⟨x0, x1, x2, x3⟩ := CellsR hcx
    rw [hae, w1]
    refine ⟨by omega, by omega, _, y0, _, y1, _, y2, _, y3, by omega, by omega, _, x0, _, x1, _, x2, _, x3, ?_⟩
    unfold apply_Replace_b5 apply_Replace_b6
    rw [w2]
    refine bcase_of (fun g => ?_) (fun g => ?_)
    · have hxy : y = x := recEq.1 g
      subst hxy
      have : ¬ zs.Nodup := fun hn => by
        have := List.pairwise_iff_getElem.1 hn j (j + 1) (by omega) (by omega) (by omega)
        rw [List.getElem?_eq_getElem (by omega)] at hx1 hy1
        injection hx1 with hx1
        injection hy1 with hy1
        exact this (hx1.trans hy1.symm)
      rw [hP this]
      exact ⟨_, _, _, [], rfl, OwnR.nil, hT.right⟩
    · refine ⟨zs.length - (j + 1), by omega, rfl, hae ▸ rfl, rfl, rfl, hT, j + 1, rfl, by omega, rfl, fun i u hi hu => ?_⟩
      by_cases hij : i = j
      · subst hij
        rw [hx1] at hu
        injection hu with hu
        subst hu
        rw [hy1]
        intro e
        injection e with e
        rw [recEq.2 e] at g
        cases g
      · exact hall i u (by omega) hu
  · have hnd' : zs.Nodup := hnd fun k x hk => by
      by_cases hkj : k < j
      · exact hall k x hkj hk
      · rw [List.getElem?_eq_none (by omega)]; exact fun e => by cases e
    unfold apply_Replace_b7
    refine (checked_runs (o := o') (rowz (J := J) hT) (by omega) hsz).mono ?_
    rintro v J3 T3 hle3 ⟨hv, rfl⟩
    rcases hv with ⟨hc, rfl⟩ | ⟨hc, rfl⟩
    · rw [hK hnd' hc]
      exact ⟨_, _, _, _, rfl, _, _, _, own2, rfl, ho2, hT⟩
    · rw [hB hnd' hc]
      exact ⟨_, _, _, _, rfl, _, _, _, [], rfl, OwnR.nil, hT.right⟩
end Go.Proofs.YtdajglfbbcbgpaaDoor
