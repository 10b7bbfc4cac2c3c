/- A delta on a zone: what the law makes of it. -/
import Derived.Test.YtdajglfbbcbgpaaDoorYa3
namespace Go.Proofs.YtdajglfbbcbgpaaDoor
open Go.Px
set_option linter.unusedVariables false

abbrev SRes (S : SH) (v : Value) (T : SH) (res : Option Int × List Rc) : Prop := ∃ p n d own, v = .tuple #[.slice p n d, .int .i64 (res.1.getD 0)] ∧ OwnZ (.slice p n d) res.2 own ∧ Sub (own ++ S) T
theorem without_same {ys : List Rc} {r : Rc} (h : (without ys r).length = ys.length) : has ys r = false := by
  rw [has_false]
  intro hm
  have := List.length_filter_eq_length_iff.1 h r hm
  rw [Bool.not_eq_true', recB_false] at this
  exact this rfl
theorem without_none {ys : List Rc} {r : Rc} (h : has ys r = false) : without ys r = ys := by
  refine List.filter_eq_self.2 fun x hx => ?_
  rw [Bool.not_eq_true', recB_false]
  intro e; subst e; exact has_false.1 h hx
theorem without_less {ys : List Rc} {r : Rc} (h : (without ys r).length ≠ ys.length) : has ys r = true := by
  cases hh : has ys r with
  | true => rfl
  | false => rw [without_none hh] at h; exact absurd rfl h
theorem sorted_ins {ys : List Rc} {r : Rc} (h : SS ys) : sortR (ys ++ [r]) = insR ys r := sortR_eq (insR_SS h) fun x => by rw [insR_mem', List.mem_append, List.mem_singleton]
theorem sins_loop {xs ys : List Rc} {p x : Option Addr} {n d xc : Nat} {own : SH} {J : IMem} {T L S : SH} (ho : OwnZ (.slice p n d) ys own) (hss : SS ys) (hyl : ys.length ≤ 10000) (hs : Sub (own ++ L) T) (hx : RowIn J L x xs.length 4 encR xs) (hL : Sub S L) (hl : xs.length ≤ 20000) :
    bolterlaw10_delta_b15 (fun v _ T => SRes S v T (resO (xs.foldl insO (some ys)) 7)) p n d x xs.length xc (xs.length : Int) 0 J T := by
  unfold bolterlaw10_delta_b15
  refine ⟨fun m o on oc x' xn' xc' q i J' T' => x' = x ∧ xn' = xs.length ∧ q = (xs.length : Int) ∧ J.le J' ∧ ∃ (k : Nat) (zs : List Rc) (own' : SH), i = (k : Int) ∧ k ≤ xs.length ∧ m = xs.length - k ∧ (xs.take k).foldl insO (some ys) = some zs ∧ SS zs ∧ zs.length ≤ 10000 + k ∧ OwnZ (.slice o on oc) zs own' ∧ Sub (own' ++ L) T',
    xs.length, ⟨rfl, rfl, rfl, IMem.le.refl J, 0, ys, own, rfl, Nat.zero_le _, rfl, rfl, hss, hyl, ho, hs⟩, ?_⟩
  rintro m o on oc x' xn' xc' q i J' T' - ⟨rfl, rfl, rfl, hle, k, zs, own', rfl, hk, rfl, hst, hzs, hzl, ho', hs'⟩
  unfold bolterlaw10_delta_l16 bolterlaw10_delta_b17 bolterlaw10_delta_b23
  refine bcase_dec (fun h => ?_) (fun h => ?_)
  · obtain ⟨r, hr⟩ := get_lt (xs := xs) (k := k) (by omega)
    obtain ⟨a', rfl, hc⟩ := ((hx.sub hs'.right).le hle).cell hr
    obtain ⟨c0, c1, c2, c3⟩ := CellsR hc
    refine ⟨by omega, by omega, _, c0, _, c1, _, c2, _, c3, fun b15 => StP.rec (x := r) ?_⟩
    have hn := ho'.len
    subst hn
    have hs15 : Sub ((b15, Obj.cells (encR r).toArray 36 (0, 0)) :: (own' ++ L)) ((b15, Obj.cells (encR r).toArray 36 (0, 0)) :: T') := hs'.cons _
    generalize hB : ((b15, Obj.cells (encR r).toArray 36 (0, 0)) :: T') = B at hs15
    have cr : ∀ {J2 : IMem} {T2 : SH} {o : Nat} {v : Value}, Sub B T2 → (encR r)[o]? = some v → Cell J2 T2 ⟨b15, o, none⟩ v := fun h hj => Sub.cell' h (by rw [← hB]; exact Cell.at0 (by rw [List.getElem?_toArray]; exact hj))
    have hsn := fold_snoc (f := insO) (b := some ys) hr
    rw [hst] at hsn
    unfold bolterlaw10_delta_b18 bolterlaw10_delta_b19
    refine ⟨fun m o' on' oc' r' y yn yc q' i' y2 y2n y2c q2 i2 J2 T2 => o' = o ∧ on' = zs.length ∧ oc' = oc ∧ r' = ⟨b15, 0, none⟩ ∧ y = some a' ∧ yn = xs.length ∧ q' = (xs.length : Int) ∧ i' = (k : Int) ∧ y2 = o ∧ y2n = zs.length ∧ q2 = (zs.length : Int) ∧ J'.le J2 ∧ Sub B T2 ∧ ∃ j : Nat, i2 = (j : Int) ∧ j ≤ zs.length ∧ m = zs.length - j ∧ has (zs.take j) r = false,
      zs.length, ⟨rfl, rfl, rfl, rfl, rfl, rfl, rfl, rfl, rfl, rfl, rfl, IMem.le.refl _, Sub.refl _, 0, rfl, Nat.zero_le _, rfl, rfl⟩, ?_⟩
    rintro m o' on' oc' r' y yn yc q' i' y2 y2n y2c q2 i2 J2 T2 - ⟨rfl, rfl, rfl, rfl, rfl, rfl, rfl, rfl, rfl, rfl, rfl, hle2, hs2, j, rfl, hj, rfl, hno⟩
    unfold bolterlaw10_delta_l20
    have hrz : ∀ {J3 : IMem} {T3 : SH}, Sub B T3 → RowIn J3 T3 y2 zs.length 4 encR zs := fun h => (ho'.row encR_len).sub ((hs15.drop.left).trans h)
    refine bcase_dec (fun hjl => ?_) (fun hjl => ?_)
    · obtain ⟨u, hu⟩ := get_lt (xs := zs) (k := j) (by omega)
      obtain ⟨a2, rfl, hc2⟩ := (hrz hs2).cell hu
      obtain ⟨e0, e1, e2, e3⟩ := CellsR hc2
      refine ⟨by omega, by omega, _, e0, _, e1, _, e2, _, e3, fun b17 => StP.rec (x := u) ⟨_, Cell.at0 rfl, _, Cell.at0 rfl, _, Cell.at0 rfl, _, Cell.at0 rfl, _, cr (hs2.skip _) rfl, _, cr (hs2.skip _) rfl, _, cr (hs2.skip _) rfl, _, cr (hs2.skip _) rfl, bcase_of (fun he => ?_) (fun he => ?_)⟩⟩
      · have hur : u = r := recEq.1 he
        have hyes : has zs r = true := has_iff.2 (hur ▸ List.mem_of_getElem? hu)
        have hnone : (xs.take (k + 1)).foldl insO (some ys) = none := by
          rw [hsn]; show (if has zs r then _ else _) = _; rw [hyes]; rfl
        rw [fold_none insO_none hnone]
        exact ⟨none, 0, 0, [], rfl, OwnR.nil, hL.trans ((hs15.drop.right.trans hs2).skip _)⟩
      · refine ⟨zs.length - (j + 1), by omega, rfl, rfl, rfl, rfl, rfl, rfl, rfl, rfl, rfl, rfl, rfl, hle2, hs2.skip _, j + 1, ?_, by omega, rfl, ?_⟩
        · rw [wrap_i64 (by omega) (by omega)]; rfl
        · rw [has, any_snoc _ hu]
          have h2 : recB u r = false := he
          rw [h2, Bool.or_false]; exact hno
    · have hje : j = zs.length := by omega
      subst hje
      rw [List.take_length] at hno
      have hsome : (xs.take (k + 1)).foldl insO (some ys) = some (insR zs r) := by
        rw [hsn]; show (if has zs r then _ else _) = _; rw [hno]; rfl
      have hil := insR_length zs r
      have fin : ∀ (J3 : IMem) (T3 : SH) (own3 : SH) (z : Option Addr) (zn zc : Nat), J'.le J3 → OwnZ (.slice z zn zc) (zs ++ [r]) own3 → Sub (own3 ++ B) T3 →
          Runs Tryd.prog 11 #[.slice z zn zc] J3 T3 fun v I1 S1'' => ∃ x92 x92n x92c, v = .slice x92 x92n x92c ∧
            bolterlaw10_delta_b22 (fun out_8 out_8n out_8c x71 x71n x71c x72 x73 I_1 S_1 => ∃ m', m' < xs.length - k ∧ (x71 = some a' ∧ x71n = xs.length ∧ x72 = (xs.length : Int) ∧ J.le I_1 ∧ ∃ (k : Nat) (zs : List Rc) (own' : SH), x73 = (k : Int) ∧ k ≤ xs.length ∧ m' = xs.length - k ∧ (xs.take k).foldl insO (some ys) = some zs ∧ SS zs ∧ zs.length ≤ 10000 + k ∧ OwnZ (.slice out_8 out_8n out_8c) zs own' ∧ Sub (own' ++ L) S_1))
              (fun v _ T => SRes S v T (resO (xs.foldl insO (some ys)) 7)) x92 x92n x92c (some a') xs.length xc' (xs.length : Int) (k : Int) I1 S1'' := by
        intro J3 T3 own3 z zn zc hle3 ho3 hs3
        have hn3 := ho3.len
        subst hn3
        refine (Sorted_runs ((ho3.row encR_len).sub hs3.left) (by rw [List.length_append]; simp only [List.length_singleton]; omega)).mono ?_
        rintro v J4 T4 hle4 ⟨own4, ho4, hs4⟩
        obtain ⟨z4, d4, rfl⟩ := ho4.slice
        rw [sorted_ins hzs] at ho4
        unfold bolterlaw10_delta_b22
        refine ⟨_, _, _, rfl, xs.length - (k + 1), by omega, rfl, rfl, rfl, hle.trans (hle3.trans hle4), k + 1, insR zs r, own4, ?_, by omega, rfl, hsome, insR_SS hzs, by omega, ?_, ?_⟩
        · rw [wrap_i64 (by omega) (by omega)]; rfl
        · rw [sorted_ins hzs]; exact ho4
        · exact hs4.of_right (hs15.drop.right.trans hs3.right)
      unfold bolterlaw10_delta_b21
      refine ⟨_, cr hs2 rfl, _, cr hs2 rfl, _, cr hs2 rfl, _, cr hs2 rfl, ?_, fun b90 => ?_⟩
      · refine AppNil (hrz hs2) (by omega) ?_
        intro p3 n3 c3' own3 T3 ho3 hs3
        refine ⟨hs3.right.keep (IMem.le.refl _), fun b90 => ?_⟩
        refine AppZ (r := r) hs3 ho3 (by omega) ?_
        intro p4 n4 c4 own4 T4 ho4 hs4
        exact fin J2 T4 own4 p4 n4 c4 hle2 ho4 (hs4.of_right hs2)
      · refine AppNil ((hrz hs2).sub ((Sub.refl _).skip _)) (by omega) ?_
        intro p3 n3 c3' own3 T3 ho3 hs3
        refine ⟨hs3.right.drop.keep (IMem.le.refl _), ?_⟩
        refine AppR (xs := zs) (ys := [r]) hs3 ho3 ((row_one r).sub hs3.right) (by simp only [List.length_singleton]; omega) ?_
        intro p4 n4 c4 own4 T4 ho4 hs4
        exact fin J2 T4 own4 p4 n4 c4 hle2 ho4 (hs4.of_right (hs2.skip _))
  · have hke : k = xs.length := by omega
    subst hke
    rw [List.take_length] at hst
    rw [hst]
    exact ⟨o, on, oc, own', rfl, ho', hs'.of_right hL⟩
end Go.Proofs.YtdajglfbbcbgpaaDoor
