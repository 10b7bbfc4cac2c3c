/- A delta on a zone, by the law, whole; what goes and what comes between two zones. -/
import Derived.Test.YtdajglfbbcbgpaaDoorYa4
namespace Go.Proofs.YtdajglfbbcbgpaaDoor
open Go.Px
set_option linter.unusedVariables false

theorem SRes.of {S : SH} {v : Value} {T : SH} {r s : Option Int × List Rc} (h : SRes S v T r) (e : r = s) : SRes S v T s := e ▸ h
theorem delta_runs {zs gs ns : List Rc} {a ga na : Option Addr} {c gc nc : Nat} {src dst : Rc} {I : IMem} {S : SH} (hx : RowIn I S a zs.length 4 encR zs) (hz : SS zs) (hl : zs.length ≤ 10000) (hg : RowIn I S ga gs.length 4 encR gs) (hgl : gs.length ≤ 10000) (hn : RowIn I S na ns.length 4 encR ns) (hnl : ns.length ≤ 10000) :
    Runs Tryd.prog 24 #[.slice a zs.length c, .agg (encD src dst (ga, gs.length, gc) (na, ns.length, nc)).toArray] I S fun v _ T => SRes S v T (deltaF zs src dst gs ns) := by
  refine bolterlaw10_delta_fn _ _ _ _ _ _ _ _ _ _ _ _ _ _ _ _ _ _ _ _ ?_
  unfold bolterlaw10_delta bolterlaw10_delta_b1
  intro b3
  generalize hD : ((b3, Obj.cells #[.string src.1, .int .u16 src.2.1, .int .u32 src.2.2.1, .string src.2.2.2, .string dst.1, .int .u16 dst.2.1, .int .u32 dst.2.2.1, .string dst.2.2.2, .slice ga gs.length gc, .slice na ns.length nc] 52 (0, 0)) :: S) = D
  have hSD : Sub S D := hD ▸ (Sub.refl S).skip _
  have cD : ∀ {J : IMem} {T : SH} {o : Nat} {v : Value}, Sub D T → (encD src dst (ga, gs.length, gc) (na, ns.length, nc))[o]? = some v → Cell J T ⟨b3, o, none⟩ v := fun h hj => Sub.cell' h (by rw [← hD]; exact Cell.at0 (by show (encD src dst (ga, gs.length, gc) (na, ns.length, nc)).toArray[_]? = _; rw [List.getElem?_toArray]; exact hj))
  refine (Soa_runs (hx.sub hSD) (by omega)).mono ?_
  rintro v J D hle ⟨rfl, rfl⟩
  refine ⟨_, _, _, _, _, rfl, fun b6 => StP.rec (x := (zs.find? isSoa).getD zR0) ?_⟩
  generalize hT : ((b6, Obj.cells (encR ((zs.find? isSoa).getD zR0)).toArray 36 (0, 0)) :: D) = T6
  have hD6 : Sub D T6 := hT ▸ (Sub.refl D).skip _
  have c6 : ∀ {J' : IMem} {o : Nat} {v : Value}, (encR ((zs.find? isSoa).getD zR0))[o]? = some v → Cell J' T6 ⟨b6, o, none⟩ v := fun hj => by rw [← hT]; exact Cell.at0 (by rw [List.getElem?_toArray]; exact hj)
  have bad : zs.find? isSoa ≠ some src → SRes S (.tuple #[.slice none 0 0, .int .i64 5]) T6 (deltaF zs src dst gs ns) := fun h => by
    rw [deltaF, if_neg h]
    exact ⟨_, _, _, [], rfl, OwnR.nil, hSD.trans hD6⟩
  unfold bolterlaw10_delta_b2
  refine bcase_not (bcase_of (fun hsome => ?_) (fun hnone => bcase_t rfl (bad ?_)))
  · obtain ⟨so, hso⟩ := Option.isSome_iff_exists.1 hsome
    rw [hso] at c6
    refine ⟨_, c6 rfl, _, c6 rfl, _, c6 rfl, _, c6 rfl, _, cD hD6 rfl, _, cD hD6 rfl, _, cD hD6 rfl, _, cD hD6 rfl, bcase_not (bcase_of (fun heq => ?_) (fun hne => bad ?_))⟩
    · have hfs : zs.find? isSoa = some src := by rw [hso]; exact congrArg some (recEq.1 heq)
      have hdf : deltaF zs src dst gs ns = resO ((ns ++ [dst]).foldl insO ((src :: gs).foldl delO (some zs))) (codeO ((src :: gs).foldl delO (some zs))) := by rw [deltaF, if_pos hfs]
      rw [hdf]
      unfold bolterlaw10_delta_b3
      refine AppNil ((hx.sub (hSD.trans hD6)).le hle) (by omega) ?_
      intro p1 n1 c1 own1 T1 ho1 hs1
      have hn1 := ho1.len
      subst hn1
      have hD1 : Sub (own1 ++ D) T1 := hs1.of_right hD6
      unfold bolterlaw10_delta_b4
      refine ⟨_, cD hD1.right rfl, _, cD hD1.right rfl, _, cD hD1.right rfl, _, cD hD1.right rfl, fun b35 => ⟨_, _, _, cD (hD1.right.skip _) rfl, ?_⟩⟩
      have hv : OwnZ (.slice (some ⟨b35, 0, none⟩) 1 1) [src] [(b35, .cells #[.string src.1, .int .u16 src.2.1, .int .u32 src.2.2.1, .string src.2.2.2] 36 (0, 0))] := .inr ⟨b35, 1, [], rfl, rfl, rfl, by simp [maxLen]⟩
      refine AppR (xs := [src]) (ys := gs) (own := [(b35, .cells #[.string src.1, .int .u16 src.2.1, .int .u32 src.2.2.1, .string src.2.2.2] 36 (0, 0))]) (F := T1) (Sub.refl _) hv ((hg.sub (hSD.trans (hD1.right.skip _))).le hle) (by simp only [List.length_singleton]; omega) ?_
      intro pg ng cg owng T2 hog hsg
      have hng := hog.len
      subst hng
      -- the records that go, beside the delta
      have hL : Sub (own1 ++ (owng ++ D)) T2 := Sub.perm (hsg.of_right hD1) (by
        rw [← List.append_assoc, ← List.append_assoc]; exact List.Perm.append_right D List.perm_append_comm)
      have hxl : ([src] ++ gs).length = gs.length + 1 := by simp
      show bolterlaw10_delta_b5 (fun v _ T => SRes S v T (resO ((ns ++ [dst]).foldl insO (([src] ++ gs).foldl delO (some zs))) (codeO (([src] ++ gs).foldl delO (some zs))))) ⟨b3, 0, none⟩ p1 zs.length c1 pg ([src] ++ gs).length cg (([src] ++ gs).length : Int) 0 J T2
      have hrowg : ∀ {J' : IMem}, RowIn J' (owng ++ D) pg ([src] ++ gs).length 4 encR ([src] ++ gs) := (hog.row encR_len).sub (Sub.left (Sub.refl _))
      have hDL : Sub D (owng ++ D) := Sub.right (Sub.refl _)
      generalize [src] ++ gs = xs at hxl hrowg ⊢
      generalize owng ++ D = L at hL hrowg hDL
      unfold bolterlaw10_delta_b5
      refine ⟨fun m D' o on oc x' xn' xc' q i J' T' => D' = ⟨b3, 0, none⟩ ∧ x' = pg ∧ xn' = xs.length ∧ q = (xs.length : Int) ∧ J.le J' ∧ ∃ (k : Nat) (ys : List Rc) (own' : SH), i = (k : Int) ∧ k ≤ xs.length ∧ m = xs.length - k ∧ (xs.take k).foldl delO (some zs) = some ys ∧ SS ys ∧ ys.length ≤ 10000 ∧ OwnZ (.slice o on oc) ys own' ∧ Sub (own' ++ L) T',
        xs.length, ⟨rfl, rfl, rfl, rfl, IMem.le.refl _, 0, zs, own1, rfl, Nat.zero_le _, rfl, rfl, hz, hl, ho1, hL⟩, ?_⟩
      rintro m D' o on oc x' xn' xc' q i J' T' - ⟨rfl, rfl, rfl, rfl, hle', k, ys, own', rfl, hk, rfl, hst, hys, hyl, ho', hs'⟩
      unfold bolterlaw10_delta_l6 bolterlaw10_delta_b7
      refine bcase_dec (fun h => ?_) (fun h => ?_)
      · obtain ⟨r, hr⟩ := get_lt (xs := xs) (k := k) (by omega)
        obtain ⟨a', rfl, hc⟩ := (hrowg.sub hs'.right).cell hr
        obtain ⟨c0, c1, c2, c3⟩ := CellsR hc
        refine ⟨by omega, by omega, _, c0, _, c1, _, c2, _, c3, fun b10 => StP.rec (x := r) ?_⟩
        have hn' := ho'.len
        subst hn'
        have hs10 : Sub ((b10, Obj.cells (encR r).toArray 36 (0, 0)) :: (own' ++ L)) ((b10, Obj.cells (encR r).toArray 36 (0, 0)) :: T') := hs'.cons _
        generalize hB : ((b10, Obj.cells (encR r).toArray 36 (0, 0)) :: T') = B at hs10
        have cr : ∀ {J2 : IMem} {T2 : SH} {o : Nat} {v : Value}, Sub B T2 → (encR r)[o]? = some v → Cell J2 T2 ⟨b10, o, none⟩ v := fun h hj => Sub.cell' h (by rw [← hB]; exact Cell.at0 (by rw [List.getElem?_toArray]; exact hj))
        have hsn := fold_snoc (f := delO) (b := some zs) hr
        rw [hst] at hsn
        unfold bolterlaw10_delta_b8 bolterlaw10_delta_b9
        refine ⟨fun m D2 o' on' oc' r' t tn tc y yn yc q' i' y2 y2n y2c q2 i2 J2 T2 => D2 = ⟨b3, 0, none⟩ ∧ o' = o ∧ on' = ys.length ∧ oc' = oc ∧ r' = ⟨b10, 0, none⟩ ∧ y = some a' ∧ yn = xs.length ∧ q' = (xs.length : Int) ∧ i' = (k : Int) ∧ y2 = o ∧ y2n = ys.length ∧ q2 = (ys.length : Int) ∧ J'.le J2 ∧ ∃ (j : Nat) (own2 : SH), i2 = (j : Int) ∧ j ≤ ys.length ∧ m = ys.length - j ∧ OwnZ (.slice t tn tc) (without (ys.take j) r) own2 ∧ Sub (own2 ++ B) T2,
          ys.length, ⟨rfl, rfl, rfl, rfl, rfl, rfl, rfl, rfl, rfl, rfl, rfl, rfl, IMem.le.refl _, 0, [], rfl, Nat.zero_le _, rfl, OwnR.nil, Sub.refl _⟩, ?_⟩
        rintro m D2 o' on' oc' r' t tn tc y yn yc q' i' y2 y2n y2c q2 i2 J2 T2 - ⟨rfl, rfl, rfl, rfl, rfl, rfl, rfl, rfl, rfl, rfl, rfl, rfl, hle2, j, own2, rfl, hj, rfl, ho2, hs2⟩
        unfold bolterlaw10_delta_l10 bolterlaw10_delta_b11 bolterlaw10_delta_b12 bolterlaw10_delta_b13
        have hnext : IntKind.wrap .i64 ((j : Int) + 1) = ((j + 1 : Nat) : Int) := by rw [wrap_i64 (by omega) (by omega)]; rfl
        refine bcase_dec (fun hjl => ?_) (fun hjl => ?_)
        · obtain ⟨u, hu⟩ := get_lt (xs := ys) (k := j) (by omega)
          obtain ⟨a2, rfl, hc2⟩ := ((ho'.row encR_len (I := J2)).sub ((hs10.drop.left).trans hs2.right)).cell hu
          obtain ⟨e0, e1, e2, e3⟩ := CellsR hc2
          have hw := without_snoc (r := r) hu
          have hwl := without_len (ys.take j) r
          rw [List.length_take] at hwl
          refine ⟨by omega, by omega, _, e0, _, e1, _, e2, _, e3, fun b13 => StP.rec (x := u) ⟨_, Cell.at0 rfl, _, Cell.at0 rfl, _, Cell.at0 rfl, _, Cell.at0 rfl, _, cr (hs2.right.skip _) rfl, _, cr (hs2.right.skip _) rfl, _, cr (hs2.right.skip _) rfl, _, cr (hs2.right.skip _) rfl, bcase_not (bcase_of (fun he => ?_) (fun he => ?_))⟩⟩
          · have h2 : recB u r = true := he
            rw [h2, if_pos rfl, List.append_nil] at hw
            exact ⟨ys.length - (j + 1), by omega, rfl, rfl, rfl, rfl, rfl, rfl, rfl, rfl, rfl, rfl, rfl, rfl, hle2, j + 1, own2, hnext, by omega, rfl, by rw [hw]; exact ho2, hs2.skip _⟩
          · have h2 : recB u r = false := he
            rw [h2, if_neg Bool.false_ne_true] at hw
            refine ⟨_, Cell.at0 rfl, _, Cell.at0 rfl, _, Cell.at0 rfl, _, Cell.at0 rfl, fun b55 => ?_⟩
            refine AppZ (r := u) (hs2.skip _) ho2 (by omega) ?_
            intro p3 n3 c3' own3 T3 ho3 hs3
            exact ⟨ys.length - (j + 1), by omega, rfl, rfl, rfl, rfl, rfl, rfl, rfl, rfl, rfl, rfl, rfl, rfl, hle2, j + 1, own3, hnext, by omega, rfl, by rw [hw]; exact ho3, hs3⟩
        · have hje : j = ys.length := by omega
          subst hje
          rw [List.take_length] at ho2
          have hn2 := ho2.len
          subst hn2
          refine bcase_beq (fun hlen => ?_) (fun hlen => ?_)
          · have hno := without_same (ys := ys) (r := r) (by omega)
            have hnone : (xs.take (k + 1)).foldl delO (some zs) = none := by
              rw [hsn]; show (if has ys r then _ else _) = _; rw [hno]; rfl
            rw [fold_none delO_none hnone, insO_none]
            exact ⟨none, 0, 0, [], rfl, OwnR.nil, hSD.trans (hDL.trans (hs10.drop.right.trans hs2.right))⟩
          · have hyes := without_less (ys := ys) (r := r) (by omega)
            have hsome : (xs.take (k + 1)).foldl delO (some zs) = some (without ys r) := by
              rw [hsn]; show (if has ys r then _ else _) = _; rw [if_pos hyes]
            refine ⟨xs.length - (k + 1), by omega, rfl, rfl, rfl, rfl, hle'.trans hle2, k + 1, without ys r, own2, ?_, by omega, rfl, hsome, hys.without r, Nat.le_trans (without_len _ _) hyl, ho2, hs2.of_right hs10.drop.right⟩
            rw [wrap_i64 (by omega) (by omega)]; rfl
      · have hke : k = xs.length := by omega
        subst hke
        rw [List.take_length] at hst
        rw [hst]
        have fin : ∀ (T2 : SH) (own2 : SH) (y : Option Addr) (yn yc : Nat), OwnZ (.slice y yn yc) (ns ++ [dst]) own2 → Sub (own2 ++ (own' ++ D)) T2 →
            bolterlaw10_delta_b15 (fun v _ T => SRes S v T (resO ((ns ++ [dst]).foldl insO (some ys)) (codeO (some ys)))) o on oc y yn yc (yn : Int) 0 J' T2 := by
          intro T2 own2 y yn yc ho2 hs2
          have hn2 := ho2.len
          subst hn2
          refine sins_loop (L := own2 ++ D) ho' hys hyl ?_ ((ho2.row encR_len).sub (Sub.left (Sub.refl _))) (hSD.trans (Sub.right (Sub.refl _))) (by rw [List.length_append]; simp only [List.length_singleton]; omega)
          exact hs2.perm (by rw [← List.append_assoc, ← List.append_assoc]; exact List.Perm.append_right D List.perm_append_comm)
        have hsD : Sub (own' ++ D) T' := hs'.of_right hDL
        unfold bolterlaw10_delta_b14
        refine ⟨_, _, _, cD hsD.right rfl, _, cD hsD.right rfl, _, cD hsD.right rfl, _, cD hsD.right rfl, _, cD hsD.right rfl, ?_, fun b70 => ⟨((Sub.refl _).skip _).keep (IMem.le.refl _), ?_⟩⟩
        · refine AppNil ((hn.sub (hSD.trans hsD.right)).le (hle.trans hle')) (by omega) ?_
          intro p3 n3 c3 own3 T3 ho3 hs3
          refine ⟨hs3.right.keep (IMem.le.refl _), fun b70 => ⟨(hs3.right.skip _).keep (IMem.le.refl _), ?_⟩⟩
          refine AppZ (r := dst) (F := own' ++ D) (hs3.of_right hsD) ho3 (by omega) ?_
          intro y2 n2 c2 own4 T4 ho4 hs4
          exact fin T4 own4 y2 n2 c2 ho4 hs4
        · refine AppNil ((hn.sub ((hSD.trans hsD.right).skip _)).le (hle.trans hle')) (by omega) ?_
          intro p3 n3 c3 own3 T3 ho3 hs3
          refine ⟨hs3.right.drop.keep (IMem.le.refl _), ?_⟩
          refine AppR (xs := ns) (ys := [dst]) (F := own' ++ D) (hs3.of_right (hsD.skip _)) ho3 ((row_one dst).sub hs3.right) (by simp only [List.length_singleton]; omega) ?_
          intro y2 n2 c2 own4 T4 ho4 hs4
          exact fin T4 own4 y2 n2 c2 ho4 hs4
    · rw [hso]
      intro e
      injection e with e
      subst e
      have := recEq.2 (rfl : so = so)
      rw [Option.getD_some] at hne
      rw [hne] at this; cases this
  · intro e; rw [e] at hnone; cases hnone
end Go.Proofs.YtdajglfbbcbgpaaDoor
