/- A word replaced by words in a list. -/
import Derived.Test.YtkagfmlaolmdnaaDoorOw9
namespace Go.Proofs.YtkagfmlaolmdnaaDoor
open Go.Px
set_option linter.unusedVariables false
set_option linter.unusedSimpArgs false
set_option maxRecDepth 8000

theorem ovlS_runs {I : IMem} {S : SH} {a b : Addr} {la ca lb cb : Nat} {csA csB : Array Value} {eA eB : TypeId} (hne : a.block ≠ b.block) (hA : (a.block, Obj.cells csA eA (0, 0)) ∈ S) (hB : (b.block, Obj.cells csB eB (0, 0)) ∈ S) (hB0 : csB.size ≠ 0) :
    RunsX Tryd.prog 76 #[.slice (some a) la ca, .slice (some b) lb cb] I S fun v _ T => v = .bool false ∧ T = S := by
  intro w hw
  refine ⟨.bool false, w, I, S, ?_, IMem.le.refl I, hw, rfl, rfl⟩
  have h1 := hw.own _ hA
  have h2 := hw.own _ hB
  obtain ⟨i, hi, _⟩ := info_of_underlying (P := Tryd.prog) (t := 9) Tryd.underlying9
  rw [run_callFunc_extern Tryd.func76 (by kernel_rfl) (by kernel_rfl) (by kernel_rfl) (e := Extern.SlicesOverlaps.overlaps #[31, 31] #[4]) (by kernel_rfl)]
  rw [Lib.run_overlaps_apart w 31 4 9 Tryd.underlying31 i.size (fun w => run_sizeOf hi) a b la ca lb cb hne eA eB csA.size csB.size ?_ ?_ hB0 ?_ ?_]
  · rfl
  · simp only [World.shape?]; rw [h1]
  · simp only [World.shape?]; rw [h2]
  · simp only [World.frozen?]; rw [h1]; simp
  · simp only [World.frozen?]; rw [h1]; simp
theorem strL_len (xs : List ByteArray) : (strL xs).length = xs.length := List.length_map ..
theorem strL_one (xs : List ByteArray) : (strL xs).all one = true := by rw [← flat_elS]; exact flatMap_one (el := elS) (fun _ => rfl) _
theorem strL_app (xs ys : List ByteArray) : strL (xs ++ ys) = strL xs ++ strL ys := List.map_append
set_option maxHeartbeats 2000000 in
theorem Replace_runs {ys vs ws : List ByteArray} {z : ByteArray} {g h c d : Nat} {rest : List Value} (hv : 2 ≤ vs.length) (hc : (ys ++ z :: ws).length + rest.length = c) (hcm : c ≤ maxLen) (hl : ys.length + vs.length + ws.length ≤ 1000) (I : IMem) (F : SH) :
    Runs Tryd.prog 67 #[.slice (some ⟨g, 0, none⟩) (ys ++ z :: ws).length c, .int .i64 (ys.length : Int), .int .i64 ((ys.length : Int) + 1), .slice (some ⟨h, 0, none⟩) vs.length d] I
      ((g, .cells (strL (ys ++ z :: ws) ++ rest).toArray 9 (0, 0)) :: (h, .cells (strL vs).toArray 9 (0, 0)) :: F) fun v _ T => ∃ own', OwnS v (ys ++ vs ++ ws) own' ∧ Sub (own' ++ F) T := by
  refine slices_Replace__string_string_fn _ _ _ _ _ _ _ _ _ _ _ ?_
  have hlen : (ys ++ z :: ws).length = ys.length + (ws.length + 1) := by rw [List.length_append, List.length_cons]
  have hYl := strL_len ys; have hVl := strL_len vs; have hWl := strL_len ws
  have hL : strL (ys ++ z :: ws) ++ rest = strL ys ++ (Value.string z :: (strL ws ++ rest)) := by rw [strL_app, List.append_assoc]; rfl
  have e1 : ((ys.length : Int) + 1).toNat = ys.length + 1 := by omega
  unfold slices_Replace__string_string slices_Replace__string_string_b1 slices_Replace__string_string_b2
  rw [hlen, hL]
  simp only [e1, Int.toNat_natCast, Nat.sub_zero, slA_zero]
  rw [hlen] at hc
  refine ⟨by omega, by omega, by omega, by omega, bcase_beq (fun e => by omega) (fun _ => bcase_beq (fun e => ?_) (fun e => ?_))⟩
  · -- the last one
    have hw0 : ws = [] := List.eq_nil_of_length_eq_zero (by omega)
    subst hw0
    refine ⟨by omega, by omega, AppSs (xs := ys) (ys := vs) (own := [(g, .cells (strL ys ++ (Value.string z :: (strL [] ++ rest))).toArray 9 (0, 0))]) (F := F) ((Sub.refl _).re (by intro a; simp only [cnt_cons, cnt_app, cnt_nil]; omega)) ?_ ?_ (by omega) ?_⟩
    · refine OwnS.mk ?_ hcm
      simp only [List.length_cons, List.length_append, strL_len, List.length_nil] at hc ⊢; omega
    · have := OwnS.row (I := I) (OwnS.mk (xs := vs) (g := h) (cap := vs.length) (rest := []) rfl (by simp only [maxLen]; omega))
      rw [List.append_nil] at this
      exact this.sub ((Sub.refl _).re (by intro a; simp only [cnt_cons, cnt_app, cnt_nil]; omega))
    · intro p n c' own' T ho hs
      have hn := ho.len
      rw [List.length_append] at hn
      unfold slices_Replace__string_string_b3
      refine bcase_f (decide_eq_false (by simp only [List.length_nil] at *; omega)) ⟨own', ?_, hs⟩
      rw [List.append_nil]; exact ho
  unfold slices_Replace__string_string_b4 slices_Replace__string_string_b5 slices_Replace__string_string_b6
  simp only [e1, Int.toNat_natCast, Nat.sub_zero, slA_zero]
  have hw1 : 0 < ws.length := by omega
  have wt : IntKind.wrap .i64 (IntKind.wrap .i64 (((ys.length : Nat) : Int) + (vs.length : Int)) + ((ys.length + (ws.length + 1) - (ys.length + 1) : Nat) : Int)) = ((ys.length + vs.length + ws.length : Nat) : Int) := by
    rw [wrap_i64 (x := ((ys.length : Nat) : Int) + (vs.length : Int)) (by omega) (by omega), wrap_i64 (by omega) (by omega)]; omega
  have wi : IntKind.wrap .i64 ((ys.length : Int) + (vs.length : Int)) = ((ys.length + vs.length : Nat) : Int) := by rw [wrap_i64 (by omega) (by omega)]; omega
  have wd : IntKind.wrap .i64 (((ys.length + vs.length + ws.length : Nat) : Int) - (ys.length : Int)) = ((vs.length + ws.length : Nat) : Int) := by rw [wrap_i64 (by omega) (by omega)]; omega
  rw [wt]
  refine ⟨by omega, by omega, by omega, by omega, bcase_dec (fun hg => ?_) (fun hg => ?_)⟩
  · -- no room: a new row
    rw [wd]
    refine ⟨by omega, by omega, ?_⟩
    refine ⟨_, [], _, some ⟨g, 0, none⟩, ys.length, c, vs.length + ws.length, strL ys, repV (vs.length + ws.length) [.string ⟨#[]⟩], List.Perm.refl _, List.Perm.refl _, rfl, ⟨.i64, rfl, rfl⟩, ?_, ?_, fun h => by omega, fun _ => ⟨?_, fun g' d' hd hdm => ?_⟩⟩
    · simp only [maxLen]; omega
    · omega
    · refine Rd.list (L := strL ys ++ (Value.string z :: (strL ws ++ rest))) ?_ ?_
      · rw [List.drop_zero, Nat.mul_one, take_at hYl]
      · rw [List.length_append, hYl]; omega
    have hZ : (repV (vs.length + ws.length) [Value.string ⟨#[]⟩] ++ repV (d' - (ys.length + (vs.length + ws.length))) [.string ⟨#[]⟩]).length = d' - ys.length := by
      rw [List.length_append, repV_length, repV_length]; simp only [List.length_singleton]; omega
    generalize hZe : repV (vs.length + ws.length) [Value.string ⟨#[]⟩] ++ repV (d' - (ys.length + (vs.length + ws.length))) [.string ⟨#[]⟩] = Z at hZ
    have hL1 : strL ys ++ repV (vs.length + ws.length) [Value.string ⟨#[]⟩] ++ repV (d' - (ys.length + (vs.length + ws.length))) [Value.string ⟨#[]⟩] = strL ys ++ Z := by rw [← hZe, List.append_assoc]
    rw [hL1]
    unfold slices_Replace__string_string_b7 slices_Replace__string_string_b8
    simp only [e1, Int.toNat_natCast, wi]
    refine ⟨by omega, by omega, ?_⟩
    rw [slAd (by omega)]
    have m1 : min vs.length (ys.length + (vs.length + ws.length) - ys.length) = vs.length := by omega
    refine ⟨strL vs, ?_, strL_one vs, .inr ⟨_, rfl, StP.list (L := strL ys ++ Z) ?_ (strL_one vs) ?_⟩⟩
    · rw [m1]
      exact Rd.keep (Sub.keep (IMem.le.refl I) ((Sub.refl _).re (by intro a; simp only [cnt_cons, cnt_app, cnt_nil]; omega))) (Rd.list (S := []) (e := 9) (fz := (0, 0)) (L := strL vs) (g := h) (o := 0) (by rw [List.drop_zero, Nat.mul_one, List.take_of_length_le (by rw [hVl]; exact Nat.le_refl _)]) (by rw [hVl]; omega))
    · rw [List.length_append, hYl, hZ, hVl]; omega
    rw [take_at hYl, ← List.drop_drop, drop_at hYl, hVl]
    refine ⟨by omega, by omega, by omega, by omega, ?_⟩
    rw [slAd (by omega), slAd (by omega)]
    have m2 : min (ys.length + (ws.length + 1) - (ys.length + 1)) (ys.length + (vs.length + ws.length) - (ys.length + vs.length)) = ws.length := by omega
    have hP : (strL ys ++ strL vs).length = ys.length + vs.length := by rw [List.length_append, hYl, hVl]
    refine ⟨strL ws, ?_, strL_one ws, .inr ⟨_, rfl, StP.list ?_ (strL_one ws) ?_⟩⟩
    · rw [m2]
      refine Rd.keep (Sub.keep (IMem.le.refl I) ((Sub.refl _).re (by intro a; simp only [cnt_cons, cnt_app, cnt_nil]; omega))) (Rd.list (S := []) (e := 9) (fz := (0, 0)) (L := strL ys ++ (Value.string z :: (strL ws ++ rest))) (g := g) (o := ys.length + 1) ?_ ?_)
      · rw [← List.drop_drop, drop_at hYl, List.drop_succ_cons, List.drop_zero, Nat.mul_one, take_at hWl]
      · simp only [List.length_append, List.length_cons, hYl, hWl]; omega
    · rw [List.length_append, hP, List.length_drop, hZ, hWl]; omega
    rw [take_at hP, ← List.drop_drop, drop_at hP, hWl]
    have hfin := OwnS.mk (xs := ys ++ vs ++ ws) (g := g') (cap := d') (rest := (Z.drop vs.length).drop ws.length) (by simp only [List.length_append, List.length_drop, hZ]; omega) hdm
    have hlen2 : (ys ++ vs ++ ws).length = ys.length + (vs.length + ws.length) := by simp only [List.length_append]; omega
    rw [hlen2] at hfin
    refine ⟨_, hfin, ?_⟩
    rw [strL_app, strL_app]
    exact (Sub.refl _).re (by intro a; simp only [cnt_cons, cnt_app, cnt_nil]; omega)
  · -- room: in place
    have hc1 : ys.length + vs.length + ws.length ≤ c := by omega
    unfold slices_Replace__string_string_b9 slices_Replace__string_string_b10 slices_Replace__string_string_b11 slices_Replace__string_string_b14
    simp only [e1, Int.toNat_natCast, Nat.sub_zero, slA_zero, wi]
    refine ⟨by omega, by omega, bcase_f (decide_eq_false (by omega)) ⟨by omega, by omega, ?_⟩⟩
    rw [slAd (by omega)]
    have hrest : rest.length = c - (ys.length + (ws.length + 1)) := by omega
    have m2 : min (ys.length + (ws.length + 1) - (ys.length + 1)) (ys.length + vs.length + ws.length - (ys.length + vs.length)) = ws.length := by omega
    have m1 : min vs.length (ys.length + vs.length + ws.length - ys.length) = vs.length := by omega
    have hlen2 : (ys ++ vs ++ ws).length = ys.length + vs.length + ws.length := by simp only [List.length_append]
    have hlen3 : (ys ++ vs ++ ws).length + (c - (ys.length + vs.length + ws.length)) = c := by rw [hlen2]; omega
    intro w hw
    have hgh : g ≠ h := by
      have := hw.nodup
      simp only [List.map_cons, List.nodup_cons, List.mem_cons, not_or] at this
      exact this.1.1
    obtain ⟨v, w', J, T, hr, hle, hs, rfl, rfl⟩ := ovlS_runs (I := I) (a := ⟨g, ys.length + vs.length, none⟩) (b := ⟨h, 0, none⟩) (la := ys.length + vs.length + ws.length - (ys.length + vs.length)) (ca := c - (ys.length + vs.length)) (lb := vs.length) (cb := d) hgh
      (csA := (strL ys ++ (Value.string z :: (strL ws ++ rest))).toArray) (csB := (strL vs).toArray) (eA := 9) (eB := 9) (S := (g, .cells (strL ys ++ (Value.string z :: (strL ws ++ rest))).toArray 9 (0, 0)) :: (h, .cells (strL vs).toArray 9 (0, 0)) :: F) (by simp) (by simp) (by rw [List.size_toArray, hVl]; omega) w hw
    refine ⟨_, w', J, _, hr, hle, hs, false, rfl, ?_⟩
    clear hr hs hw w'
    unfold slices_Replace__string_string_b15 slices_Replace__string_string_b16
    simp only [e1, Int.toNat_natCast, Nat.sub_zero, slA_zero, wi]
    refine bcase_t rfl ⟨by omega, by omega, by omega, by omega, ?_⟩
    rw [slAd (by omega), slAd (by omega)]
    refine ⟨strL ws, ?_, strL_one ws, .inr ⟨_, rfl, StP.list ?_ (strL_one ws) ?_⟩⟩
    · rw [m2]
      refine Rd.list ?_ ?_
      · rw [← List.drop_drop, drop_at hYl, List.drop_succ_cons, List.drop_zero, Nat.mul_one, take_at hWl]
      · simp only [List.length_append, List.length_cons, hYl, hWl]; omega
    · simp only [List.length_append, List.length_cons, hYl, hWl, hrest]; omega
    · rw [hWl]
      have hT : ((strL ys ++ (Value.string z :: (strL ws ++ rest))).take (ys.length + vs.length)).length = ys.length + vs.length := by
        rw [List.length_take]; simp only [List.length_append, List.length_cons, hYl, hWl, hrest]; omega
      have hT4 : ((strL ys ++ (Value.string z :: (strL ws ++ rest))).take (ys.length + vs.length)).take ys.length = strL ys := by
        rw [List.take_take, show min ys.length (ys.length + vs.length) = ys.length by omega, take_at hYl]
      generalize hTe : (strL ys ++ (Value.string z :: (strL ws ++ rest))).take (ys.length + vs.length) = Tk at hT hT4
      have hD : ((strL ys ++ (Value.string z :: (strL ws ++ rest))).drop (ys.length + vs.length + ws.length)).length = c - (ys.length + vs.length + ws.length) := by
        rw [List.length_drop]; simp only [List.length_append, List.length_cons, hYl, hWl, hrest]; omega
      generalize hDe : (strL ys ++ (Value.string z :: (strL ws ++ rest))).drop (ys.length + vs.length + ws.length) = D at hD
      refine ⟨by omega, by omega, ?_⟩
      rw [slAd (by omega)]
      refine ⟨strL vs, ?_, strL_one vs, .inr ⟨_, rfl, StP.list ?_ (strL_one vs) ?_⟩⟩
      · rw [m1]
        exact Rd.keep (Sub.keep hle ((Sub.refl _).re (by intro a; simp only [cnt_cons, cnt_app, cnt_nil]; omega))) (Rd.list (I := I) (S := []) (e := 9) (fz := (0, 0)) (L := strL vs) (g := h) (o := 0) (by rw [List.drop_zero, Nat.mul_one, List.take_of_length_le (by rw [hVl]; exact Nat.le_refl _)]) (by rw [hVl]; omega))
      · simp only [List.length_append, hT, hVl, hWl]; omega
      · have k1 : (Tk ++ strL ws ++ D).take ys.length = strL ys := by
          rw [List.append_assoc, List.take_append_of_le_length (by rw [hT]; omega), hT4]
        have k2 : (Tk ++ strL ws ++ D).drop (ys.length + (strL vs).length) = strL ws ++ D := by
          rw [List.append_assoc, hVl, drop_at hT]
        rw [k1, k2]
        have hfin := OwnS.mk (xs := ys ++ vs ++ ws) (g := g) (cap := c) (rest := D) (by rw [hD]; exact hlen3) hcm
        rw [hlen2] at hfin
        refine ⟨_, hfin, ?_⟩
        rw [strL_app, strL_app, List.append_assoc (strL ys ++ strL vs)]
        exact (Sub.refl _).re (by intro a; simp only [cnt_cons, cnt_app, cnt_nil]; omega)
end Go.Proofs.YtkagfmlaolmdnaaDoor
