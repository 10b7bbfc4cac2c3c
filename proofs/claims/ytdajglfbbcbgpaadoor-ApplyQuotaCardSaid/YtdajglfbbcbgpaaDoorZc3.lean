/- What slices.overlaps answers; a clone; an insertion into a row of one's own. -/
import Derived.Test.YtdajglfbbcbgpaaDoorZc2
namespace Go.Proofs.YtdajglfbbcbgpaaDoor
open Go.Px
set_option linter.unusedVariables false

theorem ovl_runs {I : IMem} {S : SH} {a b : Addr} {la ca lb cb : Nat} {csA csB : Array Value} {eA eB : TypeId} (hne : a.block ≠ b.block) (hA : (a.block, Obj.cells csA eA (0, 0)) ∈ S) (hB : (b.block, Obj.cells csB eB (0, 0)) ∈ S) (hB0 : csB.size ≠ 0) :
    RunsX Tryd.prog 51 #[.slice (some a) la ca, .slice (some b) lb cb] I S fun v _ T => v = .bool false ∧ T = S := by
  intro w hw
  refine ⟨.bool false, w, I, S, ?_, IMem.le.refl I, hw, rfl, rfl⟩
  have h1 := hw.own _ hA
  have h2 := hw.own _ hB
  obtain ⟨i, hi, _⟩ := info_of_underlying (P := Tryd.prog) (t := 36) Tryd.underlying36
  rw [run_callFunc_extern Tryd.func51 (by kernel_rfl) (by kernel_rfl) (by kernel_rfl) (e := Extern.SlicesOverlaps.overlaps #[28, 28] #[4]) (by kernel_rfl)]
  rw [Lib.run_overlaps_apart w 28 4 36 Tryd.underlying28 i.size (fun w => run_sizeOf hi) a b la ca lb cb hne eA eB csA.size csB.size ?_ ?_ hB0 ?_ ?_]
  · rfl
  · simp only [World.shape?]; rw [h1]
  · simp only [World.shape?]; rw [h2]
  · simp only [World.frozen?]; rw [h1]; simp
  · simp only [World.frozen?]; rw [h1]; simp

abbrev zR : List Value := [.string ⟨#[]⟩, .int .u16 0, .int .u32 0, .string ⟨#[]⟩]
abbrev OwnZ (v : Value) (xs : List Rc) (own : SH) : Prop := OwnR 36 4 encR v xs own
theorem Clone_runs {xs : List Rc} {a : Option Addr} {c : Nat} {I : IMem} {S : SH} (hx : RowIn I S a xs.length 4 encR xs) (hl : xs.length * 40 ≤ 140737488355328) :
    Runs Tryd.prog 35 #[.slice a xs.length c] I S fun v _ T => ∃ own', OwnZ v xs own' ∧ Sub (own' ++ S) T := by
  refine slices_Clone_api_Record_fn _ _ _ _ _ _ ?_
  unfold slices_Clone_api_Record
  refine bcase_of (fun h => ?_) (fun h => ?_)
  · have hxs : xs = [] := by
      cases xs with
      | nil => rfl
      | cons x xs =>
        obtain ⟨a', rfl, _⟩ := hx.cell (i := 0) (x := x) rfl
        cases h
    subst hxs
    exact ⟨[], OwnR.nil, Sub.refl _⟩
  · intro b5
    refine AppG.own (xs := ([] : List Rc)) (ys := xs) (el := encR) (own := [(b5, .cells #[] 36 (0, 0))]) (F := S) encR_len encR_one rfl (List.Perm.refl _) (.inr ⟨b5, 0, [], rfl, rfl, rfl, Nat.zero_le _⟩) ⟨?_, flatMap_one encR_one xs⟩ ?_ ?_ ?_
    · exact RowIn.rd encR_len (by decide) (hx.sub ((Sub.refl S).skip _))
    · simp only [List.length_nil, maxLen]; omega
    · simpa using hl
    · intro p n c own' ho
      rw [List.nil_append] at ho
      exact ⟨own', ho, Sub.refl _⟩

theorem take_at {α : Type} {A B : List α} {o : Nat} (h : A.length = o) : (A ++ B).take o = A := by subst h; exact List.take_left
theorem drop_at {α : Type} {A B : List α} {o : Nat} (h : A.length = o) : (A ++ B).drop o = B := by subst h; exact List.drop_left

theorem Insert_runs {xs : List Rc} {i : Nat} {r : Rc} {b : Nat} {own : SH} {a : Option Addr} {n c : Nat} (hv : OwnZ (.slice a n c) xs own) (hi : i ≤ xs.length) (hl : (xs.length + 1) * 40 ≤ 140737488355328) (I : IMem) (F : SH) :
    Runs Tryd.prog 34 #[.slice a n c, .int .i64 (i : Int), .slice (some ⟨b, 0, none⟩) 1 1] I (own ++ (b, .cells (encR r).toArray 36 (0, 0)) :: F) fun v _ T => ∃ own', OwnZ v (xs.take i ++ r :: xs.drop i) own' ∧ Sub (own' ++ F) T := by
  refine (slices_Insert_api_Record_fn _ _ _ _ _ _ _ _ _ _ ?_)
  unfold slices_Insert_api_Record slices_Insert_api_Record_b1 slices_Insert_api_Record_b2 slices_Insert_api_Record_b3 slices_Insert_api_Record_b4 slices_Insert_api_Record_b5 slices_Insert_api_Record_b6 slices_Insert_api_Record_b7 slices_Insert_api_Record_b8
  have hn := hv.len
  subst hn
  have rdr : ∀ (G : SH), Rd I (G ++ (b, .cells (encR r).toArray 36 (0, 0)) :: F) 4 (.slice (some ⟨b, 0, none⟩) 1 1) 1 (encR r) := fun G =>
    Rd.keep (Sub.keep (IMem.le.refl I) (L := (b, .cells (encR r).toArray 36 (0, 0)) :: F) ⟨G, List.perm_append_comm⟩) (Rd.list rfl (by simp [encR_len]))
  refine ⟨by omega, by omega, bcase_beq (fun h => absurd h (by decide)) (fun _ => bcase_beq (fun h => ?_) (fun h => ?_))⟩
  · have hin : i = xs.length := by omega
    subst hin
    refine AppG.own (xs := xs) (ys := [r]) (el := encR) (own := own) (F := (b, .cells (encR r).toArray 36 (0, 0)) :: F) encR_len encR_one rfl (List.Perm.refl _) hv ⟨?_, rfl⟩ ?_ ?_ ?_
    · exact rdr own
    · simp only [List.length_singleton, maxLen]; omega
    · simpa using hl
    · intro p n c own' ho
      refine ⟨own', ?_, ⟨[_], by rw [List.append_assoc]; exact List.Perm.append_left _ (List.perm_append_comm (l₁ := [_]))⟩⟩
      rw [List.take_length, List.drop_length]
      exact ho
  · rcases hv with ⟨hv, rfl, rfl⟩ | ⟨g, cap, rest, hv, rfl, hcap, hcm⟩
    · simp at hi h; omega
    · injection hv with h1 h2 h3
      subst h1; subst h3
      obtain ⟨ys, zs, rfl, rfl⟩ : ∃ ys zs : List Rc, xs = ys ++ zs ∧ ys.length = i := ⟨xs.take i, xs.drop i, (List.take_append_drop i xs).symm, by rw [List.length_take]; omega⟩
      rw [take_at rfl, drop_at rfl]
      rw [List.length_append] at hi hl hcap h
      have hlen : (ys ++ zs).length = ys.length + zs.length := List.length_append
      have hA : (ys.flatMap encR).length = ys.length * 4 := flatMap_len encR_len ys
      have hB : (zs.flatMap encR).length = zs.length * 4 := flatMap_len encR_len zs
      have hL : (ys ++ zs).flatMap encR ++ rest = ys.flatMap encR ++ (zs.flatMap encR ++ rest) := by rw [List.flatMap_append, List.append_assoc]
      have hz : 0 < zs.length := by omega
      rw [hL, hlen]
      have w1 : IntKind.wrap .i64 (((ys.length + zs.length : Nat) : Int) + ((1 : Nat) : Int)) = ((ys.length + zs.length + 1 : Nat) : Int) := by rw [wrap_i64 (by omega) (by omega)]; omega
      have w2 : IntKind.wrap .i64 (((ys.length : Nat) : Int) + ((1 : Nat) : Int)) = ((ys.length + 1 : Nat) : Int) := by rw [wrap_i64 (by omega) (by omega)]; omega
      have w3 : IntKind.wrap .i64 (((ys.length + zs.length + 1 : Nat) : Int) - ((ys.length : Nat) : Int)) = ((zs.length + 1 : Nat) : Int) := by rw [wrap_i64 (by omega) (by omega)]; omega
      simp only [w1, w2, w3, slA_zero, Nat.sub_zero, Int.toNat_natCast]
      refine bcase_dec (fun hg => ?_) (fun hg => ?_)
      · -- no room: a new row
        refine ⟨by omega, by omega, ?_⟩
        refine ⟨_, [], _, some ⟨g, 0, none⟩, ys.length, c, zs.length + 1, ys.flatMap encR, repV (zs.length + 1) zR, List.Perm.refl _, List.Perm.refl _, rfl, ⟨.i64, rfl, rfl⟩, ?_, ?_, fun h => by omega, fun _ => ⟨?_, fun g' d hd hdm => ?_⟩⟩
        · simp only [maxLen]; omega
        · omega
        · refine Rd.list (L := ys.flatMap encR ++ (zs.flatMap encR ++ rest)) (S := (b, Obj.cells (encR r).toArray 36 (0, 0)) :: F) ?_ ?_
          · rw [List.drop_zero, take_at hA]
          · rw [List.length_append, hA]; omega
        · have hZ : (repV (zs.length + 1) zR ++ repV (d - (ys.length + (zs.length + 1))) zR).length = (d - ys.length) * 4 := by
            rw [List.length_append, repV_length, repV_length]; show (zs.length + 1) * 4 + (d - (ys.length + (zs.length + 1))) * 4 = _; omega
          generalize hZe : repV (zs.length + 1) zR ++ repV (d - (ys.length + (zs.length + 1))) zR = Z at hZ
          have hL1 : ys.flatMap encR ++ repV (zs.length + 1) zR ++ repV (d - (ys.length + (zs.length + 1))) zR = ys.flatMap encR ++ Z := by rw [← hZe, List.append_assoc]
          rw [hL1]
          have e1 : slA (some ⟨g', 0, none⟩) d ys.length 4 = some ⟨g', ys.length * 4, none⟩ := by
            unfold slA; rw [if_neg (by omega)]; show some ((⟨g', 0, none⟩ : Addr).add _) = _; rw [add_mk, Nat.zero_add]
          have e2 : slA (some ⟨g', 0, none⟩) d (ys.length + 1) 4 = some ⟨g', (ys.length + 1) * 4, none⟩ := by
            unfold slA; rw [if_neg (by omega)]; show some ((⟨g', 0, none⟩ : Addr).add _) = _; rw [add_mk, Nat.zero_add]
          have e3 : slA (some ⟨g, 0, none⟩) c ys.length 4 = some ⟨g, ys.length * 4, none⟩ := by
            unfold slA; rw [if_neg (by omega)]; show some ((⟨g, 0, none⟩ : Addr).add _) = _; rw [add_mk, Nat.zero_add]
          refine ⟨by omega, by omega, ?_⟩
          rw [e1]
          have m1 : min 1 (ys.length + (zs.length + 1) - ys.length) = 1 := by omega
          refine ⟨encR r, ?_, rfl, .inr ⟨_, rfl, StP.list (L := ys.flatMap encR ++ Z) ?_ rfl ?_⟩⟩
          · rw [m1]
            exact Rd.keep (Sub.keep (IMem.le.refl I) ((Sub.refl _).skip _)) (rdr [(g, _)])
          · rw [List.length_append, hA, hZ, encR_len]; omega
          · rw [take_at hA, ← List.drop_drop, drop_at hA, encR_len]
            refine ⟨by omega, by omega, by omega, by omega, ?_⟩
            rw [e2, e3]
            have m2 : min (ys.length + zs.length - ys.length) (ys.length + (zs.length + 1) - (ys.length + 1)) = zs.length := by omega
            have hP : (ys.flatMap encR ++ encR r).length = (ys.length + 1) * 4 := by rw [List.length_append, hA, encR_len]; omega
            refine ⟨zs.flatMap encR, ?_, flatMap_one encR_one zs, .inr ⟨_, rfl, StP.list ?_ (flatMap_one encR_one zs) ?_⟩⟩
            · rw [m2]
              refine Rd.keep (Sub.keep (IMem.le.refl I) ((Sub.refl _).skip _)) (Rd.list (L := ys.flatMap encR ++ (zs.flatMap encR ++ rest)) (S := (b, Obj.cells (encR r).toArray 36 (0, 0)) :: F) ?_ ?_)
              · rw [drop_at hA, take_at hB]
              · rw [List.length_append, List.length_append, hA, hB]; omega
            · rw [List.length_append, hP, List.length_drop, hZ, hB]; omega
            · rw [take_at hP, ← List.drop_drop, drop_at hP, hB]
              refine ⟨[_], .inr ⟨g', d, (Z.drop 4).drop (zs.length * 4), by simp, ?_, ?_, hdm⟩, ⟨[_, _], (List.perm_append_comm (l₁ := [_, _]) (l₂ := F)).cons _⟩⟩
              · simp [List.flatMap_append]
              · simp [hZ]; omega
      · -- room: in place
        have hc1 : ys.length + zs.length + 1 ≤ c := by omega
        refine ⟨by omega, by omega, by omega, by omega, ?_⟩
        have e2 : slA (some ⟨g, 0, none⟩) c (ys.length + 1) 4 = some ⟨g, (ys.length + 1) * 4, none⟩ := by
          unfold slA; rw [if_neg (by omega)]; show some ((⟨g, 0, none⟩ : Addr).add _) = _; rw [add_mk, Nat.zero_add]
        have e3 : slA (some ⟨g, 0, none⟩) c ys.length 4 = some ⟨g, ys.length * 4, none⟩ := by
          unfold slA; rw [if_neg (by omega)]; show some ((⟨g, 0, none⟩ : Addr).add _) = _; rw [add_mk, Nat.zero_add]
        rw [e2, e3]
        have hrest : rest.length = (c - (ys.length + zs.length)) * 4 := by omega
        intro w hw
        have hgb : g ≠ b := by
          have := hw.nodup
          simp only [List.singleton_append, List.map_cons, List.nodup_cons, List.mem_cons, not_or] at this
          exact this.1.1
        obtain ⟨v, w', J, T, hr, hle, hs, rfl, rfl⟩ := ovl_runs (I := I) (a := ⟨b, 0, none⟩) (b := ⟨g, (ys.length + 1) * 4, none⟩) (la := 1) (ca := 1) (lb := ys.length + zs.length + 1 - (ys.length + 1)) (cb := c - (ys.length + 1)) (fun h => hgb h.symm)
          (csA := (encR r).toArray) (csB := (ys.flatMap encR ++ (zs.flatMap encR ++ rest)).toArray) (eA := 36) (eB := 36) (S := [(g, Obj.cells (ys.flatMap encR ++ (zs.flatMap encR ++ rest)).toArray 36 (0, 0))] ++ (b, .cells (encR r).toArray 36 (0, 0)) :: F) (by simp) (by simp) (by rw [List.size_toArray, List.length_append, List.length_append, hA, hB]; omega) w hw
        refine ⟨_, w', J, _, hr, hle, hs, false, rfl, ?_⟩
        refine bcase_t rfl ⟨by omega, by omega, by omega, by omega, ?_⟩
        have m2 : min (ys.length + zs.length + 1 - ys.length) (ys.length + zs.length + 1 - (ys.length + 1)) = zs.length := by omega
        refine ⟨zs.flatMap encR, ?_, flatMap_one encR_one zs, .inr ⟨_, rfl, StP.list ?_ (flatMap_one encR_one zs) ?_⟩⟩
        · rw [m2]
          refine Rd.list ?_ ?_
          · rw [drop_at hA, take_at hB]
          · rw [List.length_append, List.length_append, hA, hB]; omega
        · rw [List.length_append, List.length_append, hA, hB]; omega
        · rw [hB]
          have hT : ((ys.flatMap encR ++ (zs.flatMap encR ++ rest)).take ((ys.length + 1) * 4)).length = (ys.length + 1) * 4 := by
            rw [List.length_take, List.length_append, List.length_append, hA, hB]; omega
          generalize hTe : (ys.flatMap encR ++ (zs.flatMap encR ++ rest)).take ((ys.length + 1) * 4) = Tk at hT
          have hT4 : Tk.take (ys.length * 4) = ys.flatMap encR := by
            rw [← hTe, List.take_take, show min (ys.length * 4) ((ys.length + 1) * 4) = ys.length * 4 by omega, take_at hA]
          refine ⟨by omega, by omega, ?_⟩
          have m1 : min 1 (ys.length + zs.length + 1 - ys.length) = 1 := by omega
          refine ⟨encR r, ?_, rfl, .inr ⟨_, rfl, StP.list ?_ rfl ?_⟩⟩
          · rw [m1]; exact Rd.keep (Sub.keep hle ((Sub.refl _).skip _)) (rdr [])
          · simp only [List.length_append, hT, encR_len]; omega
          · have k1 : (Tk ++ zs.flatMap encR ++ (ys.flatMap encR ++ (zs.flatMap encR ++ rest)).drop ((ys.length + 1) * 4 + zs.length * 4)).take (ys.length * 4) = ys.flatMap encR := by
              rw [List.append_assoc, List.take_append_of_le_length (by rw [hT]; omega), hT4]
            have k2 : (Tk ++ zs.flatMap encR ++ (ys.flatMap encR ++ (zs.flatMap encR ++ rest)).drop ((ys.length + 1) * 4 + zs.length * 4)).drop (ys.length * 4 + (encR r).length) = zs.flatMap encR ++ rest.drop 4 := by
              have k3 : (ys.flatMap encR ++ (zs.flatMap encR ++ rest)).drop ((ys.length + 1) * 4 + zs.length * 4) = rest.drop 4 := by
                rw [← List.append_assoc, show (ys.length + 1) * 4 + zs.length * 4 = (ys.length * 4 + zs.length * 4) + 4 by omega, ← List.drop_drop, drop_at (by rw [List.length_append, hA, hB])]
              rw [k3, List.append_assoc, drop_at (by rw [hT, encR_len]; omega)]
            rw [k1, k2]
            refine ⟨[_], .inr ⟨g, c, rest.drop 4, by rw [List.length_append, List.length_cons]; rfl, ?_, ?_, hcm⟩, ⟨[_], (List.perm_append_comm (l₁ := [_]) (l₂ := F)).cons _⟩⟩
            · simp [List.flatMap_append]
            · simp [hrest]; omega
end Go.Proofs.YtdajglfbbcbgpaaDoor
