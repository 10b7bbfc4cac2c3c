/- The document's examples of deltas; what goes and what comes between two zones; a delta in memory. -/
import Derived.Test.YtdajglfbbcbgpaaDoorYa5
import Derived.Test.YtdajglfbbcbgpaaDoorEr2
namespace Go.Proofs.YtdajglfbbcbgpaaDoor
open Go.Px
set_option linter.unusedVariables false

theorem Has2_runs {zs : List Rc} {a : Option Addr} {c : Nat} {r : Rc} {I : IMem} {S : SH} (hx : RowIn I S a zs.length 4 encR zs) (hl : zs.length ≤ 1000000) (hz : SS zs) :
    Runs Tryd.prog 14 #[.slice a zs.length c, vR r] I S fun v _ T => v = .bool (has zs r) ∧ T = S := by
  refine (Has_runs (r := r) hx (by omega) (hz.mono r)).mono ?_
  rintro v J T hle ⟨⟨k, f, rfl, hb, hf⟩, rfl⟩
  refine ⟨?_, rfl⟩
  have : f = has zs r := Bool.eq_iff_iff.2 (by rw [hf, has_iff, mem_at hz hb])
  rw [this]
def lessF (a b : List Rc) : List Rc := a.filter fun x => !has b x
theorem mem_less {a b : List Rc} {x : Rc} : x ∈ lessF a b ↔ x ∈ a ∧ x ∉ b := by
  unfold lessF
  rw [List.mem_filter, Bool.not_eq_true', has_false]
theorem less_len (a b : List Rc) : (lessF a b).length ≤ a.length := List.length_filter_le _ _
theorem less_snoc {xs b : List Rc} {k : Nat} {x : Rc} (h : xs[k]? = some x) : lessF (xs.take (k + 1)) b = lessF (xs.take k) b ++ (if has b x then [] else [x]) := by
  unfold lessF
  rw [take_snoc h, List.filter_append]
  congr 1
  cases hp : has b x <;> simp [List.filter, hp]
theorem SS.less {a : List Rc} (h : SS a) (b : List Rc) : SS (lessF a b) := h.sublist List.filter_sublist
/-! ### the document's examples -/
theorem soa_soa (o : ByteArray) (n : Int) : isSoa (soaR o n) = true := rfl
theorem has_self (r : Rc) : has [r] r = true := has_iff.2 (List.mem_singleton.2 rfl)
theorem without_self (r : Rc) : without [r] r = [] := by
  have := recB_iff.2 (rfl : r = r)
  simp [without, List.filter, this]
theorem insR_nil (r : Rc) : insR [] r = [r] := rfl
theorem del_first (r : Rc) : delO (some [r]) r = some [] := by
  show (if has [r] r then _ else _) = _
  rw [has_self, if_pos rfl, without_self]
theorem find_one {r : Rc} (h : isSoa r = true) : [r].find? isSoa = some r := by simp [List.find?, h]
theorem ex_missing (o : ByteArray) (n m : Int) (t : Rc) : deltaF [soaR o n] (soaR o n) (soaR o m) [t] [] = (some 6, []) := by
  rw [deltaF, if_pos (find_one (soa_soa o n)), List.foldl_cons, del_first]; rfl
theorem ex_fine (o : ByteArray) (n m : Int) : deltaF [soaR o n] (soaR o n) (soaR o m) [] [] = (none, [soaR o m]) := by
  rw [deltaF, if_pos (find_one (soa_soa o n)), List.foldl_cons, del_first]; rfl
theorem one_SS (r : Rc) : SS [r] := List.pairwise_singleton _ _
theorem awake10_runs {I : IMem} {S : SH} (hg : Cell I [] ⟨0, 0, none⟩ hErr) : Runs Tryd.prog 18 #[] I S fun v _ T => v = .bool true ∧ T = S := by
  refine Runs.drop (bolterlaw10_awake_fn _ _ _ ?_)
  unfold bolterlaw10_awake
  refine (SoaAt_runs _ _ I S).mono ?_
  rintro v J S hle ⟨rfl, rfl⟩
  refine ⟨_, _, _, _, rfl, fun b7 => ?_⟩
  have hq : ∀ (n : Int) (J' : IMem) (T' S' : SH), Runs Tryd.prog 21 #[.string ⟨#[]⟩, .int .u32 n] J' (T' ++ S') (fun v' _ T => v' = .agg #[.string (soaR ⟨#[]⟩ n).1, .int .u16 (soaR ⟨#[]⟩ n).2.1, .int .u32 (soaR ⟨#[]⟩ n).2.2.1, .string (soaR ⟨#[]⟩ n).2.2.2] ∧ T = T' ++ S') := fun n J' T' S' => SoaAt_runs _ _ _ _
  have hq' : ∀ (n : Int) (J' : IMem) (S' : SH), Runs Tryd.prog 21 #[.string ⟨#[]⟩, .int .u32 n] J' S' (fun v' _ T => v' = .agg #[.string (soaR ⟨#[]⟩ n).1, .int .u16 (soaR ⟨#[]⟩ n).2.1, .int .u32 (soaR ⟨#[]⟩ n).2.2.1, .string (soaR ⟨#[]⟩ n).2.2.2] ∧ T = S') := fun n J' S' => SoaAt_runs _ _ _ _
  generalize hs1 : soaR ⟨#[]⟩ 1 = s1
  have hex1 := fun t => ex_missing ⟨#[]⟩ 1 2 t
  have hex2 := ex_fine ⟨#[]⟩ 1 2
  rw [hs1] at hex1 hex2
  generalize hB : ((b7, Obj.cells #[.string s1.1, .int .u16 s1.2.1, .int .u32 s1.2.2.1, .string s1.2.2.2] 36 (0, 0)) :: S) = B
  have hSB : Sub S B := hB ▸ (Sub.refl S).skip _
  have hrow : ∀ {J' : IMem} {T' : SH}, Sub B T' → RowIn J' T' (some ⟨b7, 0, none⟩) 1 4 encR [s1] := fun h => RowIn.sub h (hB ▸ row_one s1)
  have cB : ∀ {J' : IMem} {T' : SH} {o : Nat} {v : Value}, Sub B T' → (encR s1)[o]? = some v → Cell J' T' ⟨b7, o, none⟩ v := fun h hj => Sub.cell' h (by rw [← hB]; exact Cell.at0 (by show (encR s1).toArray[_]? = _; rw [List.getElem?_toArray]; exact hj))
  unfold bolterlaw10_awake_b1
  refine ⟨by omega, by omega, _, cB (Sub.refl _) rfl, _, cB (Sub.refl _) rfl, _, cB (Sub.refl _) rfl, _, cB (Sub.refl _) rfl, _, _, _, _, fun J' T' h => hq 2 J' T' _, fun b15 => ⟨((Sub.refl _).skip _).keep (IMem.le.refl _), ?_⟩⟩
  have hsk : ∀ x, Sub B (x :: B) := fun x => (Sub.refl B).skip x
  refine (Delta_runs (zs := [s1]) (gs := [(⟨#[]⟩, 16, 0, ⟨#[1, 120]⟩)]) (ns := []) (src := s1) (dst := soaR ⟨#[]⟩ 2) (hrow (hsk _)) (one_SS s1) (by simp) (row_one (⟨#[]⟩, 16, 0, ⟨#[1, 120]⟩)) (by simp) row_nil (by simp)).mono ?_
  rintro v J1 T1 hle1 ⟨p, n, d, own, rfl, ho, hs⟩
  rw [hex1]
  have hB1 : Sub B T1 := hs.right.drop
  refine ⟨_, _, _, _, rfl, ?_⟩
  unfold bolterlaw10_awake_b2
  refine ⟨by omega, by omega, _, cB hB1 rfl, _, cB hB1 rfl, _, cB hB1 rfl, _, cB hB1 rfl, _, _, _, _, fun J' T' h => hq 2 J' T' _, ?_⟩
  refine (Delta_runs (zs := [s1]) (gs := []) (ns := []) (src := s1) (dst := soaR ⟨#[]⟩ 2) (hrow hB1) (one_SS s1) (by simp) row_nil (by simp) row_nil (by simp)).mono ?_
  rintro v J2 T2 hle2 ⟨p2, n2, d2, own2, rfl, ho2, hs2⟩
  rw [hex2] at ho2 ⊢
  have hn2 := ho2.len
  subst hn2
  refine ⟨_, _, _, _, rfl, ?_⟩
  unfold bolterlaw10_awake_b3 bolterlaw10_awake_b4
  have hgJ : Cell J2 [] ⟨0, 0, none⟩ hErr := Cell.le ((hle.trans hle1).trans hle2) hg
  refine ⟨_, Number_runs (some 6) hgJ, bcase_t rfl ⟨true, rfl, bcase_t rfl (bcase_t rfl ?_)⟩⟩
  obtain ⟨a', rfl, hc⟩ := ((ho2.row encR_len (I := J2)).sub hs2.left).cell (i := 0) rfl
  obtain ⟨c0, c1, c2, c3⟩ := CellsR hc
  refine ⟨by omega, by simp, _, c0, _, c1, _, c2, _, c3, _, _, _, _, hq' 2 J2 T2, S, hSB.trans (hB1.trans hs2.right), ?_, rfl⟩
  have := recEq.2 (rfl : soaR ⟨#[]⟩ 2 = soaR ⟨#[]⟩ 2)
  rw [this]
end Go.Proofs.YtdajglfbbcbgpaaDoor
