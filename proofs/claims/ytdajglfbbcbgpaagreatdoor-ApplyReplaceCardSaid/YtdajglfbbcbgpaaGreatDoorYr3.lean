/- ApplyReplace. -/
import Derived.Test.YtdajglfbbcbgpaaGreatDoorYr2
import Derived.Test.YtdajglfbbcbgpaaGreatDoorYa6
namespace Go.Proofs.YtdajglfbbcbgpaaGreatDoor
open Go.Px
set_option linter.unusedVariables false
set_option linter.unusedSimpArgs false

theorem rep_tail {xs : List Rc} {o : ByteArray} {p : Option Addr} {d : Nat} {own : SH} {I : IMem} {S L : SH} (hg : Cell I [] ⟨0, 0, none⟩ hErr) (ho : OwnZ (.slice p xs.length d) xs own) (hs : Sub (own ++ L) S) (hl : xs.length ≤ 1000) (hsm : ∀ r ∈ xs, SmallR r) :
    bolterlaw10_ApplyReplace_b1 (fun v _ _ => v = .bool true) o p xs.length d I S := by
  unfold bolterlaw10_ApplyReplace_b1
  have hrow : ∀ {J : IMem} {T : SH}, Sub S T → RowIn J T p xs.length 4 encR xs := fun h => (ho.row encR_len).sub (hs.left.trans h)
  refine (Sorted_runs (hrow (J := I) (Sub.refl S)) (by omega)).mono ?_
  rintro v J1 T1 hle1 ⟨own2, ho2, hs2⟩
  obtain ⟨p2, d2, rfl⟩ := ho2.slice
  have hlen := sortR_len xs
  refine ⟨_, _, _, rfl, (Replace_runs (o := o) (hrow (J := J1) hs2.right) (by omega) hsm).mono ?_⟩
  rintro v J2 T2 hle2 ⟨p3, n3, d3, own3, rfl, ho3, hs3⟩
  have hn3 := ho3.len
  subst hn3
  refine ⟨_, _, _, _, rfl, ?_⟩
  have hsm2 : ∀ r ∈ sortR xs, SmallR r := fun r hr => hsm r (sortR_mem hr)
  have row2 : ∀ {J : IMem} {T : SH}, Sub T2 T → RowIn J T p2 (sortR xs).length 4 encR (sortR xs) := fun h => (ho2.row encR_len).sub ((hs2.left.trans hs3.right).trans h)
  refine (lchecked_runs (o := o) (row2 (J := J2) (Sub.refl _)) (by omega) hsm2).mono ?_
  rintro v J3 T3 hle3 ⟨rfl, rfl⟩
  refine ⟨_, rfl, ?_⟩
  have hgJ : Cell J3 [] ⟨0, 0, none⟩ hErr := Cell.le ((hle1.trans hle2).trans hle3) hg
  refine bcase_bne (fun h => ?_) (fun h => ?_)
  · have hnd : ¬ (msR xs).Nodup := fun hn => h (by rw [msR_eq hn, msR_len])
    rw [rep_twice hnd] at ho3 ⊢
    unfold bolterlaw10_ApplyReplace_b2 bolterlaw10_ApplyReplace_b3 bolterlaw10_ApplyReplace_b4
    refine bcase_t rfl (bcase_t rfl ((Number_runs (some 7) hgJ).mono ?_))
    rintro v J4 T4 hle4 ⟨rfl, rfl⟩
    exact ⟨_, rfl, rfl⟩
  · have hnd := sortR_less (rs := xs) (by omega)
    have heq := msR_eq hnd
    unfold bolterlaw10_ApplyReplace_b2 bolterlaw10_ApplyReplace_b3 bolterlaw10_ApplyReplace_b4 bolterlaw10_ApplyReplace_b5 bolterlaw10_ApplyReplace_b6
    refine bcase_bne (fun g => ?_) (fun g => ?_)
    · rw [heq] at g ⊢
      rw [rep_bad hnd g] at ho3 ⊢
      refine bcase_t rfl ((Number_runs (some (chkF (msR xs) o)) hgJ).mono ?_)
      rintro v J4 T4 hle4 ⟨rfl, rfl⟩
      exact ⟨_, rfl, by simp⟩
    · rw [heq] at g
      rw [rep_ok hnd g] at ho3 ⊢
      refine ⟨true, rfl, bcase_t rfl ((Same_runs (((ho3.row encR_len (I := J3)).sub hs3.left)) (row2 (J := J3) (Sub.refl _)) (by have := msR_len xs; show (msR xs).length ≤ _; omega)).mono ?_)⟩
      rintro v J4 T4 hle4 ⟨⟨f, rfl, hf⟩, rfl⟩
      exact ⟨_, rfl, by rw [hf.2 heq.symm]⟩
theorem ApplyReplace_row (W : World) (hg : W.cell? ⟨0, 0, none⟩ = some hErr) (o : Int) (a1 : Option Addr) (l1 c1 : Nat) (soa : Int)
    (w0 : (Lit.int .u8 o).wf = true) (w1 : ActsW W a1 l1 c1) (z1 : l1 ≤ 140737488355328) (w2 : (Lit.int .u8 soa).wf = true) :
    Runs Tryz.prog 3 #[.int .u8 o, .slice a1 l1 c1, .int .u8 soa] (imW W) [] fun v _ _ => v = .bool true := by
  obtain ⟨acts, rfl, hr1, hl1, hok1⟩ := acts_of w1
  obtain ⟨rs, hrs⟩ := recs_of hok1
  have ho := u8_of w0
  have hg0 : Cell (imW W) [] ⟨0, 0, none⟩ hErr := cell_im hg
  have hk : ∀ {J : IMem} {T : SH}, (imW W).le J → Keep (imW W) [] J T := fun {J T} h => ⟨h, T, by simp⟩
  refine bolterlaw10_ApplyReplace_fn _ _ _ _ _ _ _ _ ?_
  unfold bolterlaw10_ApplyReplace
  refine (awake10_runs hg0).mono ?_
  rintro v J1 T1 hle1 ⟨rfl, rfl⟩
  refine ⟨_, rfl, bcase_f rfl ?_⟩
  refine (Origin_runs o ho.1 _ _).mono ?_
  rintro v J2 T2 hle2 ⟨rfl, rfl⟩
  have hosz := origN_size o
  have hon := origN_name o
  generalize origN o = org at hosz hon
  refine ⟨_, rfl, ?_⟩
  have hle02 := hle1.trans hle2
  generalize hse : (soa.tmod 4 == 3) = soas
  refine (Under_runs (most := 40) (o := org) (soas := soas) (rs := rs) (hr1.keep (hk hle02)) hl1 (by omega) (hrs.keep (hk hle02)) (by omega)).mono ?_
  rintro v J3 T3 hle3 ⟨own, hz, hs3⟩
  have hnum := hrs.num
  have hsm : ∀ r ∈ (rs.take 40).map (underR soas org), SmallR r := fun r hr => by
    obtain ⟨x, hx, rfl⟩ := List.mem_map.1 hr
    exact (ZOK.under soas hon (hnum x (List.mem_of_mem_take hx))).small
  have hlen : ((rs.take 40).map (underR soas org)).length ≤ 40 := by rw [List.length_map, List.length_take]; omega
  generalize (rs.take 40).map (underR soas org) = xs at hz hsm hlen
  obtain ⟨p, d, rfl⟩ := hz.slice
  have hle03 := hle02.trans hle3
  refine ⟨_, _, _, rfl, bcase_of (fun h => ?_) (fun h => ?_)⟩
  · refine (SoaAt_runs _ _ _ _).mono ?_
    rintro v J4 T4 hle4 ⟨rfl, rfl⟩
    refine ⟨_, _, _, _, rfl, fun b29 => AppZ (r := soaR org 5) (F := []) hs3 hz (by omega) ?_⟩
    intro p' n' d' own' T5 ho5 hs5
    have hn := ho5.len
    subst hn
    refine rep_tail (L := []) (Cell.le (hle03.trans hle4) hg0) ho5 ?_ (by rw [List.length_append, List.length_singleton]; omega) ?_
    · exact hs5
    · intro r hr
      rcases List.mem_append.1 hr with hr | hr
      · exact hsm r hr
      · rw [List.mem_singleton.1 hr]; exact (ZOK.soa 5 hon).small
  · exact rep_tail (L := []) (Cell.le hle03 hg0) hz hs3 (by omega) hsm
end Go.Proofs.YtdajglfbbcbgpaaGreatDoor
