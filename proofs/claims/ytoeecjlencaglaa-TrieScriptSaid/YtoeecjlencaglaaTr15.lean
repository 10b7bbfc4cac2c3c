/- TrieScript as its row asks it. -/
import Derived.Test.YtoeecjlencaglaaTr14
set_option linter.unusedVariables false
namespace Go.Proofs.Ytoeecjlencaglaa
open Go.Px

def act16P (b : Nat) (x : A16) : Nat × Obj := (b, .cells #[.int .u8 x.1, .int .u16 x.2.1, .int .u8 x.2.2.1, .int .i64 x.2.2.2] 57 (0, 0))
theorem Same16.cell {I : IMem} {tb r B : Nat} {T X : SH} {M : List Bool → Option Int} (h : Same16 tb r B T X M) {a : Addr} {v : Value} (hc : ∀ L, Cell I (L ++ X) a v) : Cell I T a v := by
  obtain ⟨t, own, es, clock, ho, h1, h2, h3, h4, hm, hs⟩ := h.ex
  exact Sub.cell' hs (hc ((r, .map es clock) :: own))
theorem Same16.nox {tb r B : Nat} {T X : SH} {M : List Bool → Option Int} (h : Same16 tb r B T X M) : Same16 tb r B T [] M := by
  obtain ⟨t, own, es, clock, ho, h1, h2, h3, h4, hm, hs⟩ := h.ex
  refine ⟨⟨t, own, es, clock, ho, h1, h2, h3, h4, hm, ?_⟩⟩
  rw [List.append_nil]
  exact Sub.left (L := (r, .map es clock) :: own) (M := X) hs
theorem Same16.more {tb r B : Nat} {T : SH} {M : List Bool → Option Int} (h : Same16 tb r B T [] M) (p : Nat × Obj) : Same16 tb r B (p :: T) [p] M := by
  obtain ⟨t, own, es, clock, ho, h1, h2, h3, h4, hm, hs⟩ := h.ex
  refine ⟨⟨t, own, es, clock, ho, h1, h2, h3, h4, hm, ?_⟩⟩
  rw [List.append_nil] at hs
  exact (hs.cons p).perm (List.perm_append_singleton p ((r, .map es clock) :: own)).symm
/-- the counts, and what a probe finds -/
theorem Same16.counts {tb r B : Nat} {T : SH} {M : List Bool → Option Int} (h : Same16 tb r B T [] M) (hB : B ≤ 1152921504606846976) (I : IMem) (K : Bool → IMem → SH → Prop)
    (hK : ∀ J T', I.le J → Same16 tb r B T' [] M → K false J T') :
    Runs Try.prog 19 #[.pointer (some ⟨tb, 0, none⟩)] I T fun v I1 S1 => ∃ x90, v = .int .i64 x90 ∧ ∃ x92 : Nat, MapLen I1 S1 (some r) x92 ∧
      bcase (x90 != (x92 : Int)) (K true I1 S1)
        (Runs Try.prog 28 #[.pointer (some ⟨tb, 0, none⟩)] I1 S1 fun v' I1' S1' => ∃ x97, v' = .int .i64 x97 ∧
          Runs Try.prog 19 #[.pointer (some ⟨tb, 0, none⟩)] I1' S1' fun v'' I1'' S1'' => ∃ x99, v'' = .int .i64 x99 ∧ K (decide (x97 > (IntKind.wrap .i64 ((2 : Int) * x99)))) I1'' S1'') := by
  obtain ⟨t, own, es, clock, ho, h1, h2, h3, h4, hm, hs⟩ := h.ex
  rw [List.append_nil] at hs
  have hn := (Sh.nodes_le t h1).1
  refine Runs.use (hs.perm (List.perm_append_singleton _ own).symm) (Len_runs tb t own ho I [_]) ?_
  rintro _ J1 T1 hle1 ⟨rfl, rfl⟩
  have hsub : Sub ((r, .map es clock) :: (own ++ [])) (own ++ [(r, Obj.map es clock)]) := ⟨[], by simp only [List.append_nil]; exact List.perm_append_singleton _ own⟩
  refine ⟨_, rfl, t.cnt, MapLen.of hsub hm, bcase_bne (fun h => absurd rfl h) (fun _ => ?_)⟩
  refine (Nodes_runs tb t (by omega) own ho J1 _).mono ?_
  rintro _ J2 T2 hle2 ⟨rfl, rfl⟩
  refine ⟨_, rfl, (Len_runs tb t own ho J2 _).mono ?_⟩
  rintro _ J3 T3 hle3 ⟨rfl, rfl⟩
  refine ⟨_, rfl, ?_⟩
  rw [wrap_i64 (by omega) (by omega), show decide (((t.nodes : Nat) : Int) > 2 * ((t.cnt : Nat) : Int)) = false by rw [decide_eq_false_iff_not]; omega]
  exact hK J3 _ ((hle1.trans hle2).trans hle3) ⟨⟨t, own, es, clock, ho, h1, h2, h3, h4, hm, hsub⟩⟩
theorem Same16.probe {tb r B : Nat} {T : SH} {M : List Bool → Option Int} (h : Same16 tb r B T [] M) (k : List Bool) (hk : k.length ≤ 128) (I : IMem) :
    Runs Try.prog 18 #[.pointer (some ⟨tb, 0, none⟩), .string (eb k)] I T fun x J T' => ∃ res, x = .tuple (encL res) ∧ I.le J ∧ Same16 tb r B T' [] M ∧
      ∀ J', Runs Try.prog 31 #[.map (some r), .string (eb k)] J' T' fun y J2 T2 => y = .tuple (encL res) ∧ Same16 tb r B T2 [] M := by
  obtain ⟨t, own, es, clock, ho, h1, h2, h3, h4, hm, hs⟩ := h.ex
  rw [List.append_nil] at hs
  refine Runs.use (hs.perm (List.perm_append_singleton _ own).symm) (Longest_runs tb t own ho k hk I [_]) ?_
  rintro _ J1 T1 hle1 ⟨rfl, rfl⟩
  have hsub : Sub ((r, .map es clock) :: (own ++ [])) (own ++ [(r, Obj.map es clock)]) := ⟨[], by simp only [List.append_nil]; exact List.perm_append_singleton _ own⟩
  have hsame : Same16 tb r B (own ++ [(r, Obj.map es clock)]) [] M := ⟨⟨t, own, es, clock, ho, h1, h2, h3, h4, hm, hsub⟩⟩
  refine ⟨_, rfl, hle1, hsame, fun J' => (longest_runs J' _ (MpC.of_sub hsub) hm k hk).mono ?_⟩
  rintro _ J2 T2 _ ⟨⟨res, hres, rfl⟩, rfl⟩
  have hf : t.find = M := funext h4
  rw [IsL.unique hres (hf ▸ IsL.of h1 k)]
  exact ⟨rfl, hsame⟩
end Go.Proofs.Ytoeecjlencaglaa
