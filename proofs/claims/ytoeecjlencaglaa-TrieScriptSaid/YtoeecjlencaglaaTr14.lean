/- TrieScript as its row asks it. -/
import Derived.Test.YtoeecjlencaglaaT3
import Derived.Test.YtoeecjlencaglaaTr11
import Derived.Test.YtoeecjlencaglaaPx10
set_option linter.unusedVariables false
namespace Go.Proofs.Ytoeecjlencaglaa
open Go.Px

abbrev ek16 (k : List Bool) : Value := .string (eb k)
abbrev iw16 (v : Int) : Value := .int .i64 v
theorem key16_ok : KeyOK .string ek16 := fun a b => by
  show some (eb a == eb b) = _
  congr 1
  by_cases h : a = b
  · rw [decide_eq_true h, ba_beq.2 (by rw [h])]
  · rw [decide_eq_false h]
    cases hb : (eb a == eb b)
    · rfl
    · exact absurd (eb_inj (ba_beq.1 hb)) h
theorem IsL.unique {f : List Bool → Option Int} {k : List Bool} {a b : Option (Int × Nat)} (ha : IsL f k a) (hb : IsL f k b) : a = b := by
  cases a with
  | none =>
    cases b with
    | none => rfl
    | some q => obtain ⟨v, n⟩ := q; obtain ⟨h1, h2, _⟩ := hb.yes v n rfl; rw [ha.no rfl n h1] at h2; cases h2
  | some p =>
    obtain ⟨u, m⟩ := p
    obtain ⟨g1, g2, g3⟩ := ha.yes u m rfl
    cases b with
    | none => rw [hb.no rfl m g1] at g2; cases g2
    | some q =>
      obtain ⟨v, n⟩ := q
      obtain ⟨h1, h2, h3⟩ := hb.yes v n rfl
      have : m = n := by
        rcases Nat.lt_trichotomy m n with h | h | h
        · rw [g3 n h h1] at h2; cases h2
        · exact h
        · rw [h3 m h g1] at g2; cases g2
      subst this
      rw [g2] at h2; injection h2 with h2; rw [h2]
structure Same16 (tb r B : Nat) (T : SH) (X : SH) (M : List Bool → Option Int) : Prop where
  ex : ∃ (t : Sh) (own : SH) (es : Array MapEntry) (clock : Nat), TriO tb t own ∧ t.wf ∧ t.len ≤ 13 ∧ t.cnt ≤ B ∧ (∀ k, t.find k = M k) ∧ MpI ek16 iw16 es M t.cnt ∧ Sub ((r, .map es clock) :: (own ++ X)) T
theorem MapAt.of16 {I : IMem} {T : SH} {r clock : Nat} {es : Array MapEntry} {M : List Bool → Option Int} {n : Nat} (hc : MpC I T r es clock) (hm : MpI ek16 iw16 es M n) (k : List Bool) :
    MapAt I T (some r) .string (.string (eb k)) (.int .i64 0) (.int .i64 ((M k).getD 0)) (M k).isSome := by
  have := MapAt.of (ew := iw16) key16_ok hc hm k (.int .i64 0)
  revert this
  cases M k <;> exact id
theorem Same16.at {I : IMem} {tb r B : Nat} {T X : SH} {M : List Bool → Option Int} (h : Same16 tb r B T X M) (k : List Bool) : MapAt I T (some r) .string (.string (eb k)) (.int .i64 0) (.int .i64 ((M k).getD 0)) (M k).isSome := by
  obtain ⟨t, own, es, clock, ho, h1, h2, h3, h4, hm, hs⟩ := h.ex
  exact MapAt.of16 (MpC.of_sub hs) hm k
theorem longest_runs {r clock : Nat} {es : Array MapEntry} {M : List Bool → Option Int} {n : Nat} (I : IMem) (T : SH) (hc : MpC I T r es clock) (hm : MpI ek16 iw16 es M n) (k : List Bool) (hk : k.length ≤ 128) :
    Runs Try.prog 31 #[.map (some r), .string (eb k)] I T fun x J T' => (∃ res, IsL M k res ∧ x = .tuple (encL res)) ∧ T' = T := by
  refine bolterlaw16_longest_fn _ _ _ _ _ ?_
  refine ⟨fun m h' k' j J T' => h' = some r ∧ k' = eb k ∧ I.le J ∧ T' = T ∧ j = (m : Int) - 1 ∧ m ≤ k.length + 1 ∧ ∀ q, m ≤ q → q ≤ k.length → M (k.take q) = none, k.length + 1, ⟨rfl, rfl, IMem.le.refl I, rfl, by rw [eb_size]; omega, Nat.le_refl _, fun q h1 h2 => by omega⟩, ?_⟩
  rintro m h' k' j J T' _ ⟨h1, h2, hle, h3, h4, h5, h6⟩
  subst h1 h2 h3 h4
  have hc' : MpC J T' r es clock := hc.imp (fun h => hle.at_ _ _ h) id
  refine bcase_dec (fun hge => ?_) (fun hlt => ?_)
  · refine ⟨by omega, by rw [eb_size]; omega, ?_⟩
    rw [eb_extract, List.drop_zero, show ((m : Int) - 1).toNat = m - 1 by omega]
    refine ⟨_, _, MapAt.of16 hc' hm (k.take (m - 1)), bcase_of (fun ht => ?_) (fun hf => ?_)⟩
    · obtain ⟨v, hv⟩ := Option.isSome_iff_exists.1 ht
      refine ⟨⟨some (v, m - 1), ⟨(fun h => by cases h), fun v' n' h => ?_⟩, ?_⟩, rfl⟩
      · injection h with h; injection h with e1 e2; subst e1; subst e2
        exact ⟨by omega, hv, fun q g1 g2 => h6 q (by omega) g2⟩
      · rw [hv]
        show Value.tuple _ = .tuple #[.int .i64 v, .int .i64 ((m - 1 : Nat) : Int), .bool true]
        rw [show ((m - 1 : Nat) : Int) = (m : Int) - 1 by omega]; rfl
    · have hnone : M (k.take (m - 1)) = none := by simpa using hf
      refine ⟨m - 1, by omega, rfl, rfl, hle, rfl, by rw [wrap_i64 (by omega) (by omega)]; omega, by omega, fun q g1 g2 => ?_⟩
      by_cases hq : q = m - 1
      · rw [hq]; exact hnone
      · exact h6 q (by omega) g2
  · exact ⟨⟨none, ⟨fun _ q hq => h6 q (by omega) hq, (fun v' n' h => by cases h)⟩, rfl⟩, rfl⟩
theorem Same16.get {tb r B : Nat} {T X : SH} {M : List Bool → Option Int} (h : Same16 tb r B T X M) (k : List Bool) (hk : k.length ≤ 128) (I : IMem) :
    Runs Try.prog 30 #[.pointer (some ⟨tb, 0, none⟩), .string (eb k)] I T fun w J T' => w = .tuple #[.int .i64 ((M k).getD 0), .bool (M k).isSome] ∧ Same16 tb r B T' X M := by
  obtain ⟨t, own, es, clock, ho, h1, h2, h3, h4, hm, hs⟩ := h.ex
  refine Runs.use (hs.perm (List.perm_middle (l₁ := own) (l₂ := X)).symm) (Get_runs tb t h1 own ho k hk I _) ?_
  rintro _ J T' hle ⟨rfl, rfl⟩
  rw [h4 k]
  exact ⟨rfl, ⟨t, own, es, clock, ho, h1, h2, h3, h4, hm, ⟨[], by rw [List.append_nil]; exact List.perm_middle⟩⟩⟩
theorem Same16.put {tb r B : Nat} {T X : SH} {M : List Bool → Option Int} (h : Same16 tb r B T X M) (hB : B ≤ 4611686018427387904) (k : List Bool) (hk : k.length ≤ 13) (v : Int) (I : IMem) :
    Runs Try.prog 17 #[.pointer (some ⟨tb, 0, none⟩), .string (eb k), .int .i64 v] I T fun w J T' => w = .bool (M k).isNone ∧
      (∀ a v, (∀ L, Cell J (L ++ X) a v) → Cell J T' a v) ∧ ∀ K : SH → Prop, (∀ T2, Same16 tb r (B + 1) T2 X (fput M k v) → K T2) → MapSt T' (some r) .string (.string (eb k)) (.int .i64 v) K := by
  obtain ⟨t, own, es, clock, ho, h1, h2, h3, h4, hm, hs⟩ := h.ex
  refine Runs.use (hs.perm (List.perm_middle (l₁ := own) (l₂ := X)).symm) (Put_runs tb t h1 (by omega) own ho k (by omega) v I _) ?_
  rintro _ J T' hle ⟨rfl, own', ho', rfl⟩
  have hc := Sh.put_cnt t k v h1
  have hl := Sh.put_len t k v
  rw [h4 k] at hc ⊢
  refine ⟨rfl, fun a v hc => by have := hc (own' ++ [(r, .map es clock)]); rwa [List.append_assoc] at this, fun K hK => ?_⟩
  refine MapSt.of (ew := iw16) key16_ok (L := own' ++ X) ⟨[], by rw [List.append_nil]; exact List.perm_middle⟩ hm k v (fun es' clock' T2 hm' hs' => hK T2 ⟨⟨t.put k v, own', es', clock', ho', Sh.put_wf _ _ _ h1, by omega, by split at hc <;> omega, fun x => ?_, by rw [hc]; exact hm', hs'⟩⟩)
  rw [Sh.put_find t k v x h1, h4]; rfl
theorem Same16.del {tb r B : Nat} {T X : SH} {M : List Bool → Option Int} (h : Same16 tb r B T X M) (hB : B ≤ 4611686018427387904) (k : List Bool) (hk : k.length ≤ 13) (I : IMem) :
    Runs Try.prog 29 #[.pointer (some ⟨tb, 0, none⟩), .string (eb k)] I T fun w J T' => w = .bool (M k).isSome ∧
      ∀ K : SH → Prop, (∀ T2, Same16 tb r (B + 1) T2 X (fdel M k) → K T2) → MapDl T' (some r) .string (.string (eb k)) K := by
  obtain ⟨t, own, es, clock, ho, h1, h2, h3, h4, hm, hs⟩ := h.ex
  refine Runs.use (hs.perm (List.perm_middle (l₁ := own) (l₂ := X)).symm) (Del_runs tb t h1 (by omega) (by omega) own ho k (by omega) I _) ?_
  rintro _ J T' hle ⟨rfl, own', ho', rfl⟩
  rw [h4 k] at ho' ⊢
  refine ⟨rfl, fun K hK => ?_⟩
  refine MapDl.of (ew := iw16) key16_ok (L := own' ++ X) ⟨[], by rw [List.append_nil]; exact List.perm_middle⟩ hm k (fun es' T2 hm' hs' => hK T2 ?_)
  cases hM : M k with
  | none =>
    rw [hM] at ho' hm'
    refine ⟨⟨t, own', es', clock, ho', h1, h2, by omega, fun x => ?_, hm', hs'⟩⟩
    simp only [fdel]; split
    · rename_i e; rw [h4, e, hM]
    · exact h4 x
  | some v =>
    rw [hM] at ho' hm'
    have hne : t.find k ≠ none := by rw [h4, hM]; exact fun h => by cases h
    have hcnt := Sh.del_cnt t k hne
    refine ⟨⟨t.del k, own', es', clock, ho', Sh.del_wf _ _ h1, Nat.le_trans (Sh.del_len _ _) h2, by omega, fun x => ?_, ?_, hs'⟩⟩
    · rw [Sh.del_find t k h1 hne x, h4]; rfl
    · rw [show (t.del k).cnt = t.cnt - 1 by omega]; exact hm'
end Go.Proofs.Ytoeecjlencaglaa
