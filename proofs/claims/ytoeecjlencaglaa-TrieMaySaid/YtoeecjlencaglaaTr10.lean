/- TrieMay as its row asks it. -/
import Derived.Test.YtoeecjlencaglaaTr9
set_option linter.unusedVariables false
namespace Go.Proofs.Ytoeecjlencaglaa
open Go.Px

theorem TrieMay_end {R : Value → IMem → SH → Prop} (s : ByteArray) (hs : s.size ≤ 140737488351232) (value : Int) (is : Bool) (his : is = true ↔ signs s ∧ s.size ≤ 128) (J : IMem) (T : SH) (hR : ∀ J T, R (.bool true) J T) : bolterlaw16_TrieMay_b5 R s value is J T := by
  intro tb
  cases is with
  | true =>
    obtain ⟨hsg, hsz⟩ := his.1 rfl
    obtain ⟨l, rfl⟩ := signs_eb hsg
    rw [eb_size] at hsz
    have hw1 : (Sh.nil.put l value).wf := Sh.put_wf .nil l value trivial
    have q1 : (Sh.nil.put l value) = .node l (some value) .nil .nil := rfl
    have f1 : (Sh.nil.put l value).find l = some value := by rw [Sh.put_nil_find, if_pos rfl]
    have d1 : (Sh.nil.put l value).del l = .nil := by rw [q1, Sh.del, List.drop_length]; rfl
    have c1 : (Sh.nil.put l value).cnt = 1 := by rw [q1]; simp [Sh.cnt]
    have l1 : (Sh.nil.put l value).len = l.length := by rw [q1]; simp [Sh.len]
    have w1 : (Sh.nil.put l value).walk l 0 none = some (value, l.length) := by
      rw [q1, Sh.walk_node, lcp_self, if_neg (by omega), List.drop_length]
      simp [bestOf]
    refine (Put_runs tb .nil trivial (by decide) _ (TriO.new tb) l hsz value J T).mono ?_
    rintro _ J1 T1 _ ⟨rfl, own1, ho1, rfl⟩
    refine ⟨_, rfl, (Get_runs tb _ hw1 own1 ho1 l hsz J1 T).mono ?_⟩
    rintro _ J2 T2 _ ⟨rfl, rfl⟩
    rw [f1]
    refine ⟨_, _, rfl, (Longest_runs tb _ own1 ho1 l hsz J2 T).mono ?_⟩
    rintro _ J3 T3 _ ⟨rfl, rfl⟩
    rw [w1]
    refine ⟨_, _, _, rfl, (Del_runs tb _ hw1 (by omega) (by omega) own1 ho1 l hsz J3 T).mono ?_⟩
    rintro _ J4 T4 _ ⟨rfl, own2, ho2, rfl⟩
    rw [f1] at ho2
    rw [f1]
    replace ho2 : TriO tb .nil own2 := by rw [← d1]; exact ho2
    refine ⟨_, rfl, (May_word l hsz J4 _).mono ?_⟩
    rintro _ J5 T5 _ ⟨rfl, rfl, rfl⟩
    refine ⟨_, rfl, ?_⟩
    show bcase (value == value) _ _
    refine bcase_beq (fun _ => ?_) (fun h => absurd rfl h)
    refine (Len_runs tb _ _ ho2 J5 T).mono ?_
    rintro _ J6 T6 _ ⟨rfl, rfl⟩
    refine ⟨_, rfl, (Nodes_runs tb _ (by decide) _ ho2 J6 T).mono ?_⟩
    rintro _ J7 T7 _ ⟨rfl, rfl⟩
    exact ⟨_, rfl, hR _ _⟩
  | false =>
    have hb : ¬ (signs s ∧ s.size ≤ 128) := fun h => by cases his.2 h
    have hs' : s.size ≤ 4611686018427387904 := by omega
    refine (Put_bad s hs' hb _ value J _).mono ?_
    rintro _ J1 T1 _ ⟨rfl, rfl⟩
    refine ⟨_, rfl, (Get_bad s hs' hb _ J1 _).mono ?_⟩
    rintro _ J2 T2 _ ⟨rfl, rfl⟩
    refine ⟨_, _, rfl, (Longest_bad s hs' hb _ J2 _).mono ?_⟩
    rintro _ J3 T3 _ ⟨rfl, rfl⟩
    refine ⟨_, _, _, rfl, (Del_bad s hs' hb _ J3 _).mono ?_⟩
    rintro _ J4 T4 _ ⟨rfl, rfl⟩
    refine ⟨_, rfl, (May_bad s hs' hb J4 _).mono ?_⟩
    rintro _ J5 T5 _ ⟨rfl, rfl, rfl⟩
    refine ⟨_, rfl, ?_⟩
    refine (Len_runs tb .nil _ (TriO.new tb) J5 T).mono ?_
    rintro _ J6 T6 _ ⟨rfl, rfl⟩
    refine ⟨_, rfl, (Nodes_runs tb .nil (by decide) _ (TriO.new tb) J6 T).mono ?_⟩
    rintro _ J7 T7 _ ⟨rfl, rfl⟩
    exact ⟨_, rfl, hR _ _⟩
theorem TrieMay_row (W : World) (s : ByteArray) (value : Int) (hs : s.size ≤ 140737488351232) (hv : (Lit.int .i64 value).wf = true) : Runs Try.prog 12 #[.string s, .int .i64 value] (imW W) [] fun v _ _ => v = .bool true := by
  refine bolterlaw16_TrieMay_fn _ _ _ _ _ ?_
  refine (awake16_runs _ _).mono ?_
  rintro _ J T _ rfl
  refine ⟨true, rfl, ?_⟩
  refine ⟨fun m s' v' is k J' T' => s' = s ∧ v' = value ∧ ∃ x : Nat, k = (x : Int) ∧ x + m = s.size ∧ (is = true ↔ (∀ (i : Nat) (c : UInt8), i < x → s[i]? = some c → c = 48 ∨ c = 49) ∧ s.size ≤ 128), s.size,
    ⟨rfl, rfl, 0, rfl, by omega, ?_⟩, ?_⟩
  · rw [decide_eq_true_eq]
    exact ⟨fun h => ⟨fun i c h => absurd h (Nat.not_lt_zero _), by omega⟩, fun h => by omega⟩
  rintro m s' v' is k J' T' _ ⟨hs', hv', x, hk, hx, his⟩
  subst hs' hv' hk
  refine bcase_dec (fun hlt => ?_) (fun hge => ?_)
  · obtain ⟨c, hc⟩ : ∃ c, s'[x]? = some c := ⟨_, getElem?_pos s' x (by omega)⟩
    have e48 : ((c.toNat : Int) = 48) ↔ c = 48 := ⟨fun h => UInt8.toNat_inj.1 (by show c.toNat = 48; omega), fun h => by rw [h]; rfl⟩
    have e49 : ((c.toNat : Int) = 49) ↔ c = 49 := ⟨fun h => UInt8.toNat_inj.1 (by show c.toNat = 49; omega), fun h => by rw [h]; rfl⟩
    have step : ∀ is' : Bool, (is' = true ↔ is = true ∧ (c = 48 ∨ c = 49)) → bolterlaw16_TrieMay_b4 (fun s_0 value_1 is_5 k_6 I S => ∃ m', m' < m ∧ s_0 = s' ∧ value_1 = v' ∧ ∃ x : Nat, k_6 = (x : Int) ∧ x + m' = s'.size ∧ (is_5 = true ↔ (∀ (i : Nat) (c : UInt8), i < x → s'[i]? = some c → c = 48 ∨ c = 49) ∧ s'.size ≤ 128)) (fun v _ _ => v = .bool true) s' v' is' x J' T' := fun is' h => by
      refine ⟨m - 1, by omega, rfl, rfl, x + 1, by rw [wrap_i64 (by omega) (by omega)]; rfl, by omega, ?_⟩
      rw [h, his]
      constructor
      · rintro ⟨⟨h1, h2⟩, h3⟩
        refine ⟨fun i c' hi hc' => ?_, h2⟩
        rcases Nat.lt_or_ge i x with g | g
        · exact h1 i c' g hc'
        · obtain rfl : i = x := by omega
          rw [hc] at hc'; injection hc' with hc'; exact hc' ▸ h3
      · rintro ⟨h1, h2⟩
        exact ⟨⟨fun i c' hi => h1 i c' (by omega), h2⟩, h1 x c (by omega) hc⟩
    refine bcase_of (fun ht => ?_) (fun hf => ?_)
    · refine ⟨c, by omega, by simpa using hc, bcase_beq (fun h => ?_) (fun h => ?_)⟩
      · exact step true (by simp [ht, e48.1 h])
      · refine ⟨c, by omega, by simpa using hc, step _ ?_⟩
        rw [beq_iff_eq, e49, ht]
        have h48 : ¬ c = 48 := fun e => h (e48.2 e)
        simp [h48]
    · exact step false (by simp [hf])
  · obtain rfl : x = s'.size := by omega
    refine TrieMay_end s' hs v' is ?_ J' T' (fun _ _ => rfl)
    rw [his]
    exact ⟨fun ⟨h1, h2⟩ => ⟨fun i c hc => h1 i c (by
      rcases Nat.lt_or_ge i s'.size with h | h
      · exact h
      · rw [getElem?_neg s' i (by omega)] at hc; cases hc) hc, h2⟩, fun ⟨h1, h2⟩ => ⟨fun i c _ hc => h1 i c hc, h2⟩⟩
end Go.Proofs.Ytoeecjlencaglaa
