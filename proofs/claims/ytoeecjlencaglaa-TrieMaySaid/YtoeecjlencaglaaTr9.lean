/- TrieWhole and TrieMay as their rows ask them. -/
import Derived.Test.YtoeecjlencaglaaTr8
set_option linter.unusedVariables false
namespace Go.Proofs.Ytoeecjlencaglaa
open Go.Px

theorem lcp_self (a : List Bool) : lcp a a = a.length := by simpa using lcp_append a []
set_option maxRecDepth 4000 in
theorem TrieWhole_row (W : World) (n : Int) (hn : (Lit.int .u8 n).wf = true) : Runs Try.prog 10 #[.int .u8 n] (imW W) [] fun v _ _ => v = .bool true := by
  have h1 : 0 ≤ n ∧ n ≤ 255 := by simpa [Lit.wf, IntKind.min, IntKind.max, IntKind.signed, IntKind.bits] using hn
  obtain ⟨a, rfl⟩ := Int.eq_ofNat_of_zero_le h1.1
  refine bolterlaw16_TrieWhole_fn _ _ _ _ ?_
  refine (awake16_runs _ _).mono ?_
  rintro _ J T _ rfl
  refine ⟨true, rfl, ?_⟩
  intro tb
  have e1 : IntKind.wrap .i64 ((1 : Int) + (IntKind.wrap .i64 ((a : Int).tmod (9 : Int)))) = ((1 + a % 9 : Nat) : Int) := by
    rw [show (a : Int).tmod (9 : Int) = ((a % 9 : Nat) : Int) from rfl, wrap_i64 (x := ((a % 9 : Nat) : Int)) (by omega) (by omega), wrap_i64 (by omega) (by omega)]; rfl
  have hD : 1 ≤ 1 + a % 9 := by omega
  obtain ⟨K, hK⟩ : ∃ K : Nat, K = 128 := ⟨_, rfl⟩
  refine ⟨fun m n' t all k J' T' => n' = (a : Int) ∧ t = some ⟨tb, 0, none⟩ ∧ T' = (tb, .cells #[.pointer none, .int .i64 0] 29 (0, 0)) :: T ∧ ∃ (x : Nat) (l : List Bool), k = (x : Int) ∧ x + m = K ∧ all = eb l ∧ l.length = x, K,
    ⟨rfl, rfl, rfl, 0, [], rfl, by omega, rfl, rfl⟩, ?_⟩
  rintro m n' t all k J' T' _ ⟨hn', ht, hT, x, l, hkx, hx, hall, hl⟩
  subst hn'
  subst ht
  subst hT
  subst hkx
  subst hall
  rw [bolterlaw16_TrieWhole_l3, e1]
  generalize 1 + a % 9 = D at hD
  refine bcase_dec (fun hlt => ?_) (fun hge => ?_)
  · refine bcase_dec (fun h => by omega) (fun _ => ?_)
    have e2 : IntKind.wrap .i64 ((x : Int).tdiv (D : Int)) = ((x / D : Nat) : Int) := by
      have := Nat.div_le_self x D
      rw [show (x : Int).tdiv (D : Int) = ((x / D : Nat) : Int) from rfl]
      generalize x / D = y at this
      rw [wrap_i64 (by omega) (by omega)]
    rw [e2, sign_enc, eb_append]
    refine ⟨by simp [eb_size]; omega, m - 1, by omega, rfl, rfl, rfl, x + 1, _, by rw [wrap_i64 (by omega) (by omega)]; rfl, by omega, rfl, by simp [hl]⟩
  · have hl : l.length = 128 := by omega
    obtain ⟨c, l', rfl⟩ : ∃ c l', l = c :: l' := by cases l with | nil => simp at hl | cons c l' => exact ⟨c, l', rfl⟩
    have hl' := hl
    rw [List.length_cons] at hl'
    have hw1 : (Sh.nil.put (c :: l') 9).wf := Sh.put_wf .nil _ 9 trivial
    have q1 : (Sh.nil.put (c :: l') 9) = .node (c :: l') (some 9) .nil .nil := rfl
    have hw2 : ((Sh.nil.put (c :: l') 9).put [] 4).wf := Sh.put_wf _ [] 4 hw1
    have q2 : ((Sh.nil.put (c :: l') 9).put [] 4) = Sh.sub [] (some 4) c (.node (c :: l') (some 9) .nil .nil) .nil := rfl
    refine (Put_runs tb .nil trivial (by decide) _ (TriO.new tb) (c :: l') (by omega) 9 J' T).mono ?_
    rintro _ J1 T1 _ ⟨rfl, own1, ho1, rfl⟩
    refine ⟨_, rfl, (Longest_runs tb _ _ ho1 (c :: l') (by omega) J1 T).mono ?_⟩
    rintro _ J2 T2 _ ⟨rfl, rfl⟩
    have w1 : (Sh.nil.put (c :: l') 9).walk (c :: l') 0 none = some (9, 128) := by
      rw [q1, Sh.walk_node, lcp_self, if_neg (by omega), List.drop_length]
      simp [bestOf, hl']
    rw [w1]
    refine ⟨_, _, _, rfl, by omega, by rw [eb_size]; omega, ?_⟩
    rw [eb_extract, List.drop_zero, show ((127 : Int).toNat) = 127 from rfl]
    refine (Longest_runs tb _ _ ho1 ((c :: l').take 127) (by rw [List.length_take]; omega) J2 T).mono ?_
    rintro _ J3 T3 _ ⟨rfl, rfl⟩
    have w2 : (Sh.nil.put (c :: l') 9).walk ((c :: l').take 127) 0 none = none := by
      have := (lcp_le (c :: l') ((c :: l').take 127)).2
      rw [List.length_take] at this
      rw [q1, Sh.walk_node, if_pos (by omega)]
    rw [w2]
    refine ⟨_, _, _, rfl, by rw [eb_size]; show ((_ + 1 : Nat) : Int) ≤ _; omega, ?_⟩
    rw [show (⟨#[49]⟩ : ByteArray) = eb [true] from rfl, eb_append]
    refine (Put_bad _ (by rw [eb_size, List.length_append]; simp; omega) (fun h => by have := h.2; rw [eb_size, List.length_append, hl] at this; simp at this) _ 3 J3 (own1 ++ T)).mono ?_
    rintro _ J4 T4 _ ⟨rfl, rfl⟩
    refine ⟨_, rfl, (Put_runs tb _ hw1 (by rw [q1]; simp [Sh.cnt]) _ ho1 [] (by simp) 4 J4 T).mono ?_⟩
    rintro _ J5 T5 _ ⟨rfl, own2, ho2, rfl⟩
    have e3 : ((a : Int).tmod (128 : Int)) = ((a % 128 : Nat) : Int) := rfl
    have hm : a % 128 < 128 := Nat.mod_lt _ (by omega)
    rw [e3]
    generalize a % 128 = q at hm
    refine ⟨_, rfl, by omega, by rw [eb_size, hl]; omega, ?_⟩
    rw [eb_extract, List.drop_zero, show ((q : Nat) : Int).toNat = q by omega]
    refine (Longest_runs tb _ _ ho2 ((c :: l').take q) (by rw [List.length_take]; omega) J5 T).mono ?_
    rintro _ J6 T6 _ ⟨rfl, rfl⟩
    have w3 : ((Sh.nil.put (c :: l') 9).put [] 4).walk ((c :: l').take q) 0 none = some (4, 0) := by
      rw [q2]
      have hlen : ((c :: l').take q).length = q := by rw [List.length_take]; omega
      generalize (c :: l').take q = k at hlen
      have kid : ∀ b rest, k = b :: rest → (Sh.node (c :: l') (some 9) .nil .nil).walk (b :: rest) 0 (some (4, 0)) = some (4, 0) := by
        rintro b rest rfl
        have := (lcp_le (c :: l') (b :: rest)).2
        rw [Sh.walk_node, if_pos (by omega)]
      cases c <;> simp only [Sh.sub, cond_true, cond_false] <;> rw [Sh.walk_node] <;> cases k with
      | nil => rfl
      | cons b rest =>
        have := kid b rest rfl
        cases b <;> first | rfl | exact this
    rw [w3]
    refine ⟨_, _, _, rfl, ?_⟩
    have f1 : (Sh.nil.put (c :: l') 9).find [] = none := by rw [q1]; exact Sh.find_lt (by rw [lcp_nil]; simp)
    rw [f1]
    refine (Len_runs tb _ _ ho2 J6 T).mono ?_
    rintro _ J7 T7 _ ⟨rfl, rfl⟩
    have c2 : ((Sh.nil.put (c :: l') 9).put [] 4).cnt = 2 := by rw [q2, Sh.sub_cnt]; rfl
    have n2 : ((Sh.nil.put (c :: l') 9).put [] 4).nodes = 2 := by rw [q2]; cases c <;> rfl
    rw [c2]
    refine ⟨_, rfl, (Nodes_runs tb _ (by rw [n2]; decide) _ ho2 J7 T).mono ?_⟩
    rintro _ J8 T8 _ ⟨rfl, rfl⟩
    rw [n2]
    exact ⟨_, rfl, rfl⟩
end Go.Proofs.Ytoeecjlencaglaa
