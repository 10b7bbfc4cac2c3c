/- TableMany as its row asks it. -/
import Derived.Test.YtoeecjlencaglaaTk2
set_option linter.unusedVariables false
namespace Go.Proofs.Ytoeecjlencaglaa
open Go.Px

def keyM (i : Nat) : ByteArray := ⟨#[UInt8.ofNat (i % 256), UInt8.ofNat (i / 256), UInt8.ofNat (i % 7)]⟩
theorem keyM_inj {i j : Nat} (hi : i < 2000) (hj : j < 2000) (h : keyM i = keyM j) : i = j := by
  have h' := congrArg (fun x : ByteArray => x.data.toList.map UInt8.toNat) h
  simp [keyM, UInt8.toNat_ofNat'] at h'
  omega
theorem keyM_small (i : Nat) : (keyM i).size ≤ 9223372036854775807 := by show 3 ≤ _; omega
theorem keyM_runs (x : Nat) (hx : x < 2000) (I : IMem) (S : SH) : Runs Try.prog 25 #[.int .i64 x] I S fun v J T => v = .string (keyM x) ∧ J = I ∧ T = S := by
  refine Runs.drop (bolterlaw15_TableMany_f1_fn _ _ _ _ ?_)
  intro b
  have e1 : IntKind.wrap .u8 (x : Int) = ((x % 256 : Nat) : Int) := by rw [wrap_u8_eq]; rfl
  have e2 : IntKind.wrap .u8 (IntKind.wrap .i64 ((x : Int).tdiv (256 : Int))) = ((x / 256 : Nat) : Int) := by
    rw [show (x : Int).tdiv (256 : Int) = ((x / 256 : Nat) : Int) from rfl, wrap_i64 (by omega) (by omega), wrap_u8 (by omega) (by omega)]
  have e3 : IntKind.wrap .u8 ((x : Int).tmod (7 : Int)) = ((x % 7 : Nat) : Int) := by
    rw [show (x : Int).tmod (7 : Int) = ((x % 7 : Nat) : Int) from rfl, wrap_u8 (by omega) (by omega)]
  rw [e1, e2, e3]
  have hs : (#[.int .u8 ((x % 256 : Nat) : Int), .int .u8 ((x / 256 : Nat) : Int), .int .u8 ((x % 7 : Nat) : Int)] : Array Value) = byV (keyM x) := by
    have h2 : (x / 256) % 256 = x / 256 := by omega
    have h3 : (x % 7) % 256 = x % 7 := by omega
    simp [byV, keyM, UInt8.toNat_ofNat', h2, h3]
  exact ⟨keyM x, BytesAt.at0 _ rfl hs, S, (Sub.refl S).skip _, rfl, rfl, rfl⟩
/-- the first words, and those that are left of them -/
structure Many (k s c : Nat) (M : KV) : Prop where
  has : ∀ j, j < 2000 → M (keyM j) = if j < k ∧ ¬ (j % s = 0 ∧ j < c * s) then some (j : Int) else none
theorem Many.put {k s : Nat} {M : KV} (h : Many k s 0 M) (hk : k < 2000) : Many (k + 1) s 0 (M.put (keyM k) (k : Int)) ∧ M (keyM k) = none := by
  have hh := h.has
  simp only [Nat.zero_mul, Nat.not_lt_zero, and_false, not_false_eq_true, and_true] at hh
  refine ⟨⟨fun j hj => ?_⟩, by rw [hh k hk, if_neg (by omega)]⟩
  simp only [Nat.zero_mul, Nat.not_lt_zero, and_false, not_false_eq_true, and_true]
  simp only [KV.put]
  by_cases he : j = k
  · subst he; rw [if_pos rfl, if_pos (by omega)]
  · rw [if_neg (fun e => he (keyM_inj hj hk e)), hh j hj]
    by_cases hlt : j < k
    · rw [if_pos hlt, if_pos (by omega)]
    · rw [if_neg hlt, if_neg (by omega)]
theorem step_lt {s c j : Nat} (hs : 0 < s) (h : j % s = 0) : j < (c + 1) * s ↔ j < c * s ∨ j = c * s := by
  obtain ⟨q, rfl⟩ := Nat.dvd_of_mod_eq_zero h
  rw [Nat.mul_comm s q, Nat.mul_lt_mul_right hs, Nat.mul_lt_mul_right hs, Nat.mul_left_inj (by omega)]
  omega
theorem Many.del {k s c : Nat} {M : KV} (h : Many k s c M) (hs : 0 < s) (hk : k ≤ 2000) (hc : c * s < k) : Many k s (c + 1) (M.del (keyM (c * s))) ∧ M (keyM (c * s)) = some ((c * s : Nat) : Int) := by
  have hh := h.has
  refine ⟨⟨fun j hj => ?_⟩, by rw [hh _ (by omega), if_pos ⟨hc, fun h => Nat.lt_irrefl _ h.2⟩]⟩
  simp only [KV.del]
  by_cases he : j = c * s
  · rw [if_pos (by rw [he]), if_neg]
    rintro ⟨_, h2⟩
    refine h2 ⟨by rw [he]; exact Nat.mul_mod_left c s, by rw [he, Nat.succ_mul]; omega⟩
  · rw [if_neg (fun e => he (keyM_inj hj (by omega) e)), hh j hj]
    by_cases hm : j % s = 0
    · have := step_lt (c := c) hs hm
      by_cases hlt : j < c * s
      · rw [if_neg (fun h => h.2 ⟨hm, hlt⟩), if_neg (fun h => h.2 ⟨hm, this.2 (.inl hlt)⟩)]
      · have hn : ¬ j < (c + 1) * s := fun g => (this.1 g).elim hlt he
        by_cases hk' : j < k
        · rw [if_pos ⟨hk', fun g => hlt g.2⟩, if_pos ⟨hk', fun g => hn g.2⟩]
        · rw [if_neg (fun g => hk' g.1), if_neg (fun g => hk' g.1)]
    · by_cases hk' : j < k
      · rw [if_pos ⟨hk', fun g => hm g.1⟩, if_pos ⟨hk', fun g => hm g.1⟩]
      · rw [if_neg (fun g => hk' g.1), if_neg (fun g => hk' g.1)]
theorem TableMany_row (W : World) (n d : Int) (hn : (Lit.int .u16 n).wf = true) (hd : (Lit.int .u8 d).wf = true) : Runs Try.prog 6 #[.int .u16 n, .int .u8 d] (imW W) [] fun v _ _ => v = .bool true := by
  have hb : 0 ≤ n ∧ n ≤ 65535 := by simpa [Lit.wf, IntKind.min, IntKind.max, IntKind.signed, IntKind.bits] using hn
  have hb2 : 0 ≤ d ∧ d ≤ 255 := by simpa [Lit.wf, IntKind.min, IntKind.max, IntKind.signed, IntKind.bits] using hd
  obtain ⟨q, rfl⟩ := Int.eq_ofNat_of_zero_le hb.1
  obtain ⟨y, rfl⟩ := Int.eq_ofNat_of_zero_le hb2.1
  refine bolterlaw15_TableMany_fn _ _ _ _ _ ?_
  refine (awake15_runs _ _).mono ?_
  rintro _ J0 T0 hle0 ⟨rfl, rfl⟩
  refine ⟨true, rfl, ?_⟩
  intro tb
  have e0 : IntKind.wrap .i64 ((q : Int).tmod (2000 : Int)) = ((q % 2000 : Nat) : Int) := by
    rw [show (q : Int).tmod (2000 : Int) = ((q % 2000 : Nat) : Int) from rfl, wrap_i64 (by omega) (by omega)]
  have e1 : IntKind.wrap .i64 ((2 : Int) + (IntKind.wrap .i64 ((y : Int).tmod (5 : Int)))) = ((2 + y % 5 : Nat) : Int) := by
    rw [show (y : Int).tmod (5 : Int) = ((y % 5 : Nat) : Int) from rfl, wrap_i64 (x := ((y % 5 : Nat) : Int)) (by omega) (by omega), wrap_i64 (by omega) (by omega)]; rfl
  rw [e0]
  have hk : q % 2000 < 2000 := Nat.mod_lt _ (by omega)
  generalize q % 2000 = k at hk
  have hs : 2 ≤ 2 + y % 5 ∧ 2 + y % 5 ≤ 6 := by omega
  obtain ⟨s, hsd⟩ : ∃ s, s = 2 + y % 5 := ⟨_, rfl⟩
  rw [← hsd] at hs e1
  refine ⟨fun m y' p k' i J T => y' = (y : Int) ∧ p = some ⟨tb, 0, none⟩ ∧ k' = (k : Int) ∧ ∃ (x : Nat) (t : Tbl) (M : KV) (own : SH), i = (x : Int) ∧ x + m = k ∧ TabO tb t own ∧ Sub own T ∧ TI 2000 t M ∧ t.live = x ∧ Many x s 0 M, k,
    ⟨rfl, rfl, rfl, 0, noTbl, _, _, rfl, by omega, noTbl_TabO tb, Sub.refl _, noTbl_TI _, rfl, ⟨fun j _ => by rw [if_neg (by omega)]⟩⟩, ?_⟩
  rintro m y' p k' i J T hleJ ⟨h1, h2, h3, x, t, M, own, h4, hxm, ho, hsub, hti, hlv, hM⟩
  subst h1 h2 h3 h4
  refine bcase_dec (fun hlt => ?_) (fun hge => ?_)
  · refine (keyM_runs x (by omega) J T).mono ?_
    rintro _ J1 T1 _ ⟨rfl, rfl, rfl⟩
    obtain ⟨hM', hnone⟩ := hM.put (by omega)
    refine ⟨_, rfl, Runs.use (L := own ++ []) (by rw [List.append_nil]; exact hsub) (Put_TI (B' := 2000) ho hti (Nat.le_refl _) (by omega) (keyM x) (x : Int) (keyM_small x) (fun _ => by omega) J1 []) ?_⟩
    rintro _ J2 T2 hle2 ⟨rfl, t', own', ho', hti', hlv', _, rfl⟩
    rw [hnone] at hlv' ⊢
    exact ⟨_, rfl, m - 1, by omega, rfl, rfl, rfl, x + 1, t', _, own', by rw [wrap_i64 (by omega) (by omega)]; rfl, by omega, ho', ⟨[], List.Perm.refl _⟩, hti', by rw [hlv', hlv]; rfl, hM'⟩
  obtain rfl : x = k := by omega
  rw [bolterlaw15_TableMany_b4, e1]
  -- what goes
  refine ⟨fun m p k' s' i J T => p = some ⟨tb, 0, none⟩ ∧ k' = (x : Int) ∧ s' = (s : Int) ∧ ∃ (c dd : Nat) (t : Tbl) (M : KV) (own : SH), i = (dd : Int) ∧ dd = c * s ∧ dd < x + s ∧ x + s - dd = m ∧ TabO tb t own ∧ Sub own T ∧ TI 2000 t M ∧ t.live + c = x ∧ Many x s c M, x + s,
    ⟨rfl, rfl, rfl, 0, 0, t, M, own, rfl, by omega, by omega, by omega, ho, hsub, hti, by omega, hM⟩, ?_⟩
  rintro m p k' s' i J T hleJ ⟨h1, h2, h3, c, dd, t, M, own, h4, hdd, hlt0, hm, ho, hsub, hti, hlv, hM⟩
  subst h1 h2 h3 h4
  refine bcase_dec (fun hlt => ?_) (fun hge => ?_)
  · refine (keyM_runs dd (by omega) J T).mono ?_
    rintro _ J1 T1 _ ⟨rfl, rfl, rfl⟩
    obtain ⟨hM', hsome⟩ := hM.del (by omega) (by omega) (by omega : c * s < x)
    rw [← hdd] at hM' hsome
    refine ⟨_, rfl, Runs.use (L := own ++ []) (by rw [List.append_nil]; exact hsub) (Del_TI ho hti (by omega) (keyM dd) (keyM_small dd) J1 []) ?_⟩
    rintro _ J2 T2 hle2 ⟨rfl, t', own', ho', hti', _, hlv', rfl⟩
    rw [hsome] at hlv' ⊢
    have hpos : 0 < t.live := by
      rcases Nat.eq_zero_or_pos t.live with h0 | h0
      · have hcx : c = x := by omega
        have := Nat.mul_le_mul (Nat.le_refl c) (show 1 ≤ s by omega)
        omega
      · exact h0
    have hlv'' : t'.live = t.live - 1 := hlv'
    exact ⟨_, rfl, m - s, by omega, rfl, rfl, rfl, c + 1, dd + s, t', _, own', by rw [wrap_i64 (by omega) (by omega)]; rfl, by rw [Nat.succ_mul, hdd], by omega, by omega, ho', ⟨[], List.Perm.refl _⟩, hti', by omega, hM'⟩
  have hdiv : (x + s - 1) / s = c := Nat.div_eq_of_lt_le (by omega) (by rw [Nat.succ_mul]; omega)
  have hfin : ∀ j, j < x → M (keyM j) = if j % s = 0 then none else some (j : Int) := fun j hj => by
    rw [hM.has j (by omega)]
    by_cases h0 : j % s = 0
    · rw [if_pos h0, if_neg (fun h => h.2 ⟨h0, by omega⟩)]
    · rw [if_neg h0, if_pos ⟨hj, fun h => h0 h.1⟩]
  refine ⟨fun m p k' s' i J T => p = some ⟨tb, 0, none⟩ ∧ k' = (x : Int) ∧ s' = (s : Int) ∧ ∃ (j : Nat), i = (j : Int) ∧ j + m = x ∧ Sub own T, x, ⟨rfl, rfl, rfl, 0, rfl, by omega, hsub⟩, ?_⟩
  rintro m p k' s' i J T hleJ ⟨h1, h2, h3, j, h4, hjm, hsub⟩
  subst h1 h2 h3 h4
  refine bcase_dec (fun hlt => ?_) (fun hge => ?_)
  · refine (keyM_runs j (by omega) J T).mono ?_
    rintro _ J1 T1 _ ⟨rfl, rfl, rfl⟩
    refine ⟨_, rfl, Runs.use (L := own ++ []) (by rw [List.append_nil]; exact hsub) (Get_TI ho hti (by omega) (keyM j) (keyM_small j) J1 []) ?_⟩
    rintro _ J2 T2 hle2 ⟨rfl, rfl⟩
    rw [hfin j (by omega)]
    refine ⟨_, _, rfl, bcase_dec (fun h => by omega) (fun _ => ?_)⟩
    have hnext : bolterlaw15_TableMany_b12 (fun p k' s' i I S => ∃ m', m' < m ∧ p = some ⟨tb, 0, none⟩ ∧ k' = (x : Int) ∧ s' = (s : Int) ∧ ∃ (j : Nat), i = (j : Int) ∧ j + m' = x ∧ Sub own S) (fun v _ _ => v = .bool true) (some ⟨tb, 0, none⟩) (x : Int) (s : Int) (j : Int) false J2 (own ++ []) :=
      ⟨m - 1, by omega, rfl, rfl, rfl, j + 1, by rw [wrap_i64 (by omega) (by omega)]; rfl, by omega, ⟨[], List.Perm.refl _⟩⟩
    rw [show (j : Int).tmod (s : Int) = ((j % s : Nat) : Int) from rfl]
    by_cases h0 : j % s = 0
    · rw [if_pos h0, h0]; exact hnext
    · rw [if_neg h0]
      rw [show (((j % s : Nat) : Int) != (0 : Int)) = true by simp; omega]
      show bcase ((j : Int) != (j : Int)) _ _
      exact bcase_bne (fun h => absurd rfl h) (fun _ => hnext)
  · refine bcase_dec (fun h => by omega) (fun _ => ?_)
    refine Runs.use (L := own ++ []) (by rw [List.append_nil]; exact hsub) (Len_runs tb t own ho J []) ?_
    rintro _ J1 T1 hle1 ⟨rfl, rfl⟩
    refine ⟨_, rfl, ?_⟩
    have e5 : IntKind.wrap .i64 ((IntKind.wrap .i64 ((x : Int) + (s : Int))) - (1 : Int)) = ((x + s - 1 : Nat) : Int) := by
      rw [wrap_i64 (x := (x : Int) + (s : Int)) (by omega) (by omega), wrap_i64 (by omega) (by omega)]; omega
    rw [e5, show ((x + s - 1 : Nat) : Int).tdiv (s : Int) = (((x + s - 1) / s : Nat) : Int) from rfl, hdiv, wrap_i64 (x := (c : Int)) (by omega) (by omega), wrap_i64 (by omega) (by omega)]
    show Value.bool _ = _
    rw [show (((t.live : Nat) : Int) == ((x : Int) - (c : Int))) = true by rw [beq_iff_eq]; omega]
end Go.Proofs.Ytoeecjlencaglaa
