import Derived.Test.YtmlojdbahlfiaaaGreatDoorProg
import Derived.Test.YtmlojdbahlfiaaaGreatDoorRows
import Derived.LaidLaws
import Derived.Lay
import Derived.Stop.LaidErr
import Derived.Lib.LaidTab
import Derived.ChangeVars
import Derived.MakeChecks
import Derived.Test.YtmlojdbahlfiaaaGreatDoorM1SearchWins
import Derived.Test.YtmlojdbahlfiaaaGreatDoorM2SearchWins
import Derived.Test.YtmlojdbahlfiaaaGreatDoorM3SearchWins
import Derived.Test.YtmlojdbahlfiaaaGreatDoorM4SearchWins
import Derived.Test.YtmlojdbahlfiaaaGreatDoorM5SearchWins
set_option linter.unusedVariables false
set_option maxRecDepth 8000
set_option maxHeartbeats 2000000
namespace Go.Proofs.YtmlojdbahlfiaaaGreatDoor
open Go.Px
def bolterlaw19_SearchWins_b2 (R : RT) (x6 : Bool) (I : IMem) (S : SH) : Prop :=
  R (.bool x6) I S
def bolterlaw19_SearchWins_b1 (R : RT) (x5 : Addr) (x7 : OA) (x7n x7c : Nat) (x8 : Addr) (x9 : Bool) (I : IMem) (S : SH) : Prop :=
  ∃ u0, Cell I S x5 (.bool u0) ∧
  ∃ u1 u1n u1c, Cell I S (x5.add 1) (.slice u1 u1n u1c) ∧
  ∃ u2 u2n u2c, Cell I S (x5.add 2) (.slice u2 u2n u2c) ∧
  ∃ u3 u3n u3c, Cell I S (x5.add 3) (.slice u3 u3n u3c) ∧
  ∃ u4 u4n u4c, Cell I S (x5.add 4) (.slice u4 u4n u4c) ∧
  ∃ u5 u5n u5c, Cell I S (x5.add 5) (.slice u5 u5n u5c) ∧
  ∃ u6, Cell I S x8 (.int .i64 u6) ∧
  ∃ u7, Cell I S (x8.add 1) (.int .i64 u7) ∧
  ∃ u8, Cell I S (x8.add 2) (.string u8) ∧
  ∃ u9, Cell I S (x8.add 3) (.string u9) ∧
  ∃ ua, Cell I S (x8.add 4) (.int .i64 ua) ∧
  ∃ ub, Cell I S (x8.add 5) (.int .i64 ub) ∧
  ∃ uc, Cell I S (x8.add 6) (.string uc) ∧
  ∃ ud, Cell I S (x8.add 7) (.bool ud) ∧
  ∃ ue uen uec, Cell I S (x8.add 8) (.slice ue uen uec) ∧
  Runs Tryz.prog 14 #[.agg #[.bool u0, .slice u1 u1n u1c, .slice u2 u2n u2c, .slice u3 u3n u3c, .slice u4 u4n u4c, .slice u5 u5n u5c]] I S fun v I1 S1 => ∃ uf ug uh uhn uhc ui uin uic uj ujn ujc, v = .agg #[.string uf, .string ug, .slice uh uhn uhc, .slice ui uin uic, .slice uj ujn ujc] ∧
  Keep I S I1 S1 ∧
  Runs Tryz.prog 31 #[.slice x7 x7n x7c, .agg #[.string uf, .string ug, .slice uh uhn uhc, .slice ui uin uic, .slice uj ujn ujc], .agg #[.int .i64 u6, .int .i64 u7, .string u8, .string u9, .int .i64 ua, .int .i64 ub, .string uc, .bool ud, .slice ue uen uec], .bool x9] I1 S1 fun v' I1' S1' => ∃ uk, v' = .bool uk ∧
  Keep I S I1' S1' ∧
  bcase uk
    (bcase x9
      (bolterlaw19_SearchWins_b2 R true I1' S1')
      (∃ ul, Cell I S x8 (.int .i64 ul) ∧
      bcase (ul == (0 : Int))
        (∃ um, Cell I S (x8.add 1) (.int .i64 um) ∧
        ∃ un, Cell I S ((x8.add 1).add 1) (.string un) ∧
        ∃ uo, Cell I S ((x8.add 1).add 2) (.string uo) ∧
        ∃ up, Cell I S ((x8.add 1).add 3) (.int .i64 up) ∧
        bcase (((um : Int) == (0 : Int)) && (((un : ByteArray) == (⟨#[]⟩ : ByteArray)) && ((((uo : ByteArray) == (⟨#[]⟩ : ByteArray)) && (((up : Int) == (0 : Int)) && true)) && true)))
          (∃ uq, Cell I S (x8.add 5) (.int .i64 uq) ∧
          ∃ ur, Cell I S ((x8.add 5).add 1) (.string ur) ∧
          ∃ us, Cell I S ((x8.add 5).add 2) (.bool us) ∧
          ∃ ut utn utc, Cell I S ((x8.add 5).add 3) (.slice ut utn utc) ∧
          Runs Tryz.prog 28 #[.agg #[.int .i64 uq, .string ur, .bool us, .slice ut utn utc], .agg #[.int .i64 0, .string ⟨#[]⟩, .bool false, .slice none 0 0]] I1' S1' fun v'' I1'' S1'' => ∃ uu, v'' = .bool uu ∧
          bolterlaw19_SearchWins_b2 R uu I1'' S1'')
          (bolterlaw19_SearchWins_b2 R false I1' S1'))
        (bolterlaw19_SearchWins_b2 R false I1' S1')))
    (bolterlaw19_SearchWins_b2 R false I1' S1')
def bolterlaw19_SearchWins (R : RT) (u0 : OA) (u0n u0c : Nat) (u1 : OA) (u1n u1c : Nat) (u2 : Bool) (u3 : OA) (u3n u3c : Nat) (u4 : OA) (u4n u4c : Nat) (u5 : OA) (u5n u5c : Nat) (u6 : OA) (u6n u6c : Nat) (u7 : OA) (u7n u7c : Nat) (I : IMem) (S : SH) : Prop :=
  ∀ b5 : Nat,
  Runs Tryz.prog 11 #[] I ((b5, .cells #[.bool u2, .slice u3 u3n u3c, .slice u4 u4n u4c, .slice u5 u5n u5c, .slice u6 u6n u6c, .slice u7 u7n u7c] 25 (0, 0)) :: S) fun v I1 S1 => ∃ u8, v = .bool u8 ∧
  bcase (!u8)
    (R (.bool false) I1 S1)
    (Runs Tryz.prog 29 #[.slice u0 u0n u0c, .slice u1 u1n u1c] I1 S1 fun v' I1' S1' => ∃ u9 u9n u9c, v' = .slice u9 u9n u9c ∧
    ∃ ua, Cell I1' S1' ⟨b5, 0, none⟩ (.bool ua) ∧
    ∃ ub ubn ubc, Cell I1' S1' ⟨b5, 1, none⟩ (.slice ub ubn ubc) ∧
    ∃ uc ucn ucc, Cell I1' S1' ⟨b5, 2, none⟩ (.slice uc ucn ucc) ∧
    ∃ ud udn udc, Cell I1' S1' ⟨b5, 3, none⟩ (.slice ud udn udc) ∧
    ∃ ue uen uec, Cell I1' S1' ⟨b5, 4, none⟩ (.slice ue uen uec) ∧
    ∃ uf ufn ufc, Cell I1' S1' ⟨b5, 5, none⟩ (.slice uf ufn ufc) ∧
    Runs Tryz.prog 14 #[.agg #[.bool ua, .slice ub ubn ubc, .slice uc ucn ucc, .slice ud udn udc, .slice ue uen uec, .slice uf ufn ufc]] I1' S1' fun v'' I1'' S1'' => ∃ ug uh ui uin uic uj ujn ujc uk ukn ukc, v'' = .agg #[.string ug, .string uh, .slice ui uin uic, .slice uj ujn ujc, .slice uk ukn ukc] ∧
    Runs Tryz.prog 30 #[.slice u9 u9n u9c, .agg #[.string ug, .string uh, .slice ui uin uic, .slice uj ujn ujc, .slice uk ukn ukc]] I1'' S1'' fun v_r3 I1_r3 S1_r3 => ∃ ul um un uo up uq ur us ut utn utc uu, v_r3 = .tuple #[.agg #[.int .i64 ul, .int .i64 um, .string un, .string uo, .int .i64 up, .int .i64 uq, .string ur, .bool us, .slice ut utn utc], .bool uu] ∧
    ∀ b8 : Nat,
    StP ((b8, .cells #[.int .i64 0, .int .i64 0, .string ⟨#[]⟩, .string ⟨#[]⟩, .int .i64 0, .int .i64 0, .string ⟨#[]⟩, .bool false, .slice none 0 0] 80 (0, 0)) :: S1_r3) ⟨b8, 0, none⟩ [.int .i64 ul, .int .i64 um, .string un, .string uo, .int .i64 up, .int .i64 uq, .string ur, .bool us, .slice ut utn utc] fun S1_r4 =>
    bolterlaw19_SearchWins_b1 R ⟨b5, 0, none⟩ u9 u9n u9c ⟨b8, 0, none⟩ uu I1_r3 S1_r4)
theorem bolterlaw19_SearchWins_fn (R : RT) (u0 : OA) (u0n u0c : Nat) (u1 : OA) (u1n u1c : Nat) (u2 : Bool) (u3 : OA) (u3n u3c : Nat) (u4 : OA) (u4n u4c : Nat) (u5 : OA) (u5n u5c : Nat) (u6 : OA) (u6n u6c : Nat) (u7 : OA) (u7n u7c : Nat) (I : IMem) (S : SH) (h : bolterlaw19_SearchWins R u0 u0n u0c u1 u1n u1c u2 u3 u3n u3c u4 u4n u4c u5 u5n u5c u6 u6n u6c u7 u7n u7c I S) : Runs Tryz.prog 7 #[.slice u0 u0n u0c, .slice u1 u1n u1c, .agg #[.bool u2, .slice u3 u3n u3c, .slice u4 u4n u4c, .slice u5 u5n u5c, .slice u6 u6n u6c, .slice u7 u7n u7c]] I S R := by
  refine Runs.of_wp (c := cd Tryz.f7) Tryz.func7 (by kernel_rfl) (by kernel_rfl) ?_
  refine cO 4 [kA 5, kL 7, kA 8, kB 9] (bolterlaw19_SearchWins_b1 R) h fun _ _ _ _ _ _ _ _ _ _ h => ?_
  refine sO [kB 6] (bolterlaw19_SearchWins_b2 R) (dR (.take 0 (.take 1 (.take 3 (.take 4 (.step 2 (.step 5 (tk 16 6 (.step 22 (tk 4 23 .done))))))))) [2, 5, 22] h) fun _ _ _ _ _ h => ?_
  exact pS h
end Go.Proofs.YtmlojdbahlfiaaaGreatDoor
/- Which triggers fit: what the law says, and the code. -/
namespace Go.Proofs.YtmlojdbahlfiaaaGreatDoor
open Go.Px
set_option linter.unusedVariables false
set_option linter.unusedSimpArgs false
set_option maxRecDepth 8000

theorem m_loop {xs : List ByteArray} {a : Option Addr} {c b : Nat} {t : Tg} {I : IMem} {S F : SH} {r : Bool} (hx : RowIn I S a xs.length 1 elS xs) (hl : xs.length ≤ 9223372036854775807) (hs : Sub (tgB b t :: F) S) {R : RT} (hR : ∀ J, R (.bool r) J S) (hr : r = xs.any (hasT t)) :
    bolterlaw19_matches_b13 R ⟨b, 0, none⟩ a xs.length c I S := by
  subst hr
  unfold bolterlaw19_matches_b13 bolterlaw19_matches_b14
  refine ⟨fun m p y yn yc q i J T => p = ⟨b, 0, none⟩ ∧ y = a ∧ yn = xs.length ∧ q = (xs.length : Int) ∧ I.le J ∧ T = S ∧ ∃ k : Nat, i = (k : Int) ∧ k ≤ xs.length ∧ m = xs.length - k ∧ (xs.take k).any (hasT t) = false,
    xs.length, ⟨rfl, rfl, rfl, rfl, IMem.le.refl I, rfl, 0, rfl, Nat.zero_le _, rfl, rfl⟩, ?_⟩
  rintro m p y yn yc q i J T - ⟨rfl, rfl, rfl, rfl, hle, rfl, k, rfl, hk, rfl, hf⟩
  unfold bolterlaw19_matches_l15
  refine bcase_dec (fun hg => ?_) (fun hg => ?_)
  · obtain ⟨u, hu⟩ := get_lt (xs := xs) (k := k) (by omega)
    obtain ⟨a', rfl, hc⟩ := (hx.le hle).cell hu
    obtain ⟨c0, c1, c2, c3, c4⟩ := tgX (I := J) hs
    refine ⟨by omega, by omega, _, (by simpa [Addr.add] using hc 0 _ rfl), _, c2, _, c3, (Has_runs _ _ _ _ _).mono ?_⟩
    rintro v J2 T2 hle2 ⟨rfl, rfl⟩
    refine ⟨_, rfl, bcase_of (fun h => ?_) (fun h => ?_)⟩
    · rw [any_hitB (f := hasT t) hu h] at hR; exact hR J2
    · exact ⟨xs.length - (k + 1), by omega, rfl, rfl, rfl, rfl, hle.trans hle2, rfl, k + 1, by rw [wrap_i64 (by omega) (by omega)]; rfl, by omega, rfl, by rw [any_snocB hu, hf]; exact h⟩
  · have : k = xs.length := by omega
    subst this
    rw [List.take_length] at hf
    rw [hf] at hR
    unfold bolterlaw19_matches_b16
    exact hR J
def nsT (t : Tg) (n : ByteArray) : Bool := if t.1 = 4 then n.toList == t.2.1.toList else underT t n
theorem n_loop {xs : List ByteArray} {a : Option Addr} {c b : Nat} {t : Tg} {I : IMem} {S F : SH} {r : Bool} (ht : t.1 = 4 ∨ t.1 = 5) (hx : RowIn I S a xs.length 1 elS xs) (hl : xs.length ≤ 9223372036854775807) (hs : Sub (tgB b t :: F) S) {R : RT} (hR : ∀ J, R (.bool r) J S) (hr : r = xs.any (nsT t)) :
    bolterlaw19_matches_b7 R ⟨b, 0, none⟩ a xs.length c (xs.length : Int) 0 I S := by
  subst hr
  unfold bolterlaw19_matches_b7
  refine ⟨fun m p y yn yc q i J T => p = ⟨b, 0, none⟩ ∧ y = a ∧ yn = xs.length ∧ q = (xs.length : Int) ∧ I.le J ∧ T = S ∧ ∃ k : Nat, i = (k : Int) ∧ k ≤ xs.length ∧ m = xs.length - k ∧ (xs.take k).any (nsT t) = false,
    xs.length, ⟨rfl, rfl, rfl, rfl, IMem.le.refl I, rfl, 0, rfl, Nat.zero_le _, rfl, rfl⟩, ?_⟩
  rintro m p y yn yc q i J T - ⟨rfl, rfl, rfl, rfl, hle, rfl, k, rfl, hk, rfl, hf⟩
  unfold bolterlaw19_matches_l8
  refine bcase_dec (fun hg => ?_) (fun hg => ?_)
  · obtain ⟨u, hu⟩ := get_lt (xs := xs) (k := k) (by omega)
    obtain ⟨a', rfl, hc⟩ := (hx.le hle).cell hu
    obtain ⟨c0, c1, c2, c3, c4⟩ := tgX (I := J) hs
    have next : ∀ (r : Bool) (J2 : IMem), I.le J2 → r = nsT t u → bolterlaw19_matches_b10 (fun p y yn yc q i J T' => ∃ m', m' < xs.length - k ∧ (p = ⟨b, 0, none⟩ ∧ y = some a' ∧ yn = xs.length ∧ q = (xs.length : Int) ∧ I.le J ∧ T' = T ∧ ∃ k : Nat, i = (k : Int) ∧ k ≤ xs.length ∧ m' = xs.length - k ∧ (xs.take k).any (nsT t) = false)) R ⟨b, 0, none⟩ (some a') xs.length yc (xs.length : Int) (k : Int) r J2 T := by
      intro r J2 hle2 hr
      unfold bolterlaw19_matches_b10 bolterlaw19_matches_b11
      refine bcase_of (fun h => ?_) (fun h => ?_)
      · rw [any_hitB (f := nsT t) hu (hr ▸ h)] at hR; exact hR J2
      · exact ⟨xs.length - (k + 1), by omega, rfl, rfl, rfl, rfl, hle2, rfl, k + 1, by rw [wrap_i64 (by omega) (by omega)]; rfl, by omega, rfl, by rw [any_snocB hu, hf, ← hr]; exact h⟩
    unfold bolterlaw19_matches_b9
    refine ⟨by omega, by omega, _, (by simpa [Addr.add] using hc 0 _ rfl), _, c0, ?_⟩
    rcases ht with h4 | h5
    · refine bcase_t (by rw [h4]; rfl) ⟨_, c1, bcase_of (fun h => next true J hle (by rw [nsT, if_pos h4, h])) (fun h => ⟨_, c0, bcase_f (by rw [h4]; rfl) (next false J hle (by rw [nsT, if_pos h4, h]))⟩)⟩
    · refine bcase_f (by rw [h5]; rfl) ⟨_, c0, bcase_t (by rw [h5]; rfl) ⟨_, c1, bcase_of (fun h => ⟨_, c1, (Below_runs _ _ _ _).mono ?_⟩) (fun h => next false J hle (by rw [nsT, if_neg (by omega), underT, h] <;> rfl))⟩⟩
      rintro v J2 T2 hle2 ⟨rfl, rfl⟩
      exact ⟨_, rfl, next _ J2 (hle.trans hle2) (by rw [nsT, if_neg (by omega), underT, h] <;> rfl)⟩
  · have : k = xs.length := by omega
    subst this
    rw [List.take_length] at hf
    rw [hf] at hR
    unfold bolterlaw19_matches_b12
    exact hR J
theorem matches_runs (t : Tg) (f : Fa) {I : IMem} {S : SH} (hf : FaIn I S f) : Runs Tryz.prog 15 #[vT t, vFa f] I S fun v _ T => v = .bool (matchT t f) ∧ T = S := by
  refine Runs.drop (bolterlaw19_matches_fn _ _ _ _ _ _ _ _ _ _ _ _ _ _ _ _ _ _ ?_)
  unfold bolterlaw19_matches bolterlaw19_matches_b1 bolterlaw19_matches_b2
  intro b2 b3
  have hT : Sub (tgB b2 t :: S) (faB b3 f :: tgB b2 t :: S) := (Sub.refl _).skip _
  have hF : Sub (faB b3 f :: (tgB b2 t :: S)) (faB b3 f :: tgB b2 t :: S) := Sub.refl _
  have hin : FaIn I (faB b3 f :: tgB b2 t :: S) f := hf.sub (((Sub.refl S).skip _).skip _)
  obtain ⟨c0, c1, c2, c3, c4⟩ := tgX (I := I) hT
  obtain ⟨d0, d1, d2, d3, d4⟩ := bA f (I := I) hF
  have back : Sub S (faB b3 f :: tgB b2 t :: S) := ((Sub.refl S).skip _).skip _
  refine ⟨_, c0, ?_⟩
  unfold bolterlaw19_matches_b3
  refine bcase_beq (fun h1 => ?_) (fun h1 => ?_)
  · exact ⟨_, d1, _, c1, S, back, by rw [matchT, if_neg (by omega), if_pos h1], rfl⟩
  unfold bolterlaw19_matches_b4
  refine bcase_beq (fun h2 => ?_) (fun h2 => ?_)
  · unfold bolterlaw19_matches_b5
    have hm : matchT t f = underT t f.nm := by rw [matchT, if_neg (by omega), if_neg h1, if_pos h2]
    rw [hm]
    refine ⟨_, d1, _, c1, bcase_of (fun h => ⟨_, d1, _, c1, (Below_runs _ _ _ _).mono ?_⟩) (fun h => ⟨S, back, by rw [underT, h] <;> rfl, rfl⟩)⟩
    rintro v J T hle ⟨rfl, rfl⟩
    exact ⟨_, rfl, S, back, by rw [underT, h] <;> rfl, rfl⟩
  have ns : (t.1 = 4 ∨ t.1 = 5) → bolterlaw19_matches_b6 (fun v J T => ∃ L, Sub L T ∧ v = .bool (matchT t f) ∧ L = S) ⟨b2, 0, none⟩ ⟨b3, 0, none⟩ none 0 0 t.1 true I (faB b3 f :: tgB b2 t :: S) := by
    intro h
    unfold bolterlaw19_matches_b6
    obtain ⟨r1, r2, r3⟩ := hin.s
    refine bcase_t rfl ⟨_, f.xs.length, _, (show Cell I _ _ (.slice f.s.1 f.xs.length f.s.2.2) from by rw [← r2]; exact d3), ?_⟩
    refine n_loop (r := matchT t f) h r1 r3 hT (fun J => ⟨S, back, rfl, rfl⟩) ?_
    rw [matchT, if_neg (by omega), if_neg h1, if_neg h2, if_neg (by omega)]
    rcases h with h | h
    · rw [if_pos h]; congr 1; funext n; rw [nsT, if_pos h]
    · rw [if_neg (by omega), if_pos h]; congr 1; funext n; rw [nsT, if_neg (by omega)]
  refine bcase_beq (fun h4 => ?_) (fun h4 => ?_)
  · rw [show (t.1 == (4 : Int)) = true by rw [h4]; rfl]; exact ns (.inl h4)
  by_cases h5 : t.1 = 5
  · rw [show (t.1 == (5 : Int)) = true by rw [h5]; rfl]; exact ns (.inr h5)
  rw [show (t.1 == (5 : Int)) = false by rw [beq_eq_false_iff_ne]; exact h5]
  unfold bolterlaw19_matches_b6
  refine bcase_f rfl (bcase_beq (fun h0 => ?_) (fun h0 => bcase_beq (fun h3 => ?_) (fun h3 => bcase_beq (fun h6 => ?_) (fun h6 => ?_))))
  · refine ⟨_, d0, fun b18 => ?_⟩
    exact m_loop (xs := [f.cl]) (r := matchT t f) row_s (by show 1 ≤ 9223372036854775807; decide) (hT.skip _) (fun J => ⟨S, back.skip _, rfl, rfl⟩) (by rw [matchT, if_pos h0]; simp)
  · obtain ⟨r1, r2, r3⟩ := hin.a
    refine ⟨_, f.xa.length, _, (show Cell I _ _ (.slice f.a.1 f.xa.length f.a.2.2) from by rw [← r2]; exact d2), ?_⟩
    exact m_loop (r := matchT t f) r1 r3 hT (fun J => ⟨S, back, rfl, rfl⟩) (by rw [matchT, if_neg h0, if_neg h1, if_neg h2, if_pos h3])
  · obtain ⟨r1, r2, r3⟩ := hin.h
    refine ⟨_, f.xh.length, _, (show Cell I _ _ (.slice f.h.1 f.xh.length f.h.2.2) from by rw [← r2]; exact d4), ?_⟩
    exact m_loop (r := matchT t f) r1 r3 hT (fun J => ⟨S, back, rfl, rfl⟩) (by rw [matchT, if_neg h0, if_neg h1, if_neg h2, if_neg h3, if_neg h4, if_neg h5, if_pos h6])
  · exact m_loop (xs := []) (r := matchT t f) ls_nil.1 (by decide) hT (fun J => ⟨S, back, rfl, rfl⟩) (by rw [matchT, if_neg h0, if_neg h1, if_neg h2, if_neg h3, if_neg h4, if_neg h5, if_neg h6]; rfl)
end Go.Proofs.YtmlojdbahlfiaaaGreatDoor
/- Which triggers have a name, and which: plain laws. -/
namespace Go.Proofs.YtmlojdbahlfiaaaGreatDoor
open Go.Px
set_option linter.unusedVariables false
set_option linter.unusedSimpArgs false
set_option maxRecDepth 8000

/-- a label that is no word of owner's -/
structure LabP (l : ByteArray) : Prop where
  lab : IsLab l
  kind : kindOf l = none
  star : l ≠ starB
structure NameP (t : Tg) (ls : List ByteArray) : Prop where
  kind : t.1 = 1 ∨ t.1 = 2 ∨ t.1 = 4 ∨ t.1 = 5
  addr : t.2.2 = (⟨#[]⟩, 0)
  name : t.2.1 = nm ls
  labs : ∀ l ∈ ls, LabP l
  size : (nm ls).size ≤ 254
  some_ : t.1 = 1 ∨ t.1 = 4 → ls ≠ []
/-! ### bytes that come in; triggers of codes -/
def U8W (W : World) (s : Option Addr × Nat × Nat) : Prop := s.2.1 ≤ s.2.2 ∧ s.2.2 ≤ maxLen ∧ ∃ ys : List Int, SlIn (imW W) s.1 s.2.1 1 (fun x => [.int .u8 x]) ys ∧ ∀ y ∈ ys, (Lit.int .u8 y).wf = true
theorem u8_wf {x : Int} (h : (Lit.int .u8 x).wf = true) : 0 ≤ x ∧ x ≤ 255 := by
  simp only [Lit.wf, Bool.and_eq_true, decide_eq_true_eq] at h
  exact h
theorem u8_open {W : World} {a : Option Addr} {len cap : Nat} (h : U8W W (a, len, cap)) : ∃ ns : List Int, ns.length = len ∧ RowIn (imW W) [] a ns.length 1 elI8 ns ∧ ∀ x ∈ ns, 0 ≤ x ∧ x ≤ 255 := by
  obtain ⟨_, _, ns, hs, hw⟩ := h
  exact ⟨ns, hs.1, RowIn.of_slin (el := elI8) (fun _ => Nat.one_pos) hs, fun x hx => u8_wf (hw x hx)⟩
end Go.Proofs.YtmlojdbahlfiaaaGreatDoor
/- SearchMatches: the row. -/
namespace Go.Proofs.YtmlojdbahlfiaaaGreatDoor
open Go.Px
set_option linter.unusedVariables false
set_option linter.unusedSimpArgs false

abbrev U8sW (W : World) (x : Sl) : Prop := x.2.1 ≤ x.2.2 ∧ x.2.2 ≤ maxLen ∧ ∃ ys : List Sl, SlIn (imW W) x.1 x.2.1 1 (fun xe => [.slice xe.1 xe.2.1 xe.2.2]) ys ∧ ∀ y ∈ ys, (fun xe => U8W W xe) y
abbrev QrW (W : World) (x : Bool × Sl × Sl × Sl × Sl × Sl) : Prop := True ∧ U8W W x.2.1 ∧ U8W W x.2.2.1 ∧ U8sW W x.2.2.2.1 ∧ U8sW W x.2.2.2.2.1 ∧ U8sW W x.2.2.2.2.2
abbrev RuW (W : World) (x : Int × Sl × Bool × Int × Int) : Prop := (Lit.int .u8 x.1).wf = true ∧ U8W W x.2.1 ∧ True ∧ (Lit.int .u8 x.2.2.2.1).wf = true ∧ (Lit.int .u8 x.2.2.2.2).wf = true
theorem sb_of {W : World} {x : Sl} (h : U8W W x) : ∃ y : Sb, y.a = x ∧ SbIn (imW W) [] y := by
  have h2 := h
  obtain ⟨a, l, c⟩ := x
  obtain ⟨ns, e, hr, hb⟩ := u8_open h2
  have e : ns.length = l := e
  subst e
  have h3 : ns.length ≤ c ∧ c ≤ maxLen := ⟨h.1, h.2.1⟩
  exact ⟨⟨(a, ns.length, c), ns⟩, rfl, hr, rfl, by unfold maxLen at h3; show ns.length ≤ _; omega, hb⟩
theorem sbs_of {W : World} {x : Sl} (h : U8sW W x) : ∃ y : Sbs, y.a = x ∧ SbsIn (imW W) [] y := by
  obtain ⟨h1, h2, ys, hs, hy⟩ := h
  have key : ∀ zs : List Sl, (∀ y ∈ zs, U8W W y) → ∃ bs : List Sb, zs = bs.map (·.a) ∧ ∀ b ∈ bs, SbIn (imW W) [] b := by
    intro zs
    induction zs with
    | nil => intro _; exact ⟨[], rfl, fun b hb => by cases hb⟩
    | cons z zs ih =>
      intro hz
      obtain ⟨b, rfl, hb⟩ := sb_of (hz z (List.mem_cons_self ..))
      obtain ⟨bs, rfl, hbs⟩ := ih (fun y hy => hz y (List.mem_cons_of_mem _ hy))
      exact ⟨b :: bs, rfl, fun c hc => by rcases List.mem_cons.1 hc with rfl | hc; exact hb; exact hbs c hc⟩
  obtain ⟨bs, rfl, hbs⟩ := key ys hy
  obtain ⟨hl, hc⟩ := hs
  rw [List.length_map] at hl
  refine ⟨⟨x, bs⟩, rfl, RowIn.of_slin (el := elSb) (fun _ => Nat.one_pos) ⟨rfl, fun i b hb => ?_⟩, hl.symm, by unfold maxLen at h2; show bs.length ≤ _; omega, hbs⟩
  exact hc i b.a (by rw [List.getElem?_map, hb]; rfl)
theorem qr_of {W : World} {x : Bool × Sl × Sl × Sl × Sl × Sl} (h : QrW W x) : ∃ q : Qr, q.six = x.1 ∧ q.cl.a = x.2.1 ∧ q.nm.a = x.2.2.1 ∧ q.an.a = x.2.2.2.1 ∧ q.sv.a = x.2.2.2.2.1 ∧ q.ho.a = x.2.2.2.2.2 ∧ QrIn (imW W) [] q := by
  obtain ⟨-, h1, h2, h3, h4, h5⟩ := h
  obtain ⟨c, hc, ic⟩ := sb_of h1
  obtain ⟨n, hn, inn⟩ := sb_of h2
  obtain ⟨a, ha, ia⟩ := sbs_of h3
  obtain ⟨s, hs, is⟩ := sbs_of h4
  obtain ⟨o, ho, io⟩ := sbs_of h5
  exact ⟨⟨x.1, c, n, a, s, o⟩, rfl, hc, hn, ha, hs, ho, ic, inn, ia, is, io⟩
end Go.Proofs.YtmlojdbahlfiaaaGreatDoor
/- SearchNode: what a name of a zone does. -/
namespace Go.Proofs.YtmlojdbahlfiaaaGreatDoor
open Go.Px
set_option linter.unusedVariables false
set_option linter.unusedSimpArgs false
set_option maxRecDepth 8000

theorem OwnR.few {α : Type} {el : α → List Value} {sz : Nat} (hsz : 0 < sz) {e : TypeId} {A : Option Addr} {n c : Nat} {xs : List α} {own : SH} (h : OwnR e sz el (.slice A n c) xs own) : xs.length ≤ 9223372036854775807 := by
  have h1 := OwnR.cap hsz h
  rcases h with ⟨hv, rfl, rfl⟩ | ⟨g, cap, rest, hv, rfl, hc, hm⟩
  · exact Nat.zero_le _
  · injection hv with _ _ h3
    unfold maxLen at hm
    omega
theorem tg_self (t : Tg) : (((t.1 : Int) == (t.1 : Int)) && (((t.2.1 : ByteArray) == (t.2.1 : ByteArray)) && ((((t.2.2.1 : ByteArray) == (t.2.2.1 : ByteArray)) && (((t.2.2.2 : Int) == (t.2.2.2 : Int)) && true)) && true))) = true := by
  rw [show ((t.1 : Int) == (t.1 : Int)) = true from beq_self_eq_true _, show ((t.2.2.2 : Int) == (t.2.2.2 : Int)) = true from beq_self_eq_true _, ba_beq.2 rfl, ba_beq.2 rfl]; rfl
abbrev RusW (W : World) (x : Sl) : Prop := x.2.1 ≤ x.2.2 ∧ x.2.2 ≤ maxLen ∧ ∃ ys : List (Int × Sl × Bool × Int × Int), SlIn (imW W) x.1 x.2.1 5 (fun x => [.int .u8 x.1, .slice x.2.1.1 x.2.1.2.1 x.2.1.2.2, .bool x.2.2.1, .int .u8 x.2.2.2.1, .int .u8 x.2.2.2.2]) ys ∧ ∀ y ∈ ys, (fun x => RuW W x) y
end Go.Proofs.YtmlojdbahlfiaaaGreatDoor
/- SearchNode: the row. -/
namespace Go.Proofs.YtmlojdbahlfiaaaGreatDoor
open Go.Px
set_option linter.unusedVariables false
set_option linter.unusedSimpArgs false

theorem ru_of {W : World} {x : Int × Sl × Bool × Int × Int} (h : RuW W x) : ∃ r : Ru, encRu r = [.int .u8 x.1, .slice x.2.1.1 x.2.1.2.1 x.2.1.2.2, .bool x.2.2.1, .int .u8 x.2.2.2.1, .int .u8 x.2.2.2.2] ∧ RuIn (imW W) [] r := by
  obtain ⟨h1, h2, -, h3, h4⟩ := h
  obtain ⟨y, hy, iy⟩ := sb_of h2
  exact ⟨⟨x.1, y, x.2.2.1, x.2.2.2.1, x.2.2.2.2⟩, by rw [encRu, hy], u8_wf h1, iy, u8_wf h3, u8_wf h4⟩
/-- rows whose elements are read by others -/
theorem rows_of {α β : Type} {el : α → List Value} {el2 : β → List Value} {P : α → Prop} {Q : β → Prop} (hst : ∀ x, P x → ∃ y, el2 y = el x ∧ Q y) {sz : Nat} (hne : ∀ y, 0 < (el2 y).length) {W : World} {a : Option Addr} {len : Nat} {xs : List α} (hs : SlIn (imW W) a len sz el xs) (hx : ∀ x ∈ xs, P x) :
    ∃ ys : List β, ys.length = len ∧ RowIn (imW W) [] a ys.length sz el2 ys ∧ ∀ y ∈ ys, Q y := by
  have key : ∀ zs : List α, (∀ y ∈ zs, P y) → ∃ bs : List β, zs.map el = bs.map el2 ∧ ∀ b ∈ bs, Q b := by
    intro zs
    induction zs with
    | nil => intro _; exact ⟨[], rfl, fun b hb => by cases hb⟩
    | cons z zs ih =>
      intro hz
      obtain ⟨b, e, hb⟩ := hst z (hz z (List.mem_cons_self ..))
      obtain ⟨bs, es, hbs⟩ := ih (fun y hy => hz y (List.mem_cons_of_mem _ hy))
      exact ⟨b :: bs, by rw [List.map_cons, List.map_cons, e, es], fun c hc => by rcases List.mem_cons.1 hc with rfl | hc; exact hb; exact hbs c hc⟩
  obtain ⟨bs, e, hbs⟩ := key xs hx
  obtain ⟨hl, hc⟩ := hs
  have hlen : xs.length = bs.length := by have := congrArg List.length e; rwa [List.length_map, List.length_map] at this
  refine ⟨bs, by omega, RowIn.of_slin (el := el2) hne ⟨rfl, fun i b hb => ?_⟩, hbs⟩
  have hi : i < bs.length := by obtain ⟨h, _⟩ := List.getElem?_eq_some_iff.1 hb; exact h
  have hx2 := List.getElem?_eq_getElem (l := xs) (i := i) (by omega)
  have he : (xs.map el)[i]? = (bs.map el2)[i]? := by rw [e]
  rw [List.getElem?_map, List.getElem?_map, hb, hx2] at he
  have he := Option.some.inj he
  obtain ⟨a', ha, hcell⟩ := hc i _ hx2
  exact ⟨a', ha, by rw [← he]; exact hcell⟩
theorem rus_of {W : World} {a : Option Addr} {len cap : Nat} (h : RusW W (a, len, cap)) : ∃ rs : List Ru, rs.length = len ∧ RowIn (imW W) [] a rs.length 5 encRu rs ∧ (∀ r ∈ rs, RuIn (imW W) [] r) ∧ rs.length ≤ 9223372036854775807 := by
  obtain ⟨h1, h2, ys, hs, hy⟩ := h
  obtain ⟨rs, hl, hr, hq⟩ : ∃ rs : List Ru, rs.length = len ∧ RowIn (imW W) [] a rs.length 5 encRu rs ∧ ∀ r ∈ rs, RuIn (imW W) [] r := rows_of (P := RuW W) (el2 := encRu) (Q := RuIn (imW W) []) (fun x hx => ru_of hx) (fun y => by simp [encRu]) hs hy
  have h3 : len ≤ cap ∧ cap ≤ maxLen := ⟨h1, h2⟩
  exact ⟨rs, hl, hr, hq, by unfold maxLen at h3; omega⟩
end Go.Proofs.YtmlojdbahlfiaaaGreatDoor
/- Triggers are in an order, and so is what goes ahead. -/
namespace Go.Proofs.YtmlojdbahlfiaaaGreatDoor
open Go.Px
set_option linter.unusedVariables false
set_option linter.unusedSimpArgs false

theorem less_def (a b : Tg) : lessT a b = if a.2.1 = b.2.1 then Op.bytesLess a.2.2.1.toList b.2.2.1.toList else Op.bytesLess a.2.1.toList b.2.1.toList := by
  unfold lessT
  by_cases h : a.2.1 = b.2.1
  · rw [if_pos h, show (a.2.1.toList == b.2.1.toList) = true from keq.2 h]; rfl
  · rw [if_neg h, show (a.2.1.toList == b.2.1.toList) = false from Bool.eq_false_iff.2 fun e => h (keq.1 e)]; rfl
theorem less_irr (a : Tg) : lessT a a = false := by rw [less_def, if_pos rfl, bl_irrefl]
theorem less_trans {a b c : Tg} (h : lessT a b = true) (g : lessT b c = true) : lessT a c = true := by
  rw [less_def] at h g ⊢
  by_cases e : a.2.1 = b.2.1
  · rw [if_pos e] at h
    by_cases e2 : b.2.1 = c.2.1
    · rw [if_pos e2] at g
      rw [if_pos (e.trans e2)]; exact bl_trans h g
    · rw [if_neg e2] at g
      rw [if_neg (by rw [e]; exact e2), e]; exact g
  · rw [if_neg e] at h
    by_cases e2 : b.2.1 = c.2.1
    · rw [if_pos e2] at g
      rw [if_neg (by rw [← e2]; exact e), ← e2]; exact h
    · rw [if_neg e2] at g
      have t := bl_trans h g
      rw [if_neg (fun e3 => by rw [e3, bl_irrefl] at t; cases t)]; exact t
/-! ### what goes ahead -/
theorem ahead_iff {z z' : Nat} {t t' : Tg} : ahead z z' t t' = true ↔ z < z' ∨ (z = z' ∧ (rkN t < rkN t' ∨ (rkN t = rkN t' ∧ lessT t t' = true))) := by
  unfold ahead rkLt
  by_cases e : z = z'
  · by_cases e2 : rkN t = rkN t'
    · rw [if_pos ⟨e, e2⟩]
      exact ⟨fun h => .inr ⟨e, .inr ⟨e2, h⟩⟩, fun h => by rcases h with h | ⟨_, h | ⟨_, h⟩⟩; omega; omega; exact h⟩
    · rw [if_neg (fun h => e2 h.2), if_pos e, decide_eq_true_eq]
      exact ⟨fun h => .inr ⟨e, .inl h⟩, fun h => by rcases h with h | ⟨_, h | ⟨h, _⟩⟩ <;> omega⟩
  · rw [if_neg (fun h => e h.1), if_neg e, decide_eq_true_eq]
    exact ⟨fun h => .inl h, fun h => by rcases h with h | ⟨h, _⟩ <;> omega⟩
theorem ahead_irr (z : Nat) (t : Tg) : ahead z z t t = false := by
  cases h : ahead z z t t with
  | false => rfl
  | true =>
    rcases ahead_iff.1 h with h | ⟨_, h | ⟨_, h⟩⟩
    · omega
    · omega
    · rw [less_irr] at h; cases h
theorem ahead_trans {x y z : Nat} {a b c : Tg} (h : ahead x y a b = true) (g : ahead y z b c = true) : ahead x z a c = true := by
  rw [ahead_iff] at h g ⊢
  rcases h with h | ⟨e, h⟩
  · rcases g with g | ⟨e, g⟩
    · exact .inl (by omega)
    · exact .inl (by omega)
  · rcases g with g | ⟨e2, g⟩
    · exact .inl (by omega)
    · refine .inr ⟨e.trans e2, ?_⟩
      rcases h with h | ⟨h1, h2⟩
      · rcases g with g | ⟨g1, _⟩ <;> exact .inl (by omega)
      · rcases g with g | ⟨g1, g2⟩
        · exact .inl (by omega)
        · exact .inr ⟨h1.trans g1, less_trans h2 g2⟩
end Go.Proofs.YtmlojdbahlfiaaaGreatDoor
/- The law's Wins. -/
namespace Go.Proofs.YtmlojdbahlfiaaaGreatDoor
open Go.Px
set_option linter.unusedVariables false
set_option linter.unusedSimpArgs false
set_option maxRecDepth 8000

/-- what a record brings that fits -/
noncomputable def cand (f : Fa) (p : Pl) (r : Rc) : Option (Tg × Av) := match nodeF p r.1 with
  | some (t, a) => if p.live = true ∧ a.k ≠ 1 ∧ matchT t f = true then some (t, a) else none
  | none => none
abbrev wH (b5 b6 b11 : Nat) (f : Fa) (st : Bs) (q : Option Addr) (cc : Nat) (p : Pl) (S : SH) : SH := plB b11 p :: (vdB b6 (bsV st) q (bsV st).2.2.rs.length cc :: (faB b5 f :: S))
theorem notAhead {k z : Nat} {t t' : Tg} (h : ahead k z t t' = false) : rkLt k z t t' = false ∧ ((k = z ∧ rkN t = rkN t') → lessT t t' = false) := by
  unfold ahead at h
  by_cases e : k = z ∧ rkN t = rkN t'
  · rw [if_pos e] at h
    refine ⟨?_, fun _ => h⟩
    unfold rkLt
    rw [if_pos e.1]
    exact decide_eq_false (by omega)
  · rw [if_neg e] at h
    exact ⟨h, fun g => absurd g e⟩
section
variable {b5 b6 b11 : Nat} {f : Fa} {st : Bs} {S T : SH} {I0 J : IMem} {p : Pl} {k : Nat} {q : Option Addr} {cc : Nat}
theorem wins_rec {R : RT} {g3 : bolterlaw19_Wins_t3} {g6 : bolterlaw19_Wins_t6} {found : Bool} {a0 : Option Addr} {n0 c0 : Nat} {q0 i0 : Int} {zp : Option Addr} {zc : Nat} {j : Nat} {r : Rc} (g : GL I0) (hle : I0.le J) (hf : FaIn I0 S f) (hp : PlIn I0 S p) (hk : k < 2048) (hok : BsOK st)
    (hv : RowIn I0 S q (bsV st).2.2.rs.length 4 encR (bsV st).2.2.rs) (hvl : (bsV st).2.2.rs.length ≤ 9223372036854775807) (hj : p.zs[j]? = some r) (hzp : p.zn.1 = zp)
    (hB : ∀ t a, cand f p r = some (t, a) → ∃ z t' a', st = some (z, t', a') ∧ ahead k z t t' = false)
    (hs : Sub (wH b5 b6 b11 f st q cc p S) T)
    (hag : ∀ J' T' (found' : Bool), I0.le J' → Sub (wH b5 b6 b11 f st q cc p S) T' → (found = true → found' = true) → (∀ t a, cand f p r = some (t, a) → st = some (k, t, a) → found' = true) → (st = none → found = false → found' = false) →
      g6 st.isSome ⟨b5, 0, none⟩ ⟨b6, 0, none⟩ found' (k : Int) ⟨b11, 0, none⟩ a0 n0 c0 q0 i0 zp p.zs.length zc (p.zs.length : Int) ((j + 1 : Nat) : Int) J' T') :
    bolterlaw19_Wins_b7 g3 g6 R st.isSome ⟨b5, 0, none⟩ ⟨b6, 0, none⟩ found (k : Int) ⟨b11, 0, none⟩ a0 n0 c0 q0 i0 zp p.zs.length zc (p.zs.length : Int) (j : Int) J T := by
  have hjl := lt_get hj
  have hfew := hp.few
  have hS : Sub S T := hs.drop.drop.drop
  subst hzp
  obtain ⟨a', ha', hc⟩ := ((hp.row.le hle).sub hS).cell hj
  obtain ⟨c0', c1, c2, c3⟩ := CellsR hc
  unfold bolterlaw19_Wins_b7
  rw [ha'] at hag ⊢
  refine ⟨by omega, by omega, _, c0', _, c1, _, c2, _, c3, fun b13 => StP.rec (x := r) ?_⟩
  have hP : Sub (wH b5 b6 b11 f st q cc p S) ((b13, Obj.cells (encR r).toArray 69 (0, 0)) :: T) := hs.skip _
  refine ⟨_, Cell.among hP rfl, _, _, _, Cell.at_ (add_mk _ _ _) (Cell.among hP rfl), _, Cell.at_ (add_mk _ _ _) (Cell.among hP rfl), _, Cell.at_ (add_mk _ _ _) (Cell.among hP rfl), _, Cell.at0 rfl, ?_⟩
  refine (lnode_runs p r.1 (g.le hle) ((hp.le hle).sub hP.drop.drop.drop)).mono ?_
  rintro v J2 T2 hle2 ⟨q2, n2, c2', own2, rfl, ho2, hs2⟩
  have hleJ := hle.trans hle2
  refine ⟨_, _, _, _, _, _, _, _, _, _, _, rfl, fun b14 b15 => ?_⟩
  generalize hnd : nodeF p r.1 = nd at ho2
  refine put_tg (x := t0) (t := (nd.getD (t0, av0)).1) (F := acB b15 acZ :: T2) ((Sub.refl (acB b15 acZ :: (tgB b14 t0 :: T2))).re (by intro a; simp only [cnt_cons]; omega) : Sub (tgB b14 t0 :: (acB b15 acZ :: T2)) (acB b15 acZ :: (tgB b14 t0 :: T2))) fun T3 hT3 => put_av (L := acZ) (a := (nd.getD (t0, av0)).2) (p := q2) (n := n2) (c := c2') (F := tgB b14 (nd.getD (t0, av0)).1 :: T2) rfl (hT3.re (by intro a; simp only [cnt_cons]; omega)) fun T4 hT4 => ?_
  have hall : Sub (own2 ++ wH b5 b6 b11 f st q cc p S) T4 := (((Sub.refl own2).both hP).trans hs2).trans hT4.drop.drop
  have hW := hall.right
  have stay : ∀ (J' : IMem), I0.le J' → cand f p r = none → bolterlaw19_Wins_b9 g3 g6 R st.isSome ⟨b5, 0, none⟩ ⟨b6, 0, none⟩ found (k : Int) ⟨b11, 0, none⟩ ⟨b14, 0, none⟩ ⟨b15, 0, none⟩ a0 n0 c0 q0 i0 (some a') p.zs.length zc (p.zs.length : Int) (j : Int) true J' T4 := by
    intro J' hl' hc0
    unfold bolterlaw19_Wins_b9 bolterlaw19_Wins_b10
    refine bcase_t rfl ?_
    rw [wrap_i64 (by omega) (by omega)]
    exact hag J' T4 found hl' hW id (fun t a e => by rw [hc0] at e; cases e) (fun _ h => h)
  unfold bolterlaw19_Wins_b8
  refine ⟨_, Cell.at_ (add_mk _ _ _) (Cell.among hW rfl), bcase_not (bcase_of (fun hlv => ?_) (fun hlv => stay J2 hleJ (by
    unfold cand
    rw [hnd]
    cases nd with
    | none => rfl
    | some x => show (if p.live = true ∧ x.2.k ≠ 1 ∧ matchT x.1 f = true then some (x.1, x.2) else none) = none; rw [if_neg (fun h => by rw [hlv] at h; cases h.1)])))⟩
  cases nd with
  | none => exact bcase_t rfl (stay J2 hleJ (by rw [cand, hnd]))
  | some x =>
    obtain ⟨t, a⟩ := x
    have hcand : cand f p r = if p.live = true ∧ a.k ≠ 1 ∧ matchT t f = true then some (t, a) else none := by rw [cand, hnd]
    have hA : Sub (acB b15 (encAv a q2 n2 c2') :: (tgB b14 t :: T2)) T4 := hT4
    have hT : Sub (tgB b14 t :: T2) T4 := hA.drop
    obtain ⟨a0', a1, a2, a3⟩ := avX (I := J2) hA
    obtain ⟨e0, e1, e2, _, e3⟩ := tgX (I := J2) hT
    obtain ⟨f0, f1, f2, f3, f4⟩ := bA f (I := J2) hW.drop.drop
    refine bcase_f rfl ⟨_, a0', bcase_beq (fun hk1 => stay J2 hleJ (by rw [hcand, if_neg (fun h => h.2.1 hk1)])) (fun hk1 => ?_)⟩
    refine ⟨_, e0, _, e1, _, e2, _, e3, _, f0, _, f1, _, _, _, f2, _, _, _, f3, _, _, _, f4, (matches_runs t f ((hf.le hleJ).sub hW.drop.drop.drop)).mono ?_⟩
    rintro v J3 T5 hle3 ⟨rfl, rfl⟩
    have hleJ3 := hleJ.trans hle3
    refine ⟨_, rfl, ?_⟩
    by_cases hm : matchT t f = true
    case neg => rw [Bool.not_eq_true] at hm; rw [hm]; exact stay J3 hleJ3 (by rw [hcand, if_neg (fun h => by rw [hm] at h; cases h.2.2)])
    rw [hm]
    have hcs : cand f p r = some (t, a) := by rw [hcand, if_pos ⟨hlv, hk1, hm⟩]
    obtain ⟨z, t', a2', rfl, hah⟩ := hB t a hcs
    obtain ⟨hz, hsm'⟩ := hok.ok z t' a2' rfl
    have hsm : SmT t := node_sm hnd
    obtain ⟨hlt, hless⟩ := notAhead hah
    unfold bolterlaw19_Wins_b9 bolterlaw19_Wins_b11 bolterlaw19_Wins_b12
    have d := fun {J : IMem} => vdX (I := J) hW.drop
    obtain ⟨e0, e1, e2, _, e3⟩ := tgX (I := J3) hT
    refine bcase_f rfl (bcase_f rfl ⟨_, e0, _, e1, _, e2, _, e3, _, d 0 _ rfl, _, Cell.at_ (add_mk _ _ _) (d 1 _ rfl), _, Cell.at_ (add2 _ _ _ _) (d 2 _ rfl), _, Cell.at_ (add2 _ _ _ _) (d 3 _ rfl), _, Cell.at_ (add2 _ _ _ _) (d 4 _ rfl), (ROf_runs (k : Int) t _ _).mono ?_⟩)
    rintro v J4 T6 hle4 ⟨rfl, rfl⟩
    refine ⟨_, _, rfl, Sub.keep hle4 (Sub.refl _), (ROf_runs (z : Int) t' _ _).mono ?_⟩
    rintro v J5 T7 hle5 ⟨rfl, rfl⟩
    refine ⟨_, _, rfl, ?_⟩
    unfold bolterlaw19_Wins_b13
    refine (Better_runs _ _ _ _ _ _).mono ?_
    rintro v J6 T8 hle6 ⟨rfl, rfl⟩
    have l6 := ((hleJ3.trans hle4).trans hle5).trans hle6
    refine ⟨_, rfl, ?_⟩
    rw [bt_small hk hz hsm hsm', hlt, eq_small hk hz hsm hsm']
    have go : ∀ (J' : IMem), I0.le J' → bolterlaw19_Wins_b14 g3 g6 R true ⟨b5, 0, none⟩ ⟨b6, 0, none⟩ found (k : Int) ⟨b11, 0, none⟩ ⟨b14, 0, none⟩ ⟨b15, 0, none⟩ a0 n0 c0 q0 i0 (some a') p.zs.length zc (p.zs.length : Int) (j : Int) false J' T8 := by
      intro J' l'
      unfold bolterlaw19_Wins_b14 bolterlaw19_Wins_b15 bolterlaw19_Wins_b10
      refine bcase_f rfl ?_
      have ejn : IntKind.wrap .i64 ((j : Int) + 1) = ((j + 1 : Nat) : Int) := by rw [wrap_i64 (by omega) (by omega)]; rfl
      rw [ejn]
      refine bcase_of (fun hfd => hag J' T8 true l' hW (fun _ => rfl) (fun _ _ _ _ => rfl) (fun e => by cases e)) (fun hfd => ?_)
      have no : (∀ a1, some (z, t', a2') = some (k, t, a1) → a1 = a → False) → ∀ J2 : IMem, I0.le J2 → g6 true ⟨b5, 0, none⟩ ⟨b6, 0, none⟩ false (k : Int) ⟨b11, 0, none⟩ a0 n0 c0 q0 i0 (some a') p.zs.length zc (p.zs.length : Int) ((j + 1 : Nat) : Int) J2 T8 := by
        intro hno J2 l2
        refine hag J2 T8 false l2 hW (fun h => by rw [hfd] at h; exact h) (fun t1 a1 e1 e2 => ?_) (fun e => by cases e)
        rw [hcs] at e1
        injection e1 with e1
        injection e1 with e1 e3
        subst e1 e3
        exact (hno a e2 rfl).elim
      obtain ⟨e0, e1, e2, _, e3⟩ := tgX (I := J') hT
      obtain ⟨a0', a1, a2, a3⟩ := avX (I := J') hA
      refine ⟨_, d 0 _ rfl, bcase_of (fun hkz => ?_) (fun hkz => no (fun a1 e _ => by injection e with e; injection e with e _; subst e; rw [beq_eq_false_iff_ne] at hkz; exact hkz rfl) J' l')⟩
      have hkz : (k : Int) = (z : Int) := eq_of_beq hkz
      have hkz : k = z := by omega
      refine ⟨_, e0, _, e1, _, e2, _, e3, _, Cell.at_ (add_mk _ _ _) (d 1 _ rfl), _, Cell.at_ (add2 _ _ _ _) (d 2 _ rfl), _, Cell.at_ (add2 _ _ _ _) (d 3 _ rfl), _, Cell.at_ (add2 _ _ _ _) (d 4 _ rfl), bcase_of (fun ht => ?_) (fun ht => no (fun a1 e _ => by injection e with e; injection e with _ e; injection e with e _; subst e; exact absurd (ht.symm.trans (tg_self t')) Bool.false_ne_true) J' l')⟩
      refine ⟨_, a0', _, a1, _, a2, _, _, _, a3, _, Cell.at_ (add_mk _ _ _) (d 5 _ rfl), _, Cell.at_ (add2 _ _ _ _) (d 6 _ rfl), _, Cell.at_ (add2 _ _ _ _) (d 7 _ rfl), _, _, _, Cell.at_ (add2 _ _ _ _) (d 8 _ rfl), ?_⟩
      have ln := ho2.len
      subst ln
      refine (Same_runs (a := a) (b := a2') ((ho2.row encR_len).sub hall.left) ((hv.le l').sub hW.drop.drop.drop) (OwnR.few (by decide) ho2)).mono ?_
      rintro v J7 T9 hle7 ⟨⟨rr, rfl, hr⟩, rfl⟩
      refine ⟨_, rfl, hag J7 _ rr (l'.trans hle7) hW (fun h => by rw [hfd] at h; cases h) (fun t1 a1 e1 e2 => ?_) (fun e => by cases e)⟩
      rw [hcs] at e1
      injection e1 with e1
      injection e1 with e1 e3
      subst e1 e3
      injection e2 with e2
      injection e2 with _ e2
      injection e2 with _ e2
      exact hr.2 e2.symm
    refine bcase_f rfl (bcase_dec (fun h => ?_) (fun h => go J6 l6))
    obtain ⟨e0, e1, e2, _, e3⟩ := tgX (I := J6) hT
    refine ⟨_, e0, _, e1, _, e2, _, e3, _, Cell.at_ (add_mk _ _ _) (d 1 _ rfl), _, Cell.at_ (add2 _ _ _ _) (d 2 _ rfl), _, Cell.at_ (add2 _ _ _ _) (d 3 _ rfl), _, Cell.at_ (add2 _ _ _ _) (d 4 _ rfl), (Less_runs t t' _ _).mono ?_⟩
    rintro v J7 T9 hle7 ⟨rfl, rfl⟩
    refine ⟨_, rfl, ?_⟩
    rw [hless h]
    exact go J7 (l6.trans hle7)
end
end Go.Proofs.YtmlojdbahlfiaaaGreatDoor
/- The law's Wins: its loops; and what search.Of finds is best. -/
namespace Go.Proofs.YtmlojdbahlfiaaaGreatDoor
open Go.Px
set_option linter.unusedVariables false
set_option linter.unusedSimpArgs false
set_option maxRecDepth 8000

/-- what stands of `found` -/
def FdI (f : Fa) (st : Bs) (k j : Nat) (p : Pl) (found : Bool) : Prop := (st = none → found = false) ∧ ∀ z t a, st = some (z, t, a) → (z < k → found = true) ∧ (z = k → ∀ i r, i < j → p.zs[i]? = some r → cand f p r = some (t, a) → found = true)
theorem Wins_runs {ps : List Pl} {a : Option Addr} {c : Nat} {f : Fa} {st : Bs} {q : Option Addr} {cc : Nat} {I : IMem} {S : SH} (g : GL I) (hf : FaIn I S f) (hx : RowIn I S a ps.length 4 encPl ps) (hps : ∀ p ∈ ps, PlIn I S p) (hl : ps.length ≤ 2000) (hok : BsOK st)
    (hv : RowIn I S q (bsV st).2.2.rs.length 4 encR (bsV st).2.2.rs) (hvl : (bsV st).2.2.rs.length ≤ 9223372036854775807)
    (hB1 : ∀ k p r t a, ps[k]? = some p → r ∈ p.zs → cand f p r = some (t, a) → ∃ z t' a', st = some (z, t', a') ∧ ahead k z t t' = false)
    (hB2 : ∀ z t a, st = some (z, t, a) → ∃ p r, ps[z]? = some p ∧ r ∈ p.zs ∧ cand f p r = some (t, a)) :
    Runs Tryz.prog 31 #[.slice a ps.length c, vFa f, vVd (bsV st) q (bsV st).2.2.rs.length cc, .bool st.isSome] I S fun v _ T => v = .bool true ∧ Sub S T := by
  refine bolterlaw19_Wins_fn _ _ _ _ _ _ _ _ _ _ _ _ _ _ _ _ _ _ _ _ _ _ _ _ _ _ _ _ _ ?_
  unfold bolterlaw19_Wins bolterlaw19_Wins_b1 bolterlaw19_Wins_b2
  intro b5 b6
  refine ⟨fun m has x5 x6 found y yn yc n i J T => has = st.isSome ∧ x5 = ⟨b5, 0, none⟩ ∧ x6 = ⟨b6, 0, none⟩ ∧ y = a ∧ yn = ps.length ∧ n = (ps.length : Int) ∧ I.le J ∧ ∃ k : Nat, i = (k : Int) ∧ k ≤ ps.length ∧ m = ps.length - k ∧ ((st = none → found = false) ∧ ∀ z t a, st = some (z, t, a) → z < k → found = true) ∧ Sub (vdB b6 (bsV st) q (bsV st).2.2.rs.length cc :: (faB b5 f :: S)) T,
    ps.length, ⟨rfl, rfl, rfl, rfl, rfl, rfl, IMem.le.refl I, 0, rfl, Nat.zero_le _, rfl, ⟨fun _ => rfl, fun z t a _ h => by omega⟩, Sub.refl _⟩, ?_⟩
  rintro m has x5 x6 found y yn yc n i J T - ⟨rfl, rfl, rfl, rfl, rfl, rfl, hle, k, rfl, hk, rfl, hfd, hs⟩
  unfold bolterlaw19_Wins_l3
  refine bcase_dec (fun hg => ?_) (fun hg => ?_)
  · obtain ⟨p, hp⟩ := get_lt (xs := ps) (k := k) (by omega)
    have hpm := hps p (List.mem_of_getElem? hp)
    have hfew := hpm.few
    obtain ⟨a', rfl, hc⟩ := ((hx.le hle).sub hs.drop.drop).cell hp
    have e0 : Cell J T (a'.add (k * 4)) (.string p.o) := by simpa [Addr.add] using hc 0 _ rfl
    unfold bolterlaw19_Wins_b4
    refine ⟨by omega, by omega, _, e0, _, _, _, hc 1 _ rfl, _, hc 2 _ rfl, _, hc 3 _ rfl, fun b11 => StP.all (vs := encPl p) rfl rfl ?_⟩
    have hlen : p.zn.2.1 = p.zs.length := hpm.len
    refine ⟨_, p.zs.length, _, hlen ▸ (Cell.at0 (o := 1) rfl : Cell J (plB b11 p :: T) ⟨b11, 1, none⟩ (.slice p.zn.1 p.zn.2.1 p.zn.2.2)), ?_⟩
    unfold bolterlaw19_Wins_b5
    refine ⟨fun m has x5 x6 found k' x11 y yn yc n i z zn zc zq j J T => has = st.isSome ∧ x5 = ⟨b5, 0, none⟩ ∧ x6 = ⟨b6, 0, none⟩ ∧ k' = (k : Int) ∧ x11 = ⟨b11, 0, none⟩ ∧ y = some a' ∧ yn = ps.length ∧ n = (ps.length : Int) ∧ i = (k : Int) ∧ z = p.zn.1 ∧ zn = p.zs.length ∧ zq = (p.zs.length : Int) ∧ I.le J ∧ ∃ l : Nat, j = (l : Int) ∧ l ≤ p.zs.length ∧ m = p.zs.length - l ∧ FdI f st k l p found ∧ Sub (wH b5 b6 b11 f st q cc p S) T,
      p.zs.length, ⟨rfl, rfl, rfl, rfl, rfl, rfl, rfl, rfl, rfl, rfl, rfl, rfl, hle, 0, rfl, Nat.zero_le _, rfl, ⟨hfd.1, fun z t a e => ⟨hfd.2 z t a e, fun _ i r h => by omega⟩⟩, hs.cons _⟩, ?_⟩
    rintro m has x5 x6 fd k' x11 y yn yc' n i z zn zc zq j J2 T2 - ⟨rfl, rfl, rfl, rfl, rfl, rfl, rfl, rfl, rfl, rfl, rfl, rfl, hle2, l, rfl, hl2, rfl, hfd2, hs2⟩
    unfold bolterlaw19_Wins_l6
    refine bcase_dec (fun hg2 => ?_) (fun hg2 => ?_)
    · obtain ⟨r, hr⟩ := get_lt (xs := p.zs) (k := l) (by omega)
      refine wins_rec (p := p) (st := st) (f := f) (S := S) g hle2 hf hpm (by omega) hok hv hvl hr rfl (fun t a e => hB1 k p r t a hp (List.mem_of_getElem? hr) e) hs2 ?_
      intro J' T' fd' l' hs' h1 h2 h3
      refine ⟨p.zs.length - (l + 1), by omega, rfl, rfl, rfl, rfl, rfl, rfl, rfl, rfl, rfl, rfl, rfl, rfl, l', l + 1, rfl, by omega, rfl, ⟨fun e => h3 e (hfd2.1 e), fun z t a e => ⟨fun hz => h1 ((hfd2.2 z t a e).1 hz), fun hz i r' hi hr' hc' => ?_⟩⟩, hs'⟩
      by_cases hil : i = l
      · subst hil
        rw [hr] at hr'
        injection hr' with hr'
        subst hr'
        subst hz
        exact h2 t a hc' e
      · exact h1 ((hfd2.2 z t a e).2 hz i r' (by omega) hr' hc')
    · have hke : l = p.zs.length := by omega
      subst hke
      unfold bolterlaw19_Wins_b16
      refine ⟨ps.length - (k + 1), by omega, rfl, rfl, rfl, rfl, rfl, rfl, hle2, k + 1, by rw [wrap_i64 (by omega) (by omega)]; rfl, by omega, rfl, ⟨hfd2.1, fun z t a e hz => ?_⟩, hs2.drop⟩
      by_cases hzk : z = k
      · obtain ⟨p', r, hp', hr, hc'⟩ := hB2 z t a e
        rw [hzk, hp] at hp'
        injection hp' with hp'
        subst hp'
        obtain ⟨i, hi⟩ := List.getElem?_of_mem hr
        exact (hfd2.2 z t a e).2 hzk i r (lt_get hi) hi hc'
      · exact (hfd2.2 z t a e).1 (by omega)
  · have hke : k = ps.length := by omega
    subst hke
    unfold bolterlaw19_Wins_b17
    refine ⟨?_, hs.drop.drop⟩
    cases hst : st with
    | none => rw [hfd.1 hst]; rfl
    | some x =>
      obtain ⟨z, t, a2⟩ := x
      obtain ⟨p', _, hp', _⟩ := hB2 z t a2 hst
      rw [hfd.2 z t a2 hst (lt_get hp')]; rfl
/-! ### what is found is best -/
def BGood (f : Fa) (L : List (Nat × Pl × Rc)) (st : Bs) : Prop := (∀ x ∈ L, ∀ t a, cand f x.2.1 x.2.2 = some (t, a) → ∃ z t' a', st = some (z, t', a') ∧ ahead x.1 z t t' = false) ∧ (∀ z t a, st = some (z, t, a) → ∃ p r, (z, p, r) ∈ L ∧ cand f p r = some (t, a))
theorem step_cand {f : Fa} {k : Nat} {p : Pl} {st : Bs} {r : Rc} (hl : p.live = true) : stepR f k p st r = match cand f p r with | some (t, a) => (if bet k t st = true then some (k, t, a) else st) | none => st := by
  unfold stepR cand
  cases hn : nodeF p r.1 with
  | none => rfl
  | some x =>
    obtain ⟨t, a⟩ := x
    by_cases h : a.k ≠ 1 ∧ matchT t f = true
    · by_cases hb : bet k t st = true
      · simp only [if_pos (show a.k ≠ 1 ∧ matchT t f = true ∧ bet k t st = true from ⟨h.1, h.2, hb⟩), if_pos (show p.live = true ∧ a.k ≠ 1 ∧ matchT t f = true from ⟨hl, h.1, h.2⟩), if_pos hb]
      · simp only [if_neg (fun e : a.k ≠ 1 ∧ matchT t f = true ∧ bet k t st = true => hb e.2.2), if_pos (show p.live = true ∧ a.k ≠ 1 ∧ matchT t f = true from ⟨hl, h.1, h.2⟩), if_neg hb]
    · simp only [if_neg (fun e : a.k ≠ 1 ∧ matchT t f = true ∧ bet k t st = true => h ⟨e.1, e.2.1⟩), if_neg (fun e : p.live = true ∧ a.k ≠ 1 ∧ matchT t f = true => h e.2)]
theorem BGood.skip {f : Fa} {L : List (Nat × Pl × Rc)} {st : Bs} {x : Nat × Pl × Rc} (h : BGood f L st) (hx : cand f x.2.1 x.2.2 = none) : BGood f (L ++ [x]) st := by
  refine ⟨fun y hy t a e => ?_, fun z t a e => ?_⟩
  · rcases List.mem_append.1 hy with hy | hy
    · exact h.1 y hy t a e
    · rw [List.mem_singleton.1 hy, hx] at e; cases e
  · obtain ⟨p, r, hm, hc⟩ := h.2 z t a e
    exact ⟨p, r, List.mem_append_left _ hm, hc⟩
theorem BGood.step {f : Fa} {L : List (Nat × Pl × Rc)} {st : Bs} {k : Nat} {p : Pl} {r : Rc} (h : BGood f L st) (hl : p.live = true) : BGood f (L ++ [(k, p, r)]) (stepR f k p st r) := by
  rw [step_cand hl]
  cases hc : cand f p r with
  | none => exact h.skip hc
  | some x =>
    obtain ⟨t, a⟩ := x
    show BGood f _ (if bet k t st = true then some (k, t, a) else st)
    by_cases hb : bet k t st = true
    · rw [if_pos hb]
      refine ⟨fun y hy t1 a1 e => ?_, fun z t1 a1 e => ?_⟩
      · rcases List.mem_append.1 hy with hy | hy
        · obtain ⟨z, t', a', hst, hah⟩ := h.1 y hy t1 a1 e
          refine ⟨k, t, a, rfl, ?_⟩
          cases hq : ahead y.1 k t1 t with
          | false => rfl
          | true =>
            rw [hst] at hb
            have := ahead_trans hq (show ahead k z t t' = true from hb)
            rw [hah] at this; cases this
        · rw [List.mem_singleton.1 hy] at e ⊢
          rw [show cand f (k, p, r).2.1 (k, p, r).2.2 = some (t, a) from hc] at e
          injection e with e
          injection e with e1 e2
          subst e1 e2
          exact ⟨k, t, a, rfl, ahead_irr k t⟩
      · injection e with e
        injection e with e1 e
        injection e with e2 e3
        subst e1 e2 e3
        exact ⟨p, r, List.mem_append_right _ (List.mem_singleton.2 rfl), hc⟩
    · rw [if_neg hb]
      refine ⟨fun y hy t1 a1 e => ?_, fun z t1 a1 e => ?_⟩
      · rcases List.mem_append.1 hy with hy | hy
        · exact h.1 y hy t1 a1 e
        · rw [List.mem_singleton.1 hy] at e ⊢
          rw [show cand f (k, p, r).2.1 (k, p, r).2.2 = some (t, a) from hc] at e
          injection e with e
          injection e with e1 e2
          subst e1 e2
          cases st with
          | none => exact absurd rfl hb
          | some x =>
            obtain ⟨z, t', a'⟩ := x
            exact ⟨z, t', a', rfl, by simpa [bet] using hb⟩
      · obtain ⟨p', r', hm, hc'⟩ := h.2 z t1 a1 e
        exact ⟨p', r', List.mem_append_left _ hm, hc'⟩
theorem BGood.fold {f : Fa} {k : Nat} {p : Pl} (hl : p.live = true) : ∀ (rs : List Rc) {L : List (Nat × Pl × Rc)} {st : Bs}, BGood f L st → BGood f (L ++ rs.map fun r => (k, p, r)) (rs.foldl (stepR f k p) st)
  | [], L, st, h => by rw [List.map_nil, List.append_nil]; exact h
  | r :: rs, L, st, h => by
    have := BGood.fold (k := k) hl rs (h.step (k := k) (r := r) hl)
    rw [List.append_assoc] at this
    exact this
theorem BGood.skips {f : Fa} {k : Nat} {p : Pl} (hl : p.live = false) : ∀ (rs : List Rc) {L : List (Nat × Pl × Rc)} {st : Bs}, BGood f L st → BGood f (L ++ rs.map fun r => (k, p, r)) st
  | [], L, st, h => by rw [List.map_nil, List.append_nil]; exact h
  | r :: rs, L, st, h => by
    have hn : cand f p r = none := by
      unfold cand
      cases nodeF p r.1 with
      | none => rfl
      | some x => exact if_neg (fun h => by rw [hl] at h; cases h.1)
    have := BGood.skips (k := k) hl rs (h.skip (x := (k, p, r)) hn)
    rw [List.append_assoc] at this
    exact this
def allC : List Pl → Nat → List (Nat × Pl × Rc)
  | [], _ => []
  | p :: ps, k => (p.zs.map fun r => (k, p, r)) ++ allC ps (k + 1)
theorem mem_allC : ∀ (ps : List Pl) (k : Nat) (k' : Nat) (p : Pl) (r : Rc), (k', p, r) ∈ allC ps k ↔ ∃ i, k' = k + i ∧ ps[i]? = some p ∧ r ∈ p.zs
  | [], k, k', p, r => by
    exact ⟨fun h => (by cases h), fun ⟨i, _, h, _⟩ => (by simp at h)⟩
  | q :: ps, k, k', p, r => by
    unfold allC
    rw [List.mem_append, mem_allC ps (k + 1), List.mem_map]
    constructor
    · rintro (⟨r', hr', e⟩ | ⟨i, e, hi, hr⟩)
      · injection e with e1 e; injection e with e2 e3
        subst e1 e2 e3
        exact ⟨0, rfl, rfl, hr'⟩
      · exact ⟨i + 1, by omega, hi, hr⟩
    · rintro ⟨i, e, hi, hr⟩
      cases i with
      | zero =>
        have hi : q = p := Option.some.inj hi
        subst hi
        exact .inl ⟨r, hr, by rw [e]; rfl⟩
      | succ i => exact .inr ⟨i, by omega, hi, hr⟩
theorem BGood.ofF {f : Fa} : ∀ (ps : List Pl) (k : Nat) {L : List (Nat × Pl × Rc)} {st : Bs}, BGood f L st → BGood f (L ++ allC ps k) (ofF f ps k st)
  | [], k, L, st, h => by show BGood f (L ++ []) st; rw [List.append_nil]; exact h
  | p :: ps, k, L, st, h => by
    show BGood f (L ++ ((p.zs.map fun r => (k, p, r)) ++ allC ps (k + 1))) (Go.Proofs.YtmlojdbahlfiaaaGreatDoor.ofF f ps (k + 1) (polF f k p st))
    rw [← List.append_assoc]
    refine BGood.ofF ps (k + 1) ?_
    unfold polF
    by_cases hl : p.live = true
    · rw [if_pos hl]; exact h.fold hl p.zs
    · rw [if_neg hl]; exact h.skips (by simpa using hl) p.zs
theorem of_best (f : Fa) (ps : List Pl) : (∀ k p r t a, ps[k]? = some p → r ∈ p.zs → cand f p r = some (t, a) → ∃ z t' a', ofF f ps 0 none = some (z, t', a') ∧ ahead k z t t' = false) ∧
    (∀ z t a, ofF f ps 0 none = some (z, t, a) → ∃ p r, ps[z]? = some p ∧ r ∈ p.zs ∧ cand f p r = some (t, a)) := by
  have h0 : BGood f [] none := ⟨fun x hx => (by cases hx), fun z t a e => (by cases e)⟩
  have h := BGood.ofF ps 0 h0
  rw [List.nil_append] at h
  refine ⟨fun k p r t a hp hr hc => h.1 (k, p, r) ((mem_allC ps 0 k p r).2 ⟨k, by omega, hp, hr⟩) t a hc, fun z t a e => ?_⟩
  obtain ⟨p, r, hm, hc⟩ := h.2 z t a e
  obtain ⟨i, e, hi, hr⟩ := (mem_allC ps 0 z p r).1 hm
  have : z = i := by omega
  subst this
  exact ⟨p, r, hi, hr, hc⟩
theorem cand_node {f : Fa} {p : Pl} {r : Rc} {t : Tg} {a : Av} (h : cand f p r = some (t, a)) : nodeF p r.1 = some (t, a) := by
  unfold cand at h
  cases hn : nodeF p r.1 with
  | none => rw [hn] at h; cases h
  | some x =>
    rw [hn] at h
    obtain ⟨t1, a1⟩ := x
    have h : (if p.live = true ∧ a1.k ≠ 1 ∧ matchT t1 f = true then some (t1, a1) else none) = some (t, a) := h
    split at h
    · exact h
    · cases h
theorem of_ok (f : Fa) (ps : List Pl) (hl : ps.length ≤ 2000) : BsOK (ofF f ps 0 none) := ⟨fun z t a e => by
  obtain ⟨p, r, hp, hr, hc⟩ := (of_best f ps).2 z t a e
  have := lt_get hp
  exact ⟨by omega, node_sm (cand_node hc)⟩⟩
end Go.Proofs.YtmlojdbahlfiaaaGreatDoor
/- Policies by numbers. -/
namespace Go.Proofs.YtmlojdbahlfiaaaGreatDoor
open Go.Px
set_option linter.unusedVariables false
set_option linter.unusedSimpArgs false
set_option maxRecDepth 8000

/-- a list of rules, and a list of such -/
structure Rus where
  a : Sl
  rs : List Ru
abbrev elRus (x : Rus) : List Value := [.slice x.a.1 x.a.2.1 x.a.2.2]
def RusIn (I : IMem) (S : SH) (x : Rus) : Prop := RowIn I S x.a.1 x.rs.length 5 encRu x.rs ∧ x.a.2.1 = x.rs.length ∧ x.rs.length ≤ 9223372036854775807 ∧ ∀ r ∈ x.rs, RuIn I S r
theorem RusIn.keep {I J : IMem} {S T : SH} {x : Rus} (hk : Keep I S J T) (h : RusIn I S x) : RusIn J T x := ⟨h.1.keep hk, h.2.1, h.2.2.1, fun r hr => (h.2.2.2 r hr).keep hk⟩
theorem encPl_len (p : Pl) : (encPl p).length = 4 := rfl
theorem encPl_one (p : Pl) : (encPl p).all one = true := rfl
abbrev OwnP (v : Value) (xs : List Pl) (own : SH) : Prop := OwnR 61 4 encPl v xs own
abbrev zP : List Value := [.string ⟨#[]⟩, .slice none 0 0, .bool false, .int .i64 0]
theorem app_p {xs : List Pl} {p : Pl} {b : Nat} {v : Value} {S F own : SH} {I : IMem} {K : Option Addr → Nat → Nat → SH → Prop} (hs : Sub (own ++ F) S) (hv : OwnP v xs own) (hl : xs.length ≤ 100000000)
    (hK : ∀ q n c own' T, OwnP (.slice q n c) (xs ++ [p]) own' → Sub (own' ++ F) T → K q n c T) :
    AppG 61 4 56 zP (some (.slice 61)) I ((b, .cells #[.string p.o, .slice p.zn.1 p.zn.2.1 p.zn.2.2, .bool p.live, .int .i64 p.over] 61 (0, 0)) :: S) v (.slice (some ⟨b, 0, none⟩) 1 1) K := by
  obtain ⟨G, hG⟩ := hs.skip (plB b p)
  exact AppG.own (xs := xs) (ys := [p]) (el := encPl) encPl_len encPl_one rfl (by rw [List.append_assoc] at hG; exact hG) hv ⟨Rd.list (L := encPl p) rfl (by simp [encPl]), rfl⟩ (by simp only [List.length_singleton, maxLen]; omega) (by simp only [List.length_singleton]; omega)
    fun p n c own' h => hK p n c own' _ h ⟨G, by rw [List.append_assoc]⟩
def PolR (S : SH) : Value → IMem → SH → Prop := fun v J T => ∃ (ps : List Pl) (p : Option Addr) (c : Nat) (own zown : SH), v = .slice p ps.length c ∧ OwnP (.slice p ps.length c) ps own ∧ (∀ x ∈ ps, PlIn J zown x) ∧ ps.length ≤ 5 ∧ Sub (own ++ (zown ++ S)) T
theorem plX {I : IMem} {S F : SH} {b : Nat} {p : Pl} (hs : Sub (plB b p :: F) S) : Cell I S ⟨b, 0, none⟩ (.string p.o) ∧ Cell I S ((⟨b, 0, none⟩ : Addr).add 1) (.slice p.zn.1 p.zn.2.1 p.zn.2.2) ∧ Cell I S ((⟨b, 0, none⟩ : Addr).add 2) (.bool p.live) ∧ Cell I S ((⟨b, 0, none⟩ : Addr).add 3) (.int .i64 p.over) :=
  ⟨Cell.among hs rfl, Cell.at_ (add_mk _ _ _) (Cell.among hs rfl), Cell.at_ (add_mk _ _ _) (Cell.among hs rfl), Cell.at_ (add_mk _ _ _) (Cell.among hs rfl)⟩
theorem Policies_runs {rs : List Rus} {ov : Sb} {a : Option Addr} {c : Nat} {I : IMem} {S : SH} (g : GL I) (hx : RowIn I S a rs.length 1 elRus rs) (hl : rs.length ≤ 9223372036854775807) (hr : ∀ r ∈ rs, RusIn I S r) (ho : SbIn I S ov) :
    Runs Tryz.prog 29 #[.slice a rs.length c, .slice ov.a.1 ov.a.2.1 ov.a.2.2] I S (PolR S) := by
  obtain ⟨yr, yn, yl, yb⟩ := ho
  rw [yn]
  refine bolterlaw19_Policies_fn _ _ _ _ _ _ _ _ _ ?_
  unfold bolterlaw19_Policies bolterlaw19_Policies_b1 bolterlaw19_Policies_b2
  refine ⟨fun m y yn yc z zn zc x xn xc q i J T => y = ov.a.1 ∧ yn = ov.ns.length ∧ x = a ∧ xn = rs.length ∧ q = (rs.length : Int) ∧ I.le J ∧ ∃ (k : Nat) (ps : List Pl) (own zown : SH), i = (k : Int) ∧ k ≤ rs.length ∧ k ≤ 5 ∧ m = rs.length - k ∧ OwnP (.slice z zn zc) ps own ∧ (∀ x ∈ ps, PlIn J zown x) ∧ ps.length = k ∧ Sub (own ++ (zown ++ S)) T,
    rs.length, ⟨rfl, rfl, rfl, rfl, rfl, IMem.le.refl I, 0, [], [], [], rfl, Nat.zero_le _, Nat.zero_le _, rfl, OwnR.nil, fun x hx => (by cases hx), rfl, Sub.refl S⟩, ?_⟩
  rintro m y yn' yc z zn zc x xn xc q i J T - ⟨rfl, rfl, rfl, rfl, rfl, hle, k, ps, own, zown, rfl, hk, hk5, rfl, ho, hps, hpl, hs⟩
  have fin : ∀ T', Sub (own ++ (zown ++ S)) T' → bolterlaw19_Policies_b5 (PolR S) z zn zc J T' := by
    intro T' hs'
    unfold bolterlaw19_Policies_b5
    have := ho.len
    subst this
    exact ⟨ps, z, zc, own, zown, rfl, ho, hps, by omega, hs'⟩
  unfold bolterlaw19_Policies_l3
  refine bcase_dec (fun hg => ?_) (fun _ => fin T hs)
  have hST : Sub S T := hs.right.right
  obtain ⟨r, hrk⟩ := get_lt (xs := rs) (k := k) (by omega)
  obtain ⟨r1, r2, r3, r4⟩ := hr r (List.mem_of_getElem? hrk)
  obtain ⟨a', ea, hc⟩ := ((hx.sub hST).le hle).cell hrk
  have h0 := hc 0 _ rfl
  rw [e_add0] at h0
  unfold bolterlaw19_Policies_b4
  rw [ea]
  refine ⟨by omega, by omega, _, r.rs.length, _, by rw [← r2]; exact h0, ?_⟩
  refine bcase_beq (fun _ => fin _ hs) (fun h5 => ?_)
  refine (Origin_runs (k := k) (by omega) _ _).mono ?_
  rintro v J1 T1 hle1 ⟨rfl, rfl⟩
  refine ⟨_, rfl, (Origin_runs (k := k) (by omega) _ _).mono ?_⟩
  rintro v J2 T2 hle2 ⟨rfl, rfl⟩
  have l2 := (hle.trans hle1).trans hle2
  refine ⟨_, rfl, (Zone_runs (g.le l2) ((r1.le l2).sub hST) r3 (fun w hw => ((r4 w hw).le l2).sub hST)).mono ?_⟩
  rintro v J3 T3 hle3 ⟨zs, p, zc', ownz, rfl, hoz, hzl, hs3⟩
  have l3 := l2.trans hle3
  refine ⟨_, _, _, rfl, fun b8 => StP.all (vs := encPl ⟨orgN k, (p, zs.length, zc'), zs, true, 0⟩) rfl rfl ?_⟩
  -- a policy is put behind
  have put : ∀ (lv : Bool) (over : Int) (T' : SH), Sub (plB b8 ⟨orgN k, (p, zs.length, zc'), zs, lv, over⟩ :: (own ++ ((ownz ++ zown) ++ S))) T' →
      bolterlaw19_Policies_b9 (fun y yn yc z zn zc x xn xc q i J T => ∃ m', m' < rs.length - k ∧ (y = ov.a.1 ∧ yn = ov.ns.length ∧ x = some a' ∧ xn = rs.length ∧ q = (rs.length : Int) ∧ I.le J ∧ ∃ (k : Nat) (ps : List Pl) (own zown : SH), i = (k : Int) ∧ k ≤ rs.length ∧ k ≤ 5 ∧ m' = rs.length - k ∧ OwnP (.slice z zn zc) ps own ∧ (∀ x ∈ ps, PlIn J zown x) ∧ ps.length = k ∧ Sub (own ++ (zown ++ S)) T)) (PolR S) ov.a.1 ov.ns.length yc z zn zc ⟨b8, 0, none⟩ (some a') rs.length xc (rs.length : Int) (k : Int) J3 T' := by
    intro lv over T' hs'
    unfold bolterlaw19_Policies_b9
    obtain ⟨c0, c1, c2, c3⟩ := plX (I := J3) hs'
    refine ⟨_, c0, _, _, _, c1, _, c2, _, c3, fun b50 => app_p (p := ⟨orgN k, (p, zs.length, zc'), zs, lv, over⟩) hs'.drop ho (by omega) ?_⟩
    intro q n c own' T4 ho' hs4
    unfold bolterlaw19_Policies_b10
    refine ⟨rs.length - (k + 1), by omega, rfl, rfl, rfl, rfl, rfl, l3, k + 1, _, own', ownz ++ zown, by rw [wrap_i64 (by omega) (by omega)]; rfl, by omega, by omega, rfl, ho', ?_, by rw [List.length_append, hpl]; rfl, hs4⟩
    intro w hw
    rcases List.mem_append.1 hw with hw | hw
    · exact (((hps w hw).le ((hle1.trans hle2).trans hle3))).sub (Sub.right (Sub.refl _))
    · rw [List.mem_singleton.1 hw]
      exact ⟨(hoz.row encR_len).sub (Sub.left (Sub.refl _)), rfl, by show zs.length ≤ 10000; omega⟩
  have hs0 : Sub (plB b8 ⟨orgN k, (p, zs.length, zc'), zs, true, 0⟩ :: (own ++ ((ownz ++ zown) ++ S))) (plB b8 ⟨orgN k, (p, zs.length, zc'), zs, true, 0⟩ :: T3) :=
    (((((Sub.refl ownz).both hs).trans hs3).re (by intro a; simp only [cnt_cons, cnt_app]; omega)).cons _)
  unfold bolterlaw19_Policies_b6 bolterlaw19_Policies_b7
  refine bcase_dec (fun hov => ?_) (fun _ => put true 0 _ hs0)
  have hS0 : Sub S (plB b8 ⟨orgN k, (p, zs.length, zc'), zs, true, 0⟩ :: T3) := hs0.drop.right.right
  obtain ⟨u, hu⟩ := get_lt (xs := ov.ns) (k := k) (by omega)
  obtain ⟨a2, ea2, hc2⟩ := (yr.le l3).cell hu
  have h2 := hc2 0 (.int .u8 u) rfl
  rw [e_add0] at h2
  rw [ea2] at put ⊢
  refine ⟨S, hS0.keep (IMem.le.refl J3), by omega, by omega, u, h2, by omega, by omega, u, h2, StP.at_ (add_mk _ _ _) (StP.among (e := 61) (L := encPl ⟨orgN k, (p, zs.length, zc'), zs, true, 0⟩) hs0 (by show 3 + 1 ≤ 4; decide) rfl rfl ?_)⟩
  intro T5 hs5
  refine ⟨hs5.drop.right.right.keep (IMem.le.refl J3), ?_⟩
  generalize IntKind.wrap .i64 (IntKind.wrap .u8 ((u.tmod 24).tdiv 2)) = o1 at hs5
  generalize ((IntKind.wrap .u8 (u.tdiv 64)) != 3) = lv
  have hs5 : Sub (plB b8 ⟨orgN k, (p, zs.length, zc'), zs, true, o1⟩ :: (own ++ ((ownz ++ zown) ++ S))) T5 := hs5
  refine StP.at_ (add_mk _ _ _) (StP.among (e := 61) (L := encPl ⟨orgN k, (p, zs.length, zc'), zs, true, o1⟩) hs5 (by show 2 + 1 ≤ 4; decide) rfl rfl ?_)
  intro T6 hs6
  have hs6 : Sub (plB b8 ⟨orgN k, (p, zs.length, zc'), zs, lv, o1⟩ :: (own ++ ((ownz ++ zown) ++ S))) T6 := hs6
  unfold bolterlaw19_Policies_b8
  obtain ⟨_, _, _, c3⟩ := plX (I := J3) hs6
  refine ⟨_, c3, bcase_dec (fun _ => ?_) (fun _ => put lv o1 T6 hs6)⟩
  refine StP.at_ (add_mk _ _ _) (StP.among (e := 61) (L := encPl ⟨orgN k, (p, zs.length, zc'), zs, lv, o1⟩) hs6 (by show 3 + 1 ≤ 4; decide) rfl rfl ?_)
  intro T7 hs7
  exact put lv 0 T7 hs7
end Go.Proofs.YtmlojdbahlfiaaaGreatDoor
/- SearchWins: the policy that wins. -/
namespace Go.Proofs.YtmlojdbahlfiaaaGreatDoor
open Go.Px
set_option linter.unusedVariables false
set_option linter.unusedSimpArgs false
set_option maxRecDepth 8000

theorem cand_fac (q : Qr) (a s h a' s' h' : Sl) (p : Pl) (r : Rc) : cand (facF q a s h) p r = cand (facF q a' s' h') p r := rfl
theorem qr_at {q : Qr} {J : IMem} {T : SH} {b : Nat} {F : SH} (hs : Sub (qrB b q :: F) T) : ∀ (j : Nat) (u : Value), (encQr q).toArray[j]? = some u → Cell J T ⟨b, j, none⟩ u := fun j u h => Cell.among hs h
theorem searchWins_runs {rs : List Rus} {ov : Sb} {a : Option Addr} {c : Nat} {q : Qr} {I : IMem} {S : SH} (g : GL I) (hx : RowIn I S a rs.length 1 elRus rs) (hl : rs.length ≤ 9223372036854775807) (hr : ∀ r ∈ rs, RusIn I S r) (ho : SbIn I S ov) (hq : QrIn I S q) :
    Runs Tryz.prog 7 #[.slice a rs.length c, .slice ov.a.1 ov.a.2.1 ov.a.2.2, vQr q] I S fun v _ _ => v = .bool true := by
  refine bolterlaw19_SearchWins_fn _ _ _ _ _ _ _ _ _ _ _ _ _ _ _ _ _ _ _ _ _ _ _ _ _ ?_
  unfold bolterlaw19_SearchWins
  intro b5
  refine (awake19_runs g _).mono ?_
  rintro v J0 T0 hle0 ⟨rfl, rfl⟩
  have hS0 : Sub S (qrB b5 q :: S) := (Sub.refl S).skip _
  have up : ∀ {J : IMem} {T : SH}, I.le J → Sub S T → Keep I S J T := fun h g => g.keep h
  refine ⟨_, rfl, bcase_f rfl ((Policies_runs (S := qrB b5 q :: S) (g.le hle0) (hx.keep (up hle0 hS0)) hl (fun r h => (hr r h).keep (up hle0 hS0)) (ho.keep (up hle0 hS0))).mono ?_)⟩
  rintro v J1 T1 hle1 ⟨ps, p, pc, own, zown, rfl, hop, hps, hpl, hs1⟩
  have l1 := hle0.trans hle1
  have hQ1 := hs1.right.right
  have d := qr_at (J := J1) hQ1
  refine ⟨_, _, _, rfl, _, d 0 _ rfl, _, _, _, d 1 _ rfl, _, _, _, d 2 _ rfl, _, _, _, d 3 _ rfl, _, _, _, d 4 _ rfl, _, _, _, d 5 _ rfl, ?_⟩
  refine (Facts_runs (hq.keep (up l1 hQ1.drop))).mono ?_
  rintro v J2 T2 hle2 ⟨x1, x2, x3, rfl, hin, hs2⟩
  have l2 := l1.trans hle2
  have hs12 := hs1.trans hs2
  refine ⟨_, _, _, _, _, _, _, _, _, _, _, rfl, ?_⟩
  have hrow : ∀ {J : IMem} {T : SH}, Sub (own ++ (zown ++ qrB b5 q :: S)) T → RowIn J T p ps.length 4 encPl ps := fun h => (OwnR.row encPl_len hop).sub h.left
  refine (Of_runs (g.le l2) hin (hrow hs12) (fun x hx => ((hps x hx).le hle2).sub hs12.right.left) (by omega)).mono ?_
  rintro v J3 T3 hle3 ⟨q3, n3, c3, own3, rfl, ho3, hs3⟩
  have l3 := l2.trans hle3
  refine ⟨_, _, _, _, _, _, _, _, _, _, _, _, rfl, fun b8 => StP.all (vs := encVd (bsV (ofF (facF q x1 x2 x3) ps 0 none)) q3 n3 c3) rfl rfl ?_⟩
  have hbest := of_best (facF q x1 x2 x3) ps
  have hok := of_ok (facF q x1 x2 x3) ps (by omega)
  generalize ofF (facF q x1 x2 x3) ps 0 none = st at hbest hok ho3
  have hln := ho3.len
  subst hln
  have hall : Sub (vdB b8 (bsV st) q3 (bsV st).2.2.rs.length c3 :: (own3 ++ (own ++ (zown ++ qrB b5 q :: S)))) (vdB b8 (bsV st) q3 (bsV st).2.2.rs.length c3 :: T3) := (((Sub.refl own3).both hs12).trans hs3).cons _
  unfold bolterlaw19_SearchWins_b1
  have hQ := hall.drop.right.right.right
  have d := qr_at (J := J3) hQ
  have e := vdX (I := J3) hall
  refine ⟨_, d 0 _ rfl, _, _, _, Cell.at_ (add_mk _ _ _) (d 1 _ rfl), _, _, _, Cell.at_ (add_mk _ _ _) (d 2 _ rfl), _, _, _, Cell.at_ (add_mk _ _ _) (d 3 _ rfl), _, _, _, Cell.at_ (add_mk _ _ _) (d 4 _ rfl), _, _, _, Cell.at_ (add_mk _ _ _) (d 5 _ rfl),
    _, e 0 _ rfl, _, Cell.at_ (add_mk _ _ _) (e 1 _ rfl), _, Cell.at_ (add_mk _ _ _) (e 2 _ rfl), _, Cell.at_ (add_mk _ _ _) (e 3 _ rfl), _, Cell.at_ (add_mk _ _ _) (e 4 _ rfl), _, Cell.at_ (add_mk _ _ _) (e 5 _ rfl), _, Cell.at_ (add_mk _ _ _) (e 6 _ rfl), _, Cell.at_ (add_mk _ _ _) (e 7 _ rfl), _, _, _, Cell.at_ (add_mk _ _ _) (e 8 _ rfl), ?_⟩
  refine (Facts_runs (hq.keep (up l3 hQ.drop))).mono ?_
  rintro v J4 T4 hle4 ⟨y1, y2, y3, rfl, hin4, hs4⟩
  have l4 := l3.trans hle4
  have hs14 := hall.trans hs4
  refine ⟨_, _, _, _, _, _, _, _, _, _, _, rfl, hs4.keep hle4, ?_⟩
  refine (Wins_runs (st := st) (g.le l4) hin4 (hrow hs14.drop.right) (fun x hx => ((hps x hx).le ((hle2.trans hle3).trans hle4)).sub hs14.drop.right.right.left) (by omega) hok ((OwnR.row encR_len ho3).sub hs14.drop.left) (OwnR.few (by decide) ho3)
    (fun k p r t a hp hr hc => hbest.1 k p r t a hp hr (by rw [cand_fac q x1 x2 x3 y1 y2 y3]; exact hc)) (fun z t a h => by obtain ⟨p, r, h1, h2, h3⟩ := hbest.2 z t a h; exact ⟨p, r, h1, h2, by rw [cand_fac q y1 y2 y3 x1 x2 x3]; exact h3⟩)).mono ?_
  rintro v J5 T5 hle5 ⟨rfl, hs5⟩
  refine ⟨_, rfl, (hs4.trans hs5).keep (hle4.trans hle5), bcase_t rfl ?_⟩
  unfold bolterlaw19_SearchWins_b2
  cases st with
  | some x => exact bcase_t rfl rfl
  | none =>
    refine bcase_f rfl ⟨_, e 0 _ rfl, bcase_t rfl ⟨_, Cell.at_ (add_mk _ _ _) (e 1 _ rfl), _, Cell.at_ (add2 _ _ _ _) (e 2 _ rfl), _, Cell.at_ (add2 _ _ _ _) (e 3 _ rfl), _, Cell.at_ (add2 _ _ _ _) (e 4 _ rfl), bcase_t (tg_self t0) ⟨_, Cell.at_ (add_mk _ _ _) (e 5 _ rfl), _, Cell.at_ (add2 _ _ _ _) (e 6 _ rfl), _, Cell.at_ (add2 _ _ _ _) (e 7 _ rfl), _, _, _, Cell.at_ (add2 _ _ _ _) (e 8 _ rfl), ?_⟩⟩⟩
    refine (Same_runs (a := av0) (b := av0) (p := q3) (q := none) (c := c3) (d := 0) ((OwnR.row encR_len ho3).sub (hs14.drop.left.trans hs5)) ⟨rfl, fun i x h => by simp [av0] at h⟩ (Nat.zero_le _)).mono ?_
    rintro v J6 T6 hle6 ⟨⟨r, rfl, hr⟩, -⟩
    exact ⟨_, rfl, by rw [hr.2 rfl]⟩
abbrev RussW (W : World) (x : Sl) : Prop := x.2.1 ≤ x.2.2 ∧ x.2.2 ≤ maxLen ∧ ∃ ys : List Sl, SlIn (imW W) x.1 x.2.1 1 (fun x => [.slice x.1 x.2.1 x.2.2]) ys ∧ ∀ y ∈ ys, (fun x => RusW W x) y
theorem russ_of {W : World} {a : Option Addr} {len cap : Nat} (h : RussW W (a, len, cap)) : ∃ rs : List Rus, rs.length = len ∧ RowIn (imW W) [] a rs.length 1 elRus rs ∧ (∀ r ∈ rs, RusIn (imW W) [] r) ∧ rs.length ≤ 9223372036854775807 := by
  obtain ⟨h1, h2, ys, hs, hy⟩ := h
  obtain ⟨rs, hl, hr, hq⟩ : ∃ rs : List Rus, rs.length = len ∧ RowIn (imW W) [] a rs.length 1 elRus rs ∧ ∀ r ∈ rs, RusIn (imW W) [] r := rows_of (P := RusW W) (el2 := elRus) (Q := RusIn (imW W) []) (fun x hx => by
    obtain ⟨b, l, c⟩ := x
    obtain ⟨rs, e, hr, hq, hl⟩ := rus_of hx
    exact ⟨⟨(b, l, c), rs⟩, rfl, hr, e.symm, hl, hq⟩) (fun y => Nat.one_pos) hs hy
  have h3 : len ≤ cap ∧ cap ≤ maxLen := ⟨h1, h2⟩
  exact ⟨rs, hl, hr, hq, by unfold maxLen at h3; omega⟩
theorem SearchWins_row (W : World) (g : GL (imW W)) (a0 : Option Addr) (l0 c0 : Nat) (b0 : Option Addr) (m0 d0 : Nat) (six : Bool) (a1 : Option Addr) (l1 c1 : Nat) (a2 : Option Addr) (l2 c2 : Nat) (a3 : Option Addr) (l3 c3 : Nat) (a4 : Option Addr) (l4 c4 : Nat) (a5 : Option Addr) (l5 c5 : Nat)
    (w0 : RussW W (a0, l0, c0)) (z0 : l0 ≤ 140737488355328) (w1 : U8W W (b0, m0, d0)) (z1 : m0 ≤ 140737488355328) (w2 : QrW W (six, (a1, l1, c1), (a2, l2, c2), (a3, l3, c3), (a4, l4, c4), (a5, l5, c5))) :
    Runs Tryz.prog 7 #[.slice a0 l0 c0, .slice b0 m0 d0, .agg #[.bool six, .slice a1 l1 c1, .slice a2 l2 c2, .slice a3 l3 c3, .slice a4 l4 c4, .slice a5 l5 c5]] (imW W) [] fun v _ _ => v = .bool true := by
  obtain ⟨rs, rfl, hr, hq, hl⟩ := russ_of w0
  obtain ⟨y, ey, hy⟩ := sb_of w1
  obtain ⟨q, e1, e2, e3, e4, e5, e6, hqr⟩ := qr_of w2
  have ev : Value.agg #[.bool six, .slice a1 l1 c1, .slice a2 l2 c2, .slice a3 l3 c3, .slice a4 l4 c4, .slice a5 l5 c5] = vQr q := by rw [vQr, e1, e2, e3, e4, e5, e6]
  have := searchWins_runs (c := c0) g hr hl hq hy hqr
  rw [ey] at this
  rw [ev]
  exact this
end Go.Proofs.YtmlojdbahlfiaaaGreatDoor
/- The listed variables: the tables and the two errors of strconv; a world where they lie so. -/
namespace Go.Proofs.YtmlojdbahlfiaaaGreatDoor
open Go Go.Px Go.Lib Go.MakeChecks
set_option linter.unusedVariables false
set_option linter.unusedSimpArgs false
set_option maxRecDepth 100000

abbrev LaidL : List (String × DataW Unit) := [("math/bits.deBruijn32tab", Rows.laid_math_bits_deBruijn32tab), ("math/bits.deBruijn64tab", Rows.laid_math_bits_deBruijn64tab), ("internal/strconv.uint64pow10", Rows.laid_internal_strconv_uint64pow10), ("strconv.ErrRange", Rows.laid_strconv_ErrRange), ("strconv.ErrSyntax", Rows.laid_strconv_ErrSyntax)]
theorem ld_at {W : World} {n : String} {cs : Array Value} {g : Nat} (hg : Program.globalNamed Tryz.prog n = some g) (h : W.var? Tryz.prog n = some cs) : ∃ e fz, (imW W).at_ g = some (.cells cs e fz) := by
  simp only [World.var?, hg, Option.bind_some] at h
  split at h
  · rename_i cs' e fz he
    obtain rfl := Option.some.inj h
    exact ⟨e, fz, he⟩
  · cases h
theorem ld_err {W : World} {n : String} {d : DataW Unit} {r : List (String × DataW Unit)} {g : Nat} (h : laidMet Tryz.prog ((n, .iface "*errors.errorString" d) :: r) W)
    (hg : Program.globalNamed Tryz.prog n = some g) (ht : ((Tryz.prog).globals[g]?).map (·.type) = some 127) : ∃ u v, W.var? Tryz.prog n = some #[.iface u v] := by
  obtain ⟨ps, ⟨g0, t0, cs0, f0, p0, q0, hg0, ht0, hv0, hd0, _, e0⟩, _, hrows⟩ := h
  obtain rfl := Option.some.inj (hg.symm.trans hg0)
  obtain rfl := Option.some.inj (ht.symm.trans ht0)
  obtain ⟨l0⟩ := cs0
  obtain ⟨_, u, v, rfl, _⟩ := iface_of_trod (Tryz.underlying127) hd0
  exact ⟨u, v, hv0⟩
abbrev ld64 : List Int := [0, 1, 56, 2, 57, 49, 28, 3, 61, 58, 42, 50, 38, 29, 17, 4, 62, 47, 59, 36, 45, 43, 51, 22, 53, 39, 33, 30, 24, 18, 12, 5, 63, 55, 48, 27, 60, 41, 37, 16, 46, 35, 44, 21, 52, 32, 23, 11, 54, 26, 40, 15, 34, 20, 31, 10, 25, 14, 19, 9, 13, 8, 7, 6]
abbrev ldp : List Int := [1, 10, 100, 1000, 10000, 100000, 1000000, 10000000, 100000000, 1000000000, 10000000000, 100000000000, 1000000000000, 10000000000000, 100000000000000, 1000000000000000, 10000000000000000, 100000000000000000, 1000000000000000000, 10000000000000000000]
theorem GL_of_laid {W : World} (h : laidMet Tryz.prog LaidL W) : GL (imW W) := by
  have h1 : laidMet Tryz.prog (("math/bits.deBruijn64tab", tabData .u8 ld64) :: [("internal/strconv.uint64pow10", Rows.laid_internal_strconv_uint64pow10), ("strconv.ErrRange", Rows.laid_strconv_ErrRange), ("strconv.ErrSyntax", Rows.laid_strconv_ErrSyntax)]) W := h.tail
  have h2 : laidMet Tryz.prog (("internal/strconv.uint64pow10", tabData .u64 ldp) :: [("strconv.ErrRange", Rows.laid_strconv_ErrRange), ("strconv.ErrSyntax", Rows.laid_strconv_ErrSyntax)]) W := h1.tail
  have h3 := h2.tail
  have h4 := h3.tail
  have t1 := tabIs_of_head (P := Tryz.prog) (g := 4) (t := 256) (e := 5) (n := 64) (by kernel_rfl) (by kernel_rfl) (by kernel_rfl) (by kernel_rfl) (by kernel_rfl) (by kernel_rfl) h1
  have t2 := tabIs_of_head (P := Tryz.prog) (g := 0) (t := 244) (e := 208) (n := 20) (by kernel_rfl) (by kernel_rfl) (by kernel_rfl) (by kernel_rfl) (by kernel_rfl) (by kernel_rfl) h2
  obtain ⟨u0, v0, hv0⟩ := ld_err (g := 2) h3 (by kernel_rfl) (by kernel_rfl)
  obtain ⟨u1, v1, hv1⟩ := ld_err (g := 1) h4 (by kernel_rfl) (by kernel_rfl)
  obtain ⟨e1, f1, g1⟩ := ld_at (g := 4) (by kernel_rfl) t1
  obtain ⟨e2, f2, g2⟩ := ld_at (g := 0) (by kernel_rfl) t2
  obtain ⟨e3, f3, g3⟩ := ld_at (g := 2) (by kernel_rfl) hv0
  obtain ⟨e4, f4, g4⟩ := ld_at (g := 1) (by kernel_rfl) hv1
  exact ⟨⟨_, _, _, g2, rfl⟩, ⟨_, _, _, g1, rfl⟩, ⟨_, _, _, _, _, g4, rfl⟩, ⟨_, _, _, _, _, g3, rfl⟩⟩
/-- A world that meets the condition. -/
noncomputable def laidWorld (os : Os) : World := World.laidAll Tryz.prog os LaidL
theorem laidWorld_os (os : Os) : (laidWorld os).os = os := World.laidAll_os _ _ _
theorem laidWorld_met (os : Os) (args : Array Value) : laidMetH Tryz.prog LaidL ((laidWorld os).forCall (fun _ _ => 0) ⟨#[], args, []⟩).memory := by
  rw [laidMetH_plain _ _ _ (by kernel_rfl)]
  exact laidMet_laidAll args (by kernel_rfl) (by kernel_rfl)
theorem handle_of_laid {W : World} (h : laidMetH Tryz.prog LaidL W) : GL (imW W) := by
  rw [laidMetH_plain _ _ _ (by kernel_rfl)] at h
  exact GL_of_laid h
theorem laidWorld_shaped (os : Os) (args : Array Value) : ((laidWorld os).forCall (fun _ _ => 0) ⟨#[], args, []⟩).Shaped Tryz.prog :=
  World.shaped_of_ZipB (by kernel_rfl) (by kernel_rfl)
end Go.Proofs.YtmlojdbahlfiaaaGreatDoor
