/- TrieScript as its row asks it: the law. -/
import Derived.Test.YtoeecjlencaglaaTr15
set_option linter.unusedVariables false
namespace Go.Proofs.Ytoeecjlencaglaa
open Go.Px

def ePr (x : Int) : List Value := [.int .u16 x]
def okPr (x : Int) : Prop := (Lit.int .u16 x).wf = true
theorem KeyPr {x : Int} (h : okPr x) (I : IMem) (S : SH) : Runs Try.prog 27 #[.int .u16 x, .int .u8 13] I S fun v J T => v = .string (eb (keyL x.toNat 13)) ∧ J = I ∧ T = S := by
  have b1 : 0 ≤ x ∧ x ≤ 65535 := by simpa [okPr, Lit.wf, IntKind.min, IntKind.max, IntKind.signed, IntKind.bits] using h
  have := Key16_runs x.toNat 13 (by omega) (by omega) I S
  rwa [Int.toNat_of_nonneg b1.1] at this
set_option maxRecDepth 4000 in
theorem TrieScript_row (W : World) (a : Option Addr) (len cap : Nat) (a1 : Option Addr) (len1 cap1 : Nat) (w : len ≤ cap ∧ cap ≤ maxLen ∧ ∃ xs : List A16, SlIn (imW W) a len 4 e16 xs ∧ ∀ x ∈ xs, ok16 x) (z : len ≤ 140737488355328)
    (w1 : len1 ≤ cap1 ∧ cap1 ≤ maxLen ∧ ∃ xs : List Int, SlIn (imW W) a1 len1 1 ePr xs ∧ ∀ x ∈ xs, okPr x) (z1 : len1 ≤ 140737488355328) :
    Runs Try.prog 11 #[.slice a len cap, .slice a1 len1 cap1] (imW W) [] fun v _ _ => v = .bool true := by
  obtain ⟨_, _, xs, hin, hok⟩ := w
  obtain ⟨hlc1, _, ps, hin1, hok1⟩ := w1
  have hlen := hin.1
  have hlen1 := hin1.1
  refine bolterlaw16_TrieScript_fn _ _ _ _ _ _ _ _ _ ?_
  refine (awake16_runs _ _).mono ?_
  rintro _ J0 T0 hle0 rfl
  refine ⟨true, rfl, ?_⟩
  intro tb r
  refine ⟨fun m p pn pc t h s n c x30 x31 J T => p = a1 ∧ pn = len1 ∧ pc = cap1 ∧ t = some ⟨tb, 0, none⟩ ∧ h = some r ∧ s = a ∧ n = len ∧ c = cap ∧ x30 = (len : Int) ∧ (imW W).le J ∧ ∃ (i : Nat) (M : List Bool → Option Int), x31 = (i : Int) ∧ i + m = len ∧ Same16 tb r i T [] M, len,
    ⟨rfl, rfl, rfl, rfl, rfl, rfl, rfl, rfl, rfl, hle0, 0, fun _ => none, rfl, by omega, ⟨.nil, _, #[], 0, TriO.new tb, trivial, by decide, by decide, fun _ => rfl, MpI.nil, ⟨T0, by simp⟩⟩⟩, ?_⟩
  rintro m p pn pc t h s n c x30 x31 J T hleJ ⟨h1, h2, h3, h4, h5, h6, h7, h8, h9, hleW, i, M, h10, him, hsame⟩
  subst h1 h2 h3 h4 h5 h6 h7 h8 h9 h10
  refine bcase_dec (fun hlt => ?_) (fun hge => rfl)
  have hi : i < xs.length := by omega
  obtain ⟨x, hxi⟩ : ∃ x, xs[i]? = some x := ⟨_, List.getElem?_eq_getElem hi⟩
  have hokx : ok16 x := hok _ (List.mem_of_getElem? hxi)
  obtain ⟨a', rfl, hcx⟩ := hin.cell hxi
  have hk13 := key16_len x
  refine ⟨by omega, by omega, x.1, hcx J T hleW 0 _ rfl, x.2.1, hcx J T hleW 1 _ rfl, x.2.2.1, hcx J T hleW 2 _ rfl, x.2.2.2, hcx J T hleW 3 _ rfl, ?_⟩
  intro bk
  refine StP.at0 (o := 0) (vs := [.int .u8 x.1, .int .u16 x.2.1, .int .u8 x.2.2.1, .int .i64 x.2.2.2]) (by simp) rfl ?_
  refine ⟨x.2.1, Cell.at0 rfl, x.2.2.1, Cell.at0 rfl, (Key16 hokx J _).mono ?_⟩
  rintro _ J1 T1 _ ⟨rfl, rfl, rfl⟩
  have hsX := hsame.more (act16P bk x)
  have cell : ∀ {I : IMem} {T' : SH} {B' : Nat} {M' : List Bool → Option Int} (_ : Same16 tb r B' T' [act16P bk x] M') (o : Nat) (v : Value), (#[.int .u8 x.1, .int .u16 x.2.1, .int .u8 x.2.2.1, .int .i64 x.2.2.2] : Array Value)[o]? = some v → Cell I T' ⟨bk, o, none⟩ v :=
    fun h o v hv => h.cell (fun L => Cell.appR (Cell.at0 hv))
  refine ⟨_, rfl, _, _, hsX.at (key16 x), x.1, cell hsX 0 _ rfl, ?_⟩
  -- what comes behind a deed
  have after : ∀ (J' : IMem) (T' : SH) (M' : List Bool → Option Int), (imW W).le J' → Same16 tb r (i + 1) T' [act16P bk x] M' →
      bolterlaw16_TrieScript_b5 (fun p' pn' pc' t h s' n' c' x30 x31 I S => ∃ m', m' < m ∧ p' = p ∧ pn' = pn ∧ pc' = pc ∧ t = some ⟨tb, 0, none⟩ ∧ h = some r ∧ s' = some a' ∧ n' = n ∧ c' = c ∧ x30 = (n : Int) ∧ (imW W).le I ∧ ∃ (i : Nat) (M : List Bool → Option Int), x31 = (i : Int) ∧ i + m' = n ∧ Same16 tb r i S [] M)
        (fun v _ _ => v = .bool true) p pn pc (some ⟨tb, 0, none⟩) (some r) (eb (key16 x)) (some a') n c (n : Int) (i : Int) J' T' := by
    intro J' T' M' hleW' hS
    refine (hS.get _ (by omega) J').mono ?_
    rintro _ J2 T2 hle2 ⟨rfl, hS2⟩
    refine ⟨_, _, rfl, _, _, hS2.at _, ?_⟩
    refine bcase_bne (fun h => absurd rfl h) (fun _ => ?_)
    rw [show ((M' (key16 x)).isSome == (M' (key16 x)).isSome) = true by simp]
    refine hS2.nox.counts (by omega) J2 (fun b J3 T3 => bolterlaw16_TrieScript_b7 _ _ p pn pc _ _ _ _ _ _ _ b J3 T3) ?_
    intro J3 T3 hle3 hS3
    have e0 : (if (8 : Int) < (pn : Int) then (8 : Int) else (pn : Int)) = ((min 8 pn : Nat) : Int) := by split <;> omega
    show bolterlaw16_TrieScript_b8 _ _ _ _ _ _ _ _ _ _ _ _ _ _
    rw [bolterlaw16_TrieScript_b8, e0, slA_zero, show ((min 8 pn : Nat) : Int).toNat = min 8 pn by omega, Nat.sub_zero, Nat.sub_zero]
    have hN : min 8 pn ≤ pn := Nat.min_le_right _ _
    refine ⟨by omega, by omega, ?_⟩
    generalize min 8 pn = N at hN
    have hle03 := (hleW'.trans hle2).trans hle3
    refine ⟨fun m2 p' pn' pc' t h s' n' c' x30 x31 q qn qc x108 x109 J T => p' = p ∧ pn' = pn ∧ pc' = pc ∧ t = some ⟨tb, 0, none⟩ ∧ h = some r ∧ s' = some a' ∧ n' = n ∧ c' = c ∧ x30 = (n : Int) ∧ x31 = (i : Int) ∧ q = p ∧ qn = N ∧ qc = pc ∧ x108 = (N : Int) ∧ (imW W).le J ∧ Same16 tb r (i + 1) T [] M' ∧ ∃ j : Nat, x109 = (j : Int) ∧ j + m2 = N, N,
      ⟨rfl, rfl, rfl, rfl, rfl, rfl, rfl, rfl, rfl, rfl, rfl, rfl, rfl, rfl, hle03, hS3, 0, rfl, by omega⟩, ?_⟩
    rintro m2 p' pn' pc' t h s' n' c' x30 x31 q qn qc x108 x109 J5 T5 hle5 ⟨g1, g2, g3, g4, g5, g6, g7, g8, g9, g10, g11, g12, g13, g14, hleW5, hS5, j, g15, hjm⟩
    subst g1 g2 g3 g4 g5 g6 g7 g8 g9 g10 g11 g12 g13 g14 g15
    refine bcase_dec (fun hlt2 => ?_) (fun hge2 => ?_)
    · have hj : j < ps.length := by omega
      obtain ⟨y, hyj⟩ : ∃ y, ps[j]? = some y := ⟨_, List.getElem?_eq_getElem hj⟩
      have hoky := hok1 _ (List.mem_of_getElem? hyj)
      obtain ⟨b', rfl, hcy⟩ := hin1.cell hyj
      refine ⟨by omega, by omega, y, hcy J5 T5 hleW5 0 _ rfl, (KeyPr hoky J5 T5).mono ?_⟩
      rintro _ J6 T6 _ ⟨rfl, rfl, rfl⟩
      refine ⟨_, rfl, (hS5.probe _ (Nat.le_trans (keyL_len _ _) (by omega)) J6).mono ?_⟩
      rintro _ J7 T7 _ ⟨res, rfl, hle7, hS7, hmap⟩
      obtain ⟨v, l, b, he⟩ : ∃ v n b, encL res = #[.int .i64 v, .int .i64 n, .bool b] := by cases res <;> exact ⟨_, _, _, rfl⟩
      rw [he]
      refine ⟨v, l, b, rfl, (KeyPr hoky J7 T7).mono ?_⟩
      rintro _ J8 T8 _ ⟨rfl, rfl, rfl⟩
      refine ⟨_, rfl, (hmap J8).mono ?_⟩
      rintro _ J9 T9 hle9 ⟨rfl, hS9⟩
      rw [he]
      refine ⟨v, l, b, rfl, bcase_bne (fun h => absurd rfl h) (fun _ => bcase_bne (fun h => absurd rfl h) (fun _ => ?_))⟩
      rw [show (b == b) = true by cases b <;> rfl]
      exact ⟨m2 - 1, by omega, rfl, rfl, rfl, rfl, rfl, rfl, rfl, rfl, rfl, rfl, rfl, rfl, rfl, rfl, (hleW5.trans hle7).trans hle9, hS9, j + 1, by rw [wrap_i64 (by omega) (by omega)]; rfl, by omega⟩
    · exact ⟨m - 1, by omega, rfl, rfl, rfl, rfl, rfl, rfl, rfl, rfl, rfl, hleW5, i + 1, M', by rw [wrap_i64 (by omega) (by omega)]; rfl, by omega, hS5⟩
  refine bcase_beq (fun _ => ?_) (fun _ => ?_)
  · refine (hsX.del (by omega) _ hk13 J1).mono ?_
    rintro _ J2 T2 hle2 ⟨rfl, hdl⟩
    refine ⟨_, rfl, ?_⟩
    rw [show ((M (key16 x)).isSome == (M (key16 x)).isSome) = true by simp]
    exact hdl _ (fun T3 hS => after J2 T3 _ (hleW.trans hle2) hS)
  · refine ⟨x.2.2.2, cell hsX 3 _ rfl, (hsX.put (by omega) _ hk13 x.2.2.2 J1).mono ?_⟩
    rintro _ J2 T2 hle2 ⟨rfl, hcell, hst⟩
    refine ⟨_, rfl, ?_⟩
    rw [show ((M (key16 x)).isNone == (M (key16 x)).isSome) = false by cases M (key16 x) <;> rfl]
    exact ⟨x.2.2.2, hcell ⟨bk, 3, none⟩ _ (fun L => Cell.appR (Cell.at0 rfl)), hst _ (fun T3 hS => after J2 T3 _ (hleW.trans hle2) hS)⟩
end Go.Proofs.Ytoeecjlencaglaa
