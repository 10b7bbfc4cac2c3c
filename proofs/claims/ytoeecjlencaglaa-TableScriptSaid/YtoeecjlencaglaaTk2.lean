/- TableSlots as its row asks it. -/
import Derived.Test.YtoeecjlencaglaaTk1
set_option linter.unusedVariables false
namespace Go.Proofs.Ytoeecjlencaglaa
open Go.Px

abbrev A15 := Int × Int × Int
def e15 (x : A15) : List Value := [.int .u8 x.1, .int .u8 x.2.1, .int .i64 x.2.2]
def ok15 (x : A15) : Prop := (Lit.int .u8 x.1).wf = true ∧ (Lit.int .u8 x.2.1).wf = true ∧ (Lit.int .i64 x.2.2).wf = true
def act15O (b : Nat) (x : A15) : Nat × Obj := (b, .cells #[.int .u8 x.1, .int .u8 x.2.1, .int .i64 x.2.2] 41 (0, 0))
def k15 (x : A15) : ByteArray := key15 x.2.1.toNat
theorem ok15_key {x : A15} (h : ok15 x) : x.2.1.toNat < 256 := by
  have b : 0 ≤ x.2.1 ∧ x.2.1 ≤ 255 := by simpa [Lit.wf, IntKind.min, IntKind.max, IntKind.signed, IntKind.bits] using h.2.1
  omega
theorem TI.facts {B : Nat} {t : Tbl} {M : KV} (h : TI B t M) : 2 * t.full ≤ t.ss.length ∧ t.live ≤ t.full ∧ (0 < t.live → 8 ≤ t.ss.length) ∧ t.live ≤ B ∧ t.ss.length ≤ 8 + 4 * B := by
  have := h.live_le
  rcases h with ⟨h0, h1, h2, _⟩ | ⟨h0, _, _, h1, h2, h3, h4, h5, h6⟩
  · simp [h0, h1, h2]
  · exact ⟨h3, this.2, fun _ => h4, h5, h6⟩
/-- the table behind a deed: its words are among the law's, and its slots are not too many -/
structure T15 (t : Tbl) (M : KV) (most : Nat) : Prop where
  ti : TI 257 t M
  dom : ∀ k, M k ≠ none → k ∈ keys15
  live_le : t.live ≤ most
  len : t.ss.length ≤ 8 ∨ t.ss.length ≤ 8 * most
theorem T15.live {t : Tbl} {M : KV} {most : Nat} (h : T15 t M most) : t.live ≤ 256 := by
  have := h.ti.count keys15 h.dom
  rwa [keys15_len] at this
theorem TableSlots_row (W : World) (a : Option Addr) (len cap : Nat) (w : len ≤ cap ∧ cap ≤ maxLen ∧ ∃ xs : List A15, SlIn (imW W) a len 3 e15 xs ∧ ∀ x ∈ xs, ok15 x) (z : len ≤ 140737488355328) :
    Runs Try.prog 7 #[.slice a len cap] (imW W) [] fun v _ _ => v = .bool true := by
  obtain ⟨_, _, xs, hin, hok⟩ := w
  have hlen := hin.1
  refine bolterlaw15_TableSlots_fn _ _ _ _ _ _ ?_
  refine (awake15_runs _ _).mono ?_
  rintro _ J0 T0 hle0 ⟨rfl, rfl⟩
  refine ⟨true, rfl, ?_⟩
  intro tb
  refine ⟨fun m p most s n c x14 x15 J T => p = some ⟨tb, 0, none⟩ ∧ s = a ∧ n = len ∧ c = cap ∧ x14 = (len : Int) ∧ (imW W).le J ∧ ∃ (i mo : Nat) (t : Tbl) (M : KV) (own : SH), x15 = (i : Int) ∧ most = (mo : Int) ∧ i + m = len ∧ mo ≤ 256 ∧ TabO tb t own ∧ Sub own T ∧ T15 t M mo, len,
    ⟨rfl, rfl, rfl, rfl, rfl, hle0, 0, 0, noTbl, _, _, rfl, rfl, by omega, by omega, noTbl_TabO tb, Sub.refl _, ⟨noTbl_TI _, fun k h => absurd rfl h, Nat.le_refl _, .inl (by simp [noTbl])⟩⟩, ?_⟩
  rintro m p most s n c x14 x15 J T hleJ ⟨h1, h2, h3, h4, h5, hleW, i, mo, t, M, own, h6, h7, him, hmo, ho, hsub, ht⟩
  subst h1 h2 h3 h4 h5 h6 h7
  refine bcase_dec (fun hlt => ?_) (fun hge => rfl)
  have hi : i < xs.length := by omega
  obtain ⟨x, hxi⟩ : ∃ x, xs[i]? = some x := ⟨_, List.getElem?_eq_getElem hi⟩
  have hokx : ok15 x := hok _ (List.mem_of_getElem? hxi)
  have hk := ok15_key hokx
  obtain ⟨a', rfl, hcx⟩ := hin.cell hxi
  refine ⟨by omega, by omega, x.1, hcx J T hleW 0 _ rfl, x.2.1, hcx J T hleW 1 _ rfl, x.2.2, hcx J T hleW 2 _ rfl, ?_⟩
  intro bk
  refine StP.at0 (o := 0) (vs := [.int .u8 x.1, .int .u8 x.2.1, .int .i64 x.2.2]) (by simp) rfl ?_
  have hsub' : Sub (own ++ [act15O bk x]) (act15O bk x :: T) := (hsub.cons (act15O bk x)).perm (List.perm_append_singleton _ _).symm
  refine ⟨x.1, Cell.at0 rfl, ?_⟩
  -- what comes behind a deed
  have after : ∀ (J' : IMem) (T' : SH) (t' : Tbl) (M' : KV) (own' : SH), (imW W).le J' → TabO tb t' own' → T' = own' ++ [act15O bk x] → TI 257 t' M' → (∀ k, M' k ≠ none → k ∈ keys15) →
      (t'.ss.length ≤ 8 ∨ t'.ss.length ≤ 8 * max mo t'.live) →
      bolterlaw15_TableSlots_b7 (fun p most s' n' c' x14 x15 I S => ∃ m', m' < m ∧ p = some ⟨tb, 0, none⟩ ∧ s' = some a' ∧ n' = n ∧ c' = c ∧ x14 = (n : Int) ∧ (imW W).le I ∧ ∃ (i mo : Nat) (t : Tbl) (M : KV) (own : SH), x15 = (i : Int) ∧ most = (mo : Int) ∧ i + m' = n ∧ mo ≤ 256 ∧ TabO tb t own ∧ Sub own S ∧ T15 t M mo)
        (fun v _ _ => v = .bool true) (some ⟨tb, 0, none⟩) (mo : Int) (some a') n c (n : Int) (i : Int) J' T' := by
    rintro J' T' t' M' own' hleW' ho' rfl hti hdom hlen'
    obtain ⟨q1, q2, q3, q4, q5⟩ := hti.facts
    have q6 := hti.count keys15 hdom
    rw [keys15_len] at q6
    refine (Len_runs tb t' own' ho' J' _).mono ?_
    rintro _ J1 T1 hle1 ⟨rfl, rfl⟩
    refine ⟨_, rfl, (Slots_runs tb t' own' ho' J1 _).mono ?_⟩
    rintro _ J2 T2 hle2 ⟨rfl, rfl⟩
    refine ⟨_, _, rfl, ?_⟩
    have em : (if ((t'.live : Nat) : Int) > ((mo : Nat) : Int) then ((t'.live : Nat) : Int) else ((mo : Nat) : Int)) = ((max mo t'.live : Nat) : Int) := by split <;> omega
    rw [em]
    have hmm : max mo t'.live ≤ 256 := by omega
    have hm2 : t'.live ≤ max mo t'.live := by omega
    generalize max mo t'.live = mm at hlen' hmm hm2
    rw [wrap_i64 (x := (2 : Int) * ((t'.full : Nat) : Int)) (by omega) (by omega), wrap_i64 (x := (8 : Int) * (mm : Int)) (by omega) (by omega)]
    refine bcase_dec (fun h => by omega) (fun _ => ?_)
    refine (Len_runs tb t' own' ho' J2 _).mono ?_
    rintro _ J3 T3 hle3 ⟨rfl, rfl⟩
    refine ⟨_, rfl, bcase_dec (fun h => by omega) (fun _ => bcase_dec (fun h => ?_) (fun _ => ?_))⟩
    · exfalso; split at h <;> omega
    have fin : ∀ J4 (_ : (imW W).le J4), bolterlaw15_TableSlots_b8 (fun p most s' n' c' x14 x15 I S => ∃ m', m' < m ∧ p = some ⟨tb, 0, none⟩ ∧ s' = some a' ∧ n' = n ∧ c' = c ∧ x14 = (n : Int) ∧ (imW W).le I ∧ ∃ (i mo : Nat) (t : Tbl) (M : KV) (own : SH), x15 = (i : Int) ∧ most = (mo : Int) ∧ i + m' = n ∧ mo ≤ 256 ∧ TabO tb t own ∧ Sub own S ∧ T15 t M mo)
        (fun v _ _ => v = .bool true) (some ⟨tb, 0, none⟩) (mm : Int) (some a') n c (n : Int) (i : Int) false J4 (own' ++ [act15O bk x]) := fun J4 h4 =>
      ⟨m - 1, by omega, rfl, rfl, rfl, rfl, rfl, h4, i + 1, mm, t', M', own', by rw [wrap_i64 (by omega) (by omega)]; rfl, rfl, by omega, hmm, ho', ⟨[_], List.Perm.refl _⟩, ⟨hti, hdom, hm2, hlen'⟩⟩
    have hle3' := ((hleW'.trans hle1).trans hle2).trans hle3
    refine bcase_dec (fun h => ?_) (fun _ => fin J3 hle3')
    refine (Len_runs tb t' own' ho' J3 _).mono ?_
    rintro _ J4 T4 hle4 ⟨rfl, rfl⟩
    refine ⟨_, rfl, ?_⟩
    rw [show (decide (((t'.live : Nat) : Int) > (0 : Int))) = false by rw [decide_eq_false_iff_not]; intro h'; have := q3 (by omega); omega]
    exact fin J4 (hle3'.trans hle4)
  have hkmem := key15_mem _ hk
  have hks := key15_small _ hk
  have hl256 := ht.live
  have hmost := ht.live_le
  have hlen0 := ht.len
  refine bcase_beq (fun _ => ?_) (fun _ => ?_)
  · refine ⟨x.2.1, Cell.at0 rfl, (Key15' x.2.1 hokx.2.1 J _).mono ?_⟩
    rintro _ J1 T1 _ ⟨rfl, rfl, rfl⟩
    refine ⟨_, rfl, Runs.use hsub' (Del_TI ho ht.ti (by omega) _ hks J1 _) ?_⟩
    rintro _ J2 T2 hle2 ⟨rfl, t', own', ho', hti', hl', hlv, hT⟩
    refine ⟨_, rfl, after J2 _ t' _ own' (hleW.trans hle2) ho' hT hti' (fun k hk' => ht.dom k ?_) ?_⟩
    · intro h
      apply hk'
      simp only [KV.del]; split
      · rfl
      · exact h
    · rw [hl']
      rcases hlen0 with h | h
      · exact .inl h
      · right; have : mo ≤ max mo t'.live := Nat.le_max_left _ _
        omega
  · refine ⟨x.2.1, Cell.at0 rfl, _, fun J' T' _ => (Key15' x.2.1 hokx.2.1 J' _).mono (fun v J T _ h => ⟨h.1, h.2.2⟩), x.2.2, Cell.at0 rfl, ?_⟩
    refine Runs.use hsub' (Put_TI (B' := 257) ho ht.ti (Nat.le_refl _) (by omega) _ x.2.2 hks (fun _ => by omega) J _) ?_
    rintro _ J2 T2 hle2 ⟨rfl, t', own', ho', hti', hlv, hl', hT⟩
    refine ⟨_, rfl, after J2 _ t' _ own' (hleW.trans hle2) ho' hT hti' (fun k hk' => ?_) ?_⟩
    · simp only [KV.put] at hk'
      split at hk'
      · rename_i e; rw [e]; exact hkmem
      · exact ht.dom k hk'
    · have hmx : mo ≤ max mo t'.live := Nat.le_max_left _ _
      rcases hl' with h | h
      · rw [h]
        rcases hlen0 with g | g
        · exact .inl g
        · right; omega
      · rw [h]; unfold growN
        split
        · right; omega
        · left; omega
end Go.Proofs.Ytoeecjlencaglaa
