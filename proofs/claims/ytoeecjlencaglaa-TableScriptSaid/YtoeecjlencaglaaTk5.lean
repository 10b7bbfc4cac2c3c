/- TableScript as its row asks it. -/
import Derived.Test.YtoeecjlencaglaaTk2
set_option linter.unusedVariables false
namespace Go.Proofs.Ytoeecjlencaglaa
open Go.Px

theorem cell_right {I : IMem} {X S : SH} {a : Addr} {v : Value} (h : Cell I S a v) : Cell I (X ++ S) a v := by
  induction X with
  | nil => exact h
  | cons x X ih => exact Cell.tl ih
abbrev iw (v : Int) : Value := .int .i64 v
/-- the table and the plain list (a map) have the same words -/
structure Same (tb r : Nat) (T : SH) (X : SH) (M : KV) : Prop where
  ex : ∃ (t : Tbl) (own : SH) (es : Array MapEntry) (clock : Nat), TabO tb t own ∧ TI 257 t M ∧ MpI Value.string iw es M t.live ∧ Sub ((r, .map es clock) :: (own ++ X)) T
  dom : ∀ k, M k ≠ none → k ∈ keys15
theorem Same.at {I : IMem} {tb r : Nat} {T X : SH} {M : KV} (h : Same tb r T X M) (k : ByteArray) : MapAt I T (some r) .string (.string k) (.int .i64 0) (.int .i64 ((M k).getD 0)) (M k).isSome := by
  obtain ⟨t, own, es, clock, ho, hti, hm, hs⟩ := h.ex
  have := MapAt.of (ew := iw) str_key (I := I) (MpC.of_sub hs) hm k (.int .i64 0)
  revert this
  cases M k <;> exact id
theorem Same.get {tb r : Nat} {T X : SH} {M : KV} (h : Same tb r T X M) (key : ByteArray) (hks : key.size ≤ 9223372036854775807) (I : IMem) :
    Runs Try.prog 23 #[.pointer (some ⟨tb, 0, none⟩), .string key] I T fun w J T' => w = .tuple #[.int .i64 ((M key).getD 0), .bool (M key).isSome] ∧ Same tb r T' X M := by
  obtain ⟨t, own, es, clock, ho, hti, hm, hs⟩ := h.ex
  refine Runs.use (hs.perm (List.perm_middle (l₁ := own) (l₂ := X)).symm) (Get_TI ho hti (by omega) key hks I _) ?_
  rintro _ J T' hle ⟨rfl, rfl⟩
  exact ⟨rfl, ⟨t, own, es, clock, ho, hti, hm, ⟨[], by rw [List.append_nil]; exact List.perm_middle⟩⟩, h.dom⟩
theorem Same.put {tb r : Nat} {T X : SH} {M : KV} (h : Same tb r T X M) (n : Nat) (hn : n < 256) (v : Int) (I : IMem) :
    Runs Try.prog 21 #[.pointer (some ⟨tb, 0, none⟩), .string (key15 n), .int .i64 v] I T fun w J T' => w = .bool (M (key15 n)).isNone ∧
      (∀ a v, (∀ L, Cell J (L ++ X) a v) → Cell J T' a v) ∧ ∀ K : SH → Prop, (∀ T2, Same tb r T2 X (KV.put M (key15 n) v) → K T2) → MapSt T' (some r) .string (.string (key15 n)) (.int .i64 v) K := by
  obtain ⟨t, own, es, clock, ho, hti, hm, hs⟩ := h.ex
  have hc := hti.count keys15 h.dom
  rw [keys15_len] at hc
  refine Runs.use (hs.perm (List.perm_middle (l₁ := own) (l₂ := X)).symm) (Put_TI (B' := 257) ho hti (Nat.le_refl _) (by omega) _ v (key15_small n hn) (fun _ => by omega) I _) ?_
  rintro _ J T' hle ⟨rfl, t', own', ho', hti', hlv, _, rfl⟩
  refine ⟨rfl, fun a v hc => by have := hc (own' ++ [(r, .map es clock)]); rwa [List.append_assoc] at this, fun K hK => ?_⟩
  refine MapSt.of (ew := iw) str_key (L := own' ++ X) ⟨[], by rw [List.append_nil]; exact List.perm_middle⟩ hm (key15 n) v (fun es' clock' T2 hm' hs' => hK T2 ⟨⟨t', own', es', clock', ho', hti', ?_, hs'⟩, fun k hk => ?_⟩)
  · rw [hlv]
    have : (t.live + if (M (key15 n)).isSome then 0 else 1) = (if (M (key15 n)).isNone = true then t.live + 1 else t.live) := by cases M (key15 n) <;> rfl
    rw [← this]; exact hm'
  · simp only [KV.put] at hk
    split at hk
    · rename_i e; rw [e]; exact key15_mem n hn
    · exact h.dom k hk
theorem Same.del {tb r : Nat} {T X : SH} {M : KV} (h : Same tb r T X M) (n : Nat) (hn : n < 256) (I : IMem) :
    Runs Try.prog 22 #[.pointer (some ⟨tb, 0, none⟩), .string (key15 n)] I T fun w J T' => w = .bool (M (key15 n)).isSome ∧
      ∀ K : SH → Prop, (∀ T2, Same tb r T2 X (KV.del M (key15 n)) → K T2) → MapDl T' (some r) .string (.string (key15 n)) K := by
  obtain ⟨t, own, es, clock, ho, hti, hm, hs⟩ := h.ex
  refine Runs.use (hs.perm (List.perm_middle (l₁ := own) (l₂ := X)).symm) (Del_TI ho hti (by omega) _ (key15_small n hn) I _) ?_
  rintro _ J T' hle ⟨rfl, t', own', ho', hti', _, hlv, rfl⟩
  refine ⟨rfl, fun K hK => ?_⟩
  refine MapDl.of (ew := iw) str_key (L := own' ++ X) ⟨[], by rw [List.append_nil]; exact List.perm_middle⟩ hm (key15 n) (fun es' T2 hm' hs' => hK T2 ⟨⟨t', own', es', clock, ho', hti', ?_, hs'⟩, fun k hk => ?_⟩)
  · rw [hlv]
    have : (t.live - if (M (key15 n)).isSome then 1 else 0) = (if (M (key15 n)).isSome = true then t.live - 1 else t.live) := by cases M (key15 n) <;> rfl
    rw [← this]; exact hm'
  · simp only [KV.del] at hk
    split at hk
    · exact absurd rfl hk
    · exact h.dom k hk
theorem Same.len {tb r : Nat} {T X : SH} {M : KV} (h : Same tb r T X M) (I : IMem) : Runs Try.prog 24 #[.pointer (some ⟨tb, 0, none⟩)] I T fun w J T' => ∃ n : Nat, w = .int .i64 (n : Int) ∧ MapLen J T' (some r) n ∧ Same tb r T' X M := by
  obtain ⟨t, own, es, clock, ho, hti, hm, hs⟩ := h.ex
  refine Runs.use (hs.perm (List.perm_middle (l₁ := own) (l₂ := X)).symm) (Len_runs tb t own ho I _) ?_
  rintro _ J T' hle ⟨rfl, rfl⟩
  have hs' : Sub ((r, .map es clock) :: (own ++ X)) (own ++ (r, .map es clock) :: X) := ⟨[], by rw [List.append_nil]; exact List.perm_middle⟩
  exact ⟨_, rfl, MapLen.of hs' hm, ⟨t, own, es, clock, ho, hti, hm, hs'⟩, h.dom⟩
theorem Same.cell {I : IMem} {tb r : Nat} {T X : SH} {M : KV} (h : Same tb r T X M) {a : Addr} {v : Value} (hc : ∀ L, Cell I (L ++ X) a v) : Cell I T a v := by
  obtain ⟨t, own, es, clock, ho, hti, hm, hs⟩ := h.ex
  exact Sub.cell' hs (hc ((r, .map es clock) :: own))
theorem Same.nox {tb r : Nat} {T X : SH} {M : KV} (h : Same tb r T X M) : Same tb r T [] M := by
  obtain ⟨t, own, es, clock, ho, hti, hm, hs⟩ := h.ex
  refine ⟨⟨t, own, es, clock, ho, hti, hm, ?_⟩, h.dom⟩
  rw [List.append_nil]
  exact Sub.left (L := (r, .map es clock) :: own) (M := X) hs
theorem Same.more {tb r : Nat} {T : SH} {M : KV} (h : Same tb r T [] M) (p : Nat × Obj) : Same tb r (p :: T) [p] M := by
  obtain ⟨t, own, es, clock, ho, hti, hm, hs⟩ := h.ex
  refine ⟨⟨t, own, es, clock, ho, hti, hm, ?_⟩, h.dom⟩
  rw [List.append_nil] at hs
  exact (hs.cons p).perm (List.perm_append_singleton p ((r, .map es clock) :: own)).symm

set_option maxRecDepth 4000 in
theorem TableScript_row (W : World) (a : Option Addr) (len cap : Nat) (w : len ≤ cap ∧ cap ≤ maxLen ∧ ∃ xs : List A15, SlIn (imW W) a len 3 e15 xs ∧ ∀ x ∈ xs, ok15 x) (z : len ≤ 140737488355328) :
    Runs Try.prog 5 #[.slice a len cap] (imW W) [] fun v _ _ => v = .bool true := by
  obtain ⟨_, _, xs, hin, hok⟩ := w
  have hlen := hin.1
  refine bolterlaw15_TableScript_fn _ _ _ _ _ _ ?_
  refine (awake15_runs _ _).mono ?_
  rintro _ J0 T0 hle0 ⟨rfl, rfl⟩
  refine ⟨true, rfl, ?_⟩
  intro tb r
  refine ⟨fun m p h s n c x25 x26 J T => p = some ⟨tb, 0, none⟩ ∧ h = some r ∧ s = a ∧ n = len ∧ c = cap ∧ x25 = (len : Int) ∧ (imW W).le J ∧ ∃ (i : Nat) (M : KV), x26 = (i : Int) ∧ i + m = len ∧ Same tb r T [] M, len,
    ⟨rfl, rfl, rfl, rfl, rfl, rfl, hle0, 0, fun _ => none, rfl, by omega, ⟨noTbl, _, #[], 0, noTbl_TabO tb, noTbl_TI _, MpI.nil, Sub.refl _⟩, fun k h => absurd rfl h⟩, ?_⟩
  rintro m p h s n c x25 x26 J T hleJ ⟨h1, h2, h3, h4, h5, h6, hleW, i, M, h7, him, hsame⟩
  subst h1 h2 h3 h4 h5 h6 h7
  refine bcase_dec (fun hlt => ?_) (fun hge => ?_)
  · have hi : i < xs.length := by omega
    obtain ⟨x, hxi⟩ : ∃ x, xs[i]? = some x := ⟨_, List.getElem?_eq_getElem hi⟩
    have hokx : ok15 x := hok _ (List.mem_of_getElem? hxi)
    have hk := ok15_key hokx
    obtain ⟨a', rfl, hcx⟩ := hin.cell hxi
    refine ⟨by omega, by omega, x.1, hcx J T hleW 0 _ rfl, x.2.1, hcx J T hleW 1 _ rfl, x.2.2, hcx J T hleW 2 _ rfl, ?_⟩
    intro bk
    refine StP.at0 (o := 0) (vs := [.int .u8 x.1, .int .u8 x.2.1, .int .i64 x.2.2]) (by simp) rfl ?_
    refine ⟨x.2.1, Cell.at0 rfl, (Key15' x.2.1 hokx.2.1 J _).mono ?_⟩
    rintro _ J1 T1 _ ⟨rfl, rfl, rfl⟩
    have hsX := hsame.more (act15O bk x)
    have cell : ∀ {I : IMem} {T' : SH} {M' : KV} (_ : Same tb r T' [act15O bk x] M') (o : Nat) (v : Value), (#[.int .u8 x.1, .int .u8 x.2.1, .int .i64 x.2.2] : Array Value)[o]? = some v → Cell I T' ⟨bk, o, none⟩ v :=
      fun h o v hv => h.cell (fun L => cell_right (Cell.at0 hv))
    refine ⟨_, rfl, _, _, hsX.at (key15 x.2.1.toNat), x.1, cell hsX 0 _ rfl, ?_⟩
    have hks := key15_small _ hk
    -- what comes behind a deed
    have after : ∀ (J' : IMem) (T' : SH) (M' : KV), (imW W).le J' → Same tb r T' [act15O bk x] M' →
        bolterlaw15_TableScript_b8 (fun p h s' n' c' x25 x26 I S => ∃ m', m' < m ∧ p = some ⟨tb, 0, none⟩ ∧ h = some r ∧ s' = some a' ∧ n' = n ∧ c' = c ∧ x25 = (n : Int) ∧ (imW W).le I ∧ ∃ (i : Nat) (M : KV), x26 = (i : Int) ∧ i + m' = n ∧ Same tb r S [] M)
          (fun v _ _ => v = .bool true) (some ⟨tb, 0, none⟩) (some r) (key15 x.2.1.toNat) (some a') n c (n : Int) (i : Int) J' T' := by
      intro J' T' M' hleW' hS
      refine (hS.get _ hks J').mono ?_
      rintro _ J2 T2 hle2 ⟨rfl, hS2⟩
      refine ⟨_, _, rfl, _, _, hS2.at _, ?_⟩
      refine bcase_bne (fun h => absurd rfl h) (fun _ => ?_)
      rw [show ((M' (key15 x.2.1.toNat)).isSome == (M' (key15 x.2.1.toNat)).isSome) = true by simp]
      refine (hS2.len J2).mono ?_
      rintro _ J3 T3 hle3 ⟨l, rfl, hml, hS3⟩
      refine ⟨_, rfl, l, hml, ?_⟩
      rw [show (((l : Nat) : Int) != ((l : Nat) : Int)) = false by simp]
      exact ⟨m - 1, by omega, rfl, rfl, rfl, rfl, rfl, rfl, (hleW'.trans hle2).trans hle3, i + 1, M', by rw [wrap_i64 (by omega) (by omega)]; rfl, by omega, hS3.nox⟩
    have deed : ∀ b : Bool, bolterlaw15_TableScript_b7 (fun p h s' n' c' x25 x26 I S => ∃ m', m' < m ∧ p = some ⟨tb, 0, none⟩ ∧ h = some r ∧ s' = some a' ∧ n' = n ∧ c' = c ∧ x25 = (n : Int) ∧ (imW W).le I ∧ ∃ (i : Nat) (M : KV), x26 = (i : Int) ∧ i + m' = n ∧ Same tb r S [] M)
          (fun v _ _ => v = .bool true) (some ⟨tb, 0, none⟩) (some r) ⟨bk, 0, none⟩ (key15 x.2.1.toNat) (M (key15 x.2.1.toNat)).isSome (some a') n c (n : Int) (i : Int) (x.1.tmod 4) b J1 (act15O bk x :: T) := by
      intro b
      cases b with
      | true =>
        refine ⟨x.2.2, cell hsX 2 _ rfl, (hsX.put _ hk x.2.2 J1).mono ?_⟩
        rintro _ J2 T2 hle2 ⟨rfl, hcell, hst⟩
        refine ⟨_, rfl, ?_⟩
        rw [show ((M (key15 x.2.1.toNat)).isNone == (M (key15 x.2.1.toNat)).isSome) = false by cases M (key15 x.2.1.toNat) <;> rfl]
        exact ⟨x.2.2, hcell ⟨bk, 2, none⟩ _ (fun L => cell_right (Cell.at0 rfl)), hst _ (fun T3 hS => after J2 T3 _ (hleW.trans hle2) hS)⟩
      | false =>
        refine bcase_beq (fun _ => ?_) (fun _ => after J1 _ M hleW hsX)
        refine (hsX.del _ hk J1).mono ?_
        rintro _ J2 T2 hle2 ⟨rfl, hdl⟩
        refine ⟨_, rfl, ?_⟩
        rw [show ((M (key15 x.2.1.toNat)).isSome == (M (key15 x.2.1.toNat)).isSome) = true by simp]
        exact hdl _ (fun T3 hS => after J2 T3 _ (hleW.trans hle2) hS)
    rw [bolterlaw15_TableScript_b6]
    exact bcase_of (fun _ => deed _) (fun _ => deed _)
  · refine ⟨fun m p h n J T => p = some ⟨tb, 0, none⟩ ∧ h = some r ∧ ∃ i : Nat, n = (i : Int) ∧ i + m = 256 ∧ Same tb r T [] M, 256, ⟨rfl, rfl, 0, rfl, by omega, hsame⟩, ?_⟩
    rintro m p h n J T hleJ ⟨h1, h2, i, h3, him, hsame⟩
    subst h1 h2 h3
    refine bcase_dec (fun hlt => ?_) (fun hge => rfl)
    have hi : i < 256 := by omega
    have e1 : IntKind.wrap .u8 (i : Int) = (i : Int) := wrap_u8 (by omega) (by omega)
    rw [bolterlaw15_TableScript_b14, e1]
    refine (Key15_runs i hi J T).mono ?_
    rintro _ J1 T1 _ ⟨rfl, rfl, rfl⟩
    refine ⟨_, rfl, (hsame.get _ (key15_small i hi) J1).mono ?_⟩
    rintro _ J2 T2 hle2 ⟨rfl, hS2⟩
    refine ⟨_, _, rfl, (Key15_runs i hi J2 T2).mono ?_⟩
    rintro _ J3 T3 _ ⟨rfl, rfl, rfl⟩
    refine ⟨_, rfl, _, _, hS2.at _, bcase_bne (fun h => absurd rfl h) (fun _ => ?_)⟩
    rw [show ((M (key15 i)).isSome == (M (key15 i)).isSome) = true by simp]
    exact ⟨m - 1, by omega, rfl, rfl, i + 1, by rw [wrap_i64 (by omega) (by omega)]; rfl, by omega, hS2⟩
end Go.Proofs.Ytoeecjlencaglaa
