/- The trie's functions: Put, Longest, Len, on trees of words. -/
import Derived.Test.YtoeecjlencaglaaTr2
set_option linter.unusedVariables false
namespace Go.Proofs.Ytoeecjlencaglaa
open Go.Px

theorem put_split {R : Value → IMem → SH → Prop} {tb m : Nat} {bits : List Bool} {w : Option Int} {l r : Sh} {k : List Bool} (hlt : lcp bits k < bits.length) : PutAt R tb (.node bits w l r) (m + 2) k := by
  rintro v p S at_ G n J T hk hn0 hn hc ⟨b, pl, pr, Sl, Sr, rfl, rfl, hrl, hrr⟩ hs hR
  have hb : bits[lcp bits k]? = some bits[lcp bits k] := List.getElem?_eq_getElem hlt
  generalize bits[lcp bits k]'hlt = d at hb
  obtain ⟨e, hbe⟩ : ∃ e, bits.drop (lcp bits k) = d :: e := by
    have h := List.drop_eq_getElem_cons hlt
    rw [List.getElem?_eq_getElem hlt] at hb
    injection hb with hb
    exact ⟨_, hb ▸ h⟩
  have hn' : ∀ c rest, k.drop (lcp bits k) = c :: rest → c ≠ d := fun c rest h e => lcp_ne bits k d c hb (by rw [← List.head?_drop, h]; rfl) e.symm
  have htk := lcp_take bits k
  have hkk : k = bits.take (lcp bits k) ++ k.drop (lcp bits k) := by rw [htk, List.take_append_drop]
  have hpl : (bits.take (lcp bits k)).length = lcp bits k := by rw [List.length_take]; omega
  rw [Sh.find_lt hlt] at hR
  rw [Sh.put, if_pos hlt, hb] at hR
  rw [hbe] at hR
  have hi : n + (if (none : Option Int).isSome = true then 0 else 1) = n + 1 := by simp
  rw [hi] at hR
  have hkl := (lcp_le bits k).2
  rw [putInv_eq]
  refine ⟨some ⟨b, 0, none⟩, Sub.cell' hs (Cell.appR (hc.ra _ n)), ?_⟩
  refine ⟨eb bits, Sub.cell' hs (Cell.at0 rfl), (common_runs bits k (by omega) J T).mono ?_⟩
  rintro _ J' T' _ ⟨rfl, rfl, rfl⟩
  refine ⟨_, rfl, eb bits, Sub.cell' hs (Cell.at0 rfl), ?_⟩
  rw [eb_size]
  refine bcase_dec (fun h => ?_) (fun h => absurd h (by omega))
  refine ⟨eb bits, Sub.cell' hs (Cell.at0 rfl), by omega, by rw [eb_size]; omega, ?_⟩
  intro pb
  rw [eb_extract, show ((lcp bits k : Nat) : Int).toNat = lcp bits k by omega, List.drop_zero]
  generalize hp : bits.take (lcp bits k) = pre at *
  -- the part's cells
  have hs1 : Sub ((pb, Obj.cells #[.string (eb pre), .bool false, .int .i64 0, .pointer none, .pointer none] 67 (0, 0)) :: (nodO b bits w pl pr :: (Sl ++ Sr) ++ G (some ⟨b, 0, none⟩) n)) ((pb, Obj.cells #[.string (eb pre), .bool false, .int .i64 0, .pointer none, .pointer none] 67 (0, 0)) :: T') := hs.cons _
  refine ⟨eb bits, Sub.cell' hs1 (Cell.tl (Cell.at0 rfl)), sg d, by omega, by rw [eb_get, show ((lcp bits k : Nat) : Int).toNat = lcp bits k by omega, hb]; rfl, (kid_in d).1, (kid_in d).2, ?_⟩
  rw [kid_eq]
  refine StP.of_sub (K := fun S1 => trie_Trie_Put_b6 _ R _ _ _ _ _ _ _ _ S1) hs1 (StP.at0 (by cases d <;> simp) rfl fun T2 hs2 => ?_)
  refine ⟨eb bits, Sub.cell' hs2 (Cell.tl (Cell.at0 rfl)), by omega, by rw [eb_size]; omega, ?_⟩
  rw [eb_extract, show ((lcp bits k : Nat) : Int).toNat = lcp bits k by omega, eb_size, List.take_length, hbe]
  refine StP.of_sub hs2 (StP.tl (StP.at0 (o := 0) (vs := [.string (eb (d :: e))]) (by simp) rfl fun T3 hs3 => ?_))
  refine StP.of_sub hs3 (StP.tl (StP.tl (StP.appR (X := Sl ++ Sr) (hc.wa _ n (some ⟨pb, 0, none⟩) _ fun T4 hs4 => ?_))))
  -- from here on: the part, which needs no cut
  refine ⟨m + 1, by omega, ?_⟩
  have hng : ¬ lcp pre k < pre.length := by
    rw [hkk, lcp_append]; omega
  have kidnil : ∀ c rest, k = pre ++ c :: rest → c ≠ d := fun c rest h => hn' c rest (by rw [← hpl, h, List.drop_left])
  have hhas : (Sh.sub pre none d (.node (d :: e) w l r) .nil).find k = none := by
    rw [hkk, Sh.sub_find]
    cases hkd : k.drop (lcp bits k) with
    | nil => rfl
    | cons c rest => dsimp only; rw [if_neg (hn' c rest hkd)]; rfl
  have hput : (Sh.sub pre none d (.node (d :: e) w l r) .nil).put k v = match k.drop (lcp bits k) with
      | [] => Sh.sub pre (some v) d (.node (d :: e) w l r) .nil
      | c :: rest => Sh.sub pre none d (.node (d :: e) w l r) (.node (c :: rest) (some v) .nil .nil) := by
    have hdr : k.drop pre.length = k.drop (lcp bits k) := by rw [hpl]
    cases hkd : k.drop (lcp bits k) with
    | nil => cases d <;> simp only [Sh.sub, cond_true, cond_false, Sh.put, if_neg hng, hdr, hkd]
    | cons c rest =>
      have := hn' c rest hkd
      cases d <;> cases c <;> first | exact absurd rfl this | simp only [Sh.sub, cond_true, cond_false, Sh.put, if_neg hng, hdr, hkd]
  have fin : ∀ q S' T', Rep ((Sh.sub pre none d (.node (d :: e) w l r) .nil).put k v) q S' → Sub (S' ++ G q (n + if ((Sh.sub pre none d (.node (d :: e) w l r) .nil).find k).isSome then 0 else 1)) T' → R (.bool ((Sh.sub pre none d (.node (d :: e) w l r) .nil).find k).isNone) J' T' := by
    rw [hhas, hput, hi]
    intro q S' T' hq hs'
    refine hR q S' T' ?_ hs'
    revert hq
    cases k.drop (lcp bits k) <;> exact id
  cases d with
  | false =>
    refine put_step (w := none) (l := .node (false :: e) w l r) (r := .nil) hng (fun rest h => absurd rfl (kidnil _ _ h)) (fun rest _ => put_nil R tb m _) v _ ((pb, _) :: ((nodO b (false :: e) w pl pr :: (Sl ++ Sr)) ++ [])) at_ G n J' T4 hk hn0 hn hc
      ⟨pb, some ⟨b, 0, none⟩, none, _, [], rfl, rfl, ⟨b, pl, pr, Sl, Sr, rfl, rfl, hrl, hrr⟩, ⟨rfl, rfl⟩⟩ ?_ fin
    simp only [List.append_nil, List.nil_append, List.cons_append]
    exact hs4
  | true =>
    refine put_step (w := none) (l := .nil) (r := .node (true :: e) w l r) hng (fun rest _ => put_nil R tb m _) (fun rest h => absurd rfl (kidnil _ _ h)) v _ ((pb, _) :: ([] ++ (nodO b (true :: e) w pl pr :: (Sl ++ Sr)))) at_ G n J' T4 hk hn0 hn hc
      ⟨pb, none, some ⟨b, 0, none⟩, [], _, rfl, rfl, ⟨rfl, rfl⟩, ⟨b, pl, pr, Sl, Sr, rfl, rfl, hrl, hrr⟩⟩ ?_ fin
    simp only [List.append_nil, List.nil_append, List.cons_append]
    exact hs4

def Sh.ht : Sh → Nat
  | .nil => 0
  | .node _ _ l r => 2 + l.ht + r.ht
theorem put_ok (R : Value → IMem → SH → Prop) (tb : Nat) : ∀ (t : Sh) (m : Nat) (k : List Bool), t.ht ≤ m → PutAt R tb t m k
  | .nil, m, k, _ => put_nil R tb m k
  | .node bits w l r, m, k, h => by
    simp only [Sh.ht] at h
    by_cases hlt : lcp bits k < bits.length
    · have := put_split (R := R) (tb := tb) (m := m - 2) (w := w) (l := l) (r := r) hlt
      rwa [show m - 2 + 2 = m by omega] at this
    · have := put_step (R := R) (tb := tb) (m := m - 1) (w := w) (l := l) (r := r) hlt (fun rest _ => put_ok R tb l _ _ (by omega)) (fun rest _ => put_ok R tb r _ _ (by omega))
      rwa [show m - 1 + 1 = m by omega] at this

/-- a trie in memory -/
def TriO (tb : Nat) (t : Sh) (own : SH) : Prop := ∃ p S, Rep t p S ∧ own = S ++ [trO tb p (t.cnt : Nat)]
theorem Put_runs (tb : Nat) (t : Sh) (hw : t.wf) (hcnt : t.cnt ≤ 4611686018427387904) (own : SH) (ho : TriO tb t own) (k : List Bool) (hk : k.length ≤ 128) (v : Int) (I : IMem) (F : SH) :
    Runs Try.prog 17 #[.pointer (some ⟨tb, 0, none⟩), .string (eb k), .int .i64 v] I (own ++ F) fun x J T => x = .bool (t.find k).isNone ∧ ∃ own', TriO tb (t.put k v) own' ∧ T = own' ++ F := by
  obtain ⟨p, S, hr, rfl⟩ := ho
  refine Runs.drop (trie_Trie_Put_fn _ _ _ _ _ _ ?_)
  refine (May_word k hk _ _).mono ?_
  rintro _ J T _ ⟨rfl, rfl, rfl⟩
  refine ⟨true, rfl, ?_⟩
  refine ⟨putInv (fun x J T => ∃ L, Sub L T ∧ x = .bool (t.find k).isNone ∧ ∃ own', TriO tb (t.put k v) own' ∧ L = own' ++ F), t.ht, ?_, fun m t' key' v' at' J T _ h => by rw [putInv_eq] at h; exact h⟩
  refine put_ok _ tb t t.ht k (Nat.le_refl _) v p S ⟨tb, 0, none⟩ (fun p n => trO tb p n :: F) (t.cnt : Nat) J _ hk (by omega) (by omega) (Ctx.top J tb F) hr ?_ ?_
  · simp only [List.append_assoc, List.singleton_append]; exact Sub.refl _
  · intro q S' T' hq hs
    refine ⟨_, hs, rfl, S' ++ [trO tb q ((t.put k v).cnt : Nat)], ⟨q, S', hq, rfl⟩, ?_⟩
    rw [Sh.put_cnt t k v hw]
    simp only [List.append_assoc, List.singleton_append]
    congr 3
    cases (t.find k).isSome <;> simp
end Go.Proofs.Ytoeecjlencaglaa
