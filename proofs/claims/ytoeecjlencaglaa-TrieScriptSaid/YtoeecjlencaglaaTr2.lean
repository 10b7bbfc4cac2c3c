/- The trie's functions: May, common, Put, on trees of words. -/
import Derived.Test.YtoeecjlencaglaaT2
import Derived.Test.YtoeecjlencaglaaTr1
set_option linter.unusedVariables false
namespace Go.Proofs.Ytoeecjlencaglaa
open Go.Px

theorem lcp_at {a b : List Bool} {k : Nat} (h : k < lcp a b) : a[k]? = b[k]? := by
  have := congrArg (fun l : List Bool => l[k]?) (lcp_take a b)
  simpa [List.getElem?_take, h] using this
theorem sg_inj {a b : Bool} (h : ((sg a).toNat : Int) = ((sg b).toNat : Int)) : a = b := by revert h; cases a <;> cases b <;> decide
theorem common_runs (a b : List Bool) (hb : b.length ≤ 4611686018427387904) (I : IMem) (S : SH) :
    Runs Try.prog 33 #[.string (eb a), .string (eb b)] I S fun v J T => v = .int .i64 (lcp a b : Nat) ∧ J = I ∧ T = S := by
  refine trie_common_fn _ _ _ _ _ ?_
  refine ⟨fun m a' b' n J T => a' = eb a ∧ b' = eb b ∧ J = I ∧ T = S ∧ ∃ k : Nat, n = (k : Int) ∧ m + k = lcp a b, lcp a b, ⟨rfl, rfl, rfl, rfl, 0, rfl, rfl⟩, ?_⟩
  rintro m a' b' n J T _ ⟨rfl, rfl, rfl, rfl, k, rfl, hm⟩
  have hle := lcp_le a b
  have stop : k = lcp a b → trie_common_b3 (fun a_0 b_1 n_5 I S => ∃ m', m' < m ∧ a_0 = eb a ∧ b_1 = eb b ∧ I = J ∧ S = T ∧ ∃ k : Nat, n_5 = (k : Int) ∧ m' + k = lcp a b) (fun v J' T' => v = .int .i64 (lcp a b : Nat) ∧ J' = J ∧ T' = T) (eb a) (eb b) k false J T := fun h => ⟨by rw [h], rfl, rfl⟩
  refine bcase_dec (fun h1 => ?_) (fun h1 => ?_)
  · refine bcase_dec (fun h2 => ?_) (fun h2 => ?_)
    · rw [eb_size] at h1 h2
      have e1 : a[k]? = some (a[k]'(by omega)) := List.getElem?_eq_getElem _
      have e2 : b[k]? = some (b[k]'(by omega)) := List.getElem?_eq_getElem _
      generalize a[k]'(by omega) = x at e1
      generalize b[k]'(by omega) = y at e2
      refine ⟨sg x, by omega, by rw [eb_get]; simp [e1], sg y, by omega, by rw [eb_get]; simp [e2], ?_⟩
      by_cases hxy : x = y
      · subst hxy
        rw [show (((sg x).toNat : Int) == ((sg x).toNat : Int)) = true by simp]
        have : k ≠ lcp a b := fun h => lcp_ne a b x x (h ▸ e1) (h ▸ e2) rfl
        exact ⟨m - 1, by omega, rfl, rfl, rfl, rfl, k + 1, by rw [wrap_i64 (by omega) (by omega)]; rfl, by omega⟩
      · rw [show (((sg x).toNat : Int) == ((sg y).toNat : Int)) = false by rw [beq_eq_false_iff_ne]; exact fun h => hxy (sg_inj h)]
        refine stop ?_
        rcases Nat.lt_or_ge k (lcp a b) with h | h
        · have := lcp_at h; rw [e1, e2] at this; injection this with this; exact absurd this hxy
        · omega
    · rw [eb_size] at h2; exact stop (by omega)
  · rw [eb_size] at h1; exact stop (by omega)

theorem May_runs (s : ByteArray) (hs : s.size ≤ 4611686018427387904) (I : IMem) (S : SH) :
    Runs Try.prog 32 #[.string s] I S fun v J T => ∃ b, v = .bool b ∧ (b = true ↔ signs s ∧ s.size ≤ 128) ∧ J = I ∧ T = S := by
  refine trie_May_fn _ _ _ _ ?_
  refine ⟨fun m s' x5 x6 J T => s' = s ∧ x5 = (s.size : Int) ∧ J = I ∧ T = S ∧ ∃ k : Nat, x6 = (k : Int) ∧ m + k = s.size ∧ ∀ (i : Nat) (c : UInt8), i < k → s[i]? = some c → c = 48 ∨ c = 49, s.size, ⟨rfl, rfl, rfl, rfl, 0, rfl, rfl, fun i c h => absurd h (Nat.not_lt_zero _)⟩, ?_⟩
  rintro m s' x5 x6 J T _ ⟨rfl, rfl, rfl, rfl, k, rfl, hm, hall⟩
  refine bcase_dec (fun h1 => ?_) (fun h1 => ?_)
  · obtain ⟨c, hc⟩ : ∃ c, s'[k]? = some c := ⟨_, getElem?_pos s' k (by omega)⟩
    have bad : ¬ (c = 48 ∨ c = 49) → (∃ b, Value.bool false = .bool b ∧ (b = true ↔ signs s' ∧ s'.size ≤ 128) ∧ J = J ∧ T = T) := fun h => ⟨false, rfl, ⟨(fun h => by cases h), fun g => absurd (g.1 k c hc) h⟩, rfl, rfl⟩
    have good : c = 48 ∨ c = 49 → ∃ m', m' < m ∧ s' = s' ∧ (s'.size : Int) = (s'.size : Int) ∧ J = J ∧ T = T ∧ ∃ k' : Nat, IntKind.wrap .i64 ((k : Int) + 1) = (k' : Int) ∧ m' + k' = s'.size ∧ ∀ (i : Nat) (c : UInt8), i < k' → s'[i]? = some c → c = 48 ∨ c = 49 := fun h =>
      ⟨m - 1, by omega, rfl, rfl, rfl, rfl, k + 1, by rw [wrap_i64 (by omega) (by omega)]; rfl, by omega, fun i c' hi hc' => by
        rcases Nat.lt_or_ge i k with g | g
        · exact hall i c' g hc'
        · obtain rfl : i = k := by omega
          rw [hc] at hc'; injection hc' with hc'; exact hc' ▸ h⟩
    have e48 : ((c.toNat : Int) = 48) ↔ c = 48 := ⟨fun h => UInt8.toNat_inj.1 (by show c.toNat = 48; omega), fun h => by rw [h]; rfl⟩
    have e49 : ((c.toNat : Int) = 49) ↔ c = 49 := ⟨fun h => UInt8.toNat_inj.1 (by show c.toNat = 49; omega), fun h => by rw [h]; rfl⟩
    refine ⟨c, by omega, by simpa using hc, ?_⟩
    by_cases h48 : c = 48
    · rw [show ((c.toNat : Int) != 48) = false by simpa using e48.2 h48]
      exact good (.inl h48)
    · rw [show ((c.toNat : Int) != 48) = true by simpa using fun h => h48 (e48.1 h)]
      refine ⟨c, by omega, by simpa using hc, ?_⟩
      by_cases h49 : c = 49
      · rw [show ((c.toNat : Int) != 49) = false by simpa using e49.2 h49]
        exact good (.inr h49)
      · rw [show ((c.toNat : Int) != 49) = true by simpa using fun h => h49 (e49.1 h)]
        exact bad (fun h => h.elim h48 h49)
  · refine ⟨_, rfl, ?_, rfl, rfl⟩
    have hsg : signs s' := fun i c hc => hall i c (by
      rcases Nat.lt_or_ge i s'.size with h | h
      · omega
      · rw [getElem?_neg s' i (by omega)] at hc; cases hc) hc
    simp only [decide_eq_true_eq]
    exact ⟨fun h => ⟨hsg, by omega⟩, fun h => by omega⟩
theorem May_word (k : List Bool) (hk : k.length ≤ 128) (I : IMem) (S : SH) : Runs Try.prog 32 #[.string (eb k)] I S fun v J T => v = .bool true ∧ J = I ∧ T = S := by
  refine (May_runs (eb k) (by rw [eb_size]; omega) I S).mono ?_
  rintro v J T _ ⟨b, rfl, hb, rfl, rfl⟩
  rw [hb.2 ⟨eb_signs k, by rw [eb_size]; exact hk⟩]
  exact ⟨rfl, rfl, rfl⟩

/-! ### trees in memory -/
def nodO (b : Nat) (bits : List Bool) (w : Option Int) (pl pr : Option Addr) : Nat × Obj := (b, .cells #[.string (eb bits), .bool w.isSome, .int .i64 (w.getD 0), .pointer pl, .pointer pr] 67 (0, 0))
def trO (tb : Nat) (p : Option Addr) (n : Int) : Nat × Obj := (tb, .cells #[.pointer p, .int .i64 n] 29 (0, 0))
def Rep : Sh → Option Addr → SH → Prop
  | .nil, p, S => p = none ∧ S = []
  | .node bits w l r, p, S => ∃ b pl pr Sl Sr, p = some ⟨b, 0, none⟩ ∧ S = nodO b bits w pl pr :: (Sl ++ Sr) ∧ Rep l pl Sl ∧ Rep r pr Sr
/-- where a tree hangs, and where the size lies: a context -/
structure Ctx (J : IMem) (at_ sz : Addr) (G : Option Addr → Int → SH) : Prop where
  ra : ∀ p n, Cell J (G p n) at_ (.pointer p)
  rs : ∀ p n, Cell J (G p n) sz (.int .i64 n)
  wa : ∀ p n q K, K (G q n) → StP (G p n) at_ [.pointer q] K
  ws : ∀ p n m K, K (G p m) → StP (G p n) sz [.int .i64 m] K
theorem StP.appR {X S : SH} {a : Addr} {vs : List Value} {K : SH → Prop} (h : StP S a vs fun T => K (X ++ T)) : StP (X ++ S) a vs K := by
  induction X generalizing K with
  | nil => exact h
  | cons x X ih => exact StP.tl (ih h)
theorem Cell.appR {I : IMem} {X S : SH} {a : Addr} {v : Value} (h : Cell I S a v) : Cell I (X ++ S) a v := by
  induction X with
  | nil => exact h
  | cons x X ih => exact Cell.tl ih
def kid (b : Nat) (d : Bool) : Addr := ⟨b, bif d then 4 else 3, none⟩
theorem kid_eq (b : Nat) (d : Bool) : ((⟨b, 0, none⟩ : Addr).add 3).add ((IntKind.wrap .u8 (((sg d).toNat : Int) - (48 : Int))).toNat * 1) = kid b d := by cases d <;> rfl
theorem kid_in (d : Bool) : (0 : Int) ≤ IntKind.wrap .u8 (((sg d).toNat : Int) - (48 : Int)) ∧ IntKind.wrap .u8 (((sg d).toNat : Int) - (48 : Int)) < ((2 : Nat) : Int) := by cases d <;> decide
theorem Ctx.top (J : IMem) (tb : Nat) (F : SH) : Ctx J ⟨tb, 0, none⟩ ⟨tb, 1, none⟩ fun p n => trO tb p n :: F where
  ra p n := Cell.at0 rfl
  rs p n := Cell.at0 rfl
  wa p n q K h := StP.at0 (by simp) rfl h
  ws p n m K h := StP.at0 (by simp) rfl h
theorem Ctx.left {J : IMem} {at_ sz : Addr} {G : Option Addr → Int → SH} (h : Ctx J at_ sz G) (b : Nat) (bits : List Bool) (w : Option Int) (pr : Option Addr) (Sr : SH) :
    Ctx J (kid b false) sz fun p n => nodO b bits w p pr :: (Sr ++ G (some ⟨b, 0, none⟩) n) where
  ra p n := Cell.at0 rfl
  rs p n := Cell.tl (Cell.appR (h.rs _ n))
  wa p n q K hK := StP.at0 (by simp) rfl hK
  ws p n m K hK := StP.tl (StP.appR (h.ws _ n m _ hK))
theorem Ctx.right {J : IMem} {at_ sz : Addr} {G : Option Addr → Int → SH} (h : Ctx J at_ sz G) (b : Nat) (bits : List Bool) (w : Option Int) (pl : Option Addr) (Sl : SH) :
    Ctx J (kid b true) sz fun p n => nodO b bits w pl p :: (Sl ++ G (some ⟨b, 0, none⟩) n) where
  ra p n := Cell.at0 rfl
  rs p n := Cell.tl (Cell.appR (h.rs _ n))
  wa p n q K hK := StP.at0 (by simp) rfl hK
  ws p n m K hK := StP.tl (StP.appR (h.ws _ n m _ hK))

/-! ### Put -/
def putInv (R : Value → IMem → SH → Prop) (m : Nat) (t : Option Addr) (key : ByteArray) (v : Int) (at_ : Option Addr) (I : IMem) (S : SH) : Prop :=
  trie_Trie_Put_l2 (fun t key v at_ I S => ∃ m', ∃ _ : m' < m, putInv R m' t key v at_ I S) R t key v at_ I S
termination_by m
theorem putInv_eq (R : Value → IMem → SH → Prop) (m : Nat) (t : Option Addr) (key : ByteArray) (v : Int) (at_ : Option Addr) (I : IMem) (S : SH) : putInv R m t key v at_ I S =
    trie_Trie_Put_l2 (fun t key v at_ I S => ∃ m', m' < m ∧ putInv R m' t key v at_ I S) R t key v at_ I S := by
  rw [putInv]; simp only [exists_prop]
def PutAt (R : Value → IMem → SH → Prop) (tb : Nat) (t : Sh) (m : Nat) (k : List Bool) : Prop := ∀ (v : Int) (p : Option Addr) (S : SH) (at_ : Addr) (G : Option Addr → Int → SH) (n : Int) (J : IMem) (T : SH),
  k.length ≤ 128 → 0 ≤ n → n ≤ 4611686018427387904 → Ctx J at_ ⟨tb, 1, none⟩ G → Rep t p S → Sub (S ++ G p n) T →
  (∀ q S' T', Rep (t.put k v) q S' → Sub (S' ++ G q (n + if (t.find k).isSome then 0 else 1)) T' → R (.bool (t.find k).isNone) J T') → putInv R m (some ⟨tb, 0, none⟩) (eb k) v (some at_) J T
theorem put_nil (R : Value → IMem → SH → Prop) (tb m : Nat) (k : List Bool) : PutAt R tb .nil m k := by
  rintro v p S at_ G n J T hk hn0 hn hc ⟨rfl, rfl⟩ hs hR
  rw [putInv_eq]
  refine ⟨none, Sub.cell' hs (hc.ra none n), ?_⟩
  show ∀ b : Nat, _
  intro b
  refine StP.tl (StP.of_sub hs (hc.wa none n _ _ fun T' hs' => ?_))
  refine ⟨n, Cell.tl (Sub.cell' hs' (hc.rs _ n)), StP.tl (StP.of_sub hs' (hc.ws _ n _ _ fun T2 hs2 => ?_))⟩
  rw [wrap_i64 (by omega) (by omega)] at hs2
  exact hR _ [nodO b k (some v) none none] _ ⟨b, none, none, [], [], rfl, rfl, ⟨rfl, rfl⟩, ⟨rfl, rfl⟩⟩ (hs2.cons _)
theorem put_step {R : Value → IMem → SH → Prop} {tb m : Nat} {bits : List Bool} {w : Option Int} {l r : Sh} {k : List Bool} (hge : ¬ lcp bits k < bits.length)
    (hl : ∀ rest, k = bits ++ false :: rest → PutAt R tb l m (false :: rest)) (hr : ∀ rest, k = bits ++ true :: rest → PutAt R tb r m (true :: rest)) : PutAt R tb (.node bits w l r) (m + 1) k := by
  rintro v p S at_ G n J T hk hn0 hn hc ⟨b, pl, pr, Sl, Sr, rfl, rfl, hrl, hrr⟩ hs hR
  have hkk := lcp_full hge
  generalize hrest : k.drop bits.length = rest at hkk
  subst hkk
  rw [putInv_eq]
  refine ⟨some ⟨b, 0, none⟩, Sub.cell' hs (Cell.appR (hc.ra _ n)), ?_⟩
  refine ⟨eb bits, Sub.cell' hs (Cell.at0 rfl), (common_runs bits (bits ++ rest) (by omega) J T).mono ?_⟩
  rintro _ J' T' _ ⟨rfl, rfl, rfl⟩
  rw [lcp_append]
  refine ⟨_, rfl, eb bits, Sub.cell' hs (Cell.at0 rfl), ?_⟩
  rw [eb_size]
  refine bcase_dec (fun h => absurd h (by omega)) (fun _ => ?_)
  rw [trie_Trie_Put_b7, eb_size]
  rw [Sh.put, if_neg hge, hrest] at hR
  rw [Sh.find_app] at hR
  cases rest with
  | nil =>
    rw [show (((bits.length : Nat) : Int) == (((bits ++ ([] : List Bool)).length : Nat) : Int)) = true by simp]
    dsimp only at hR
    refine ⟨w.isSome, Sub.cell' hs (Cell.at0 rfl), ?_⟩
    have fin : ∀ n' T', Sub (nodO b bits w pl pr :: (Sl ++ Sr) ++ G (some ⟨b, 0, none⟩) n') T' → n' = (n + if w.isSome = true then 0 else 1) → trie_Trie_Put_b9 (fun t key v at_ I S => ∃ m', m' < m + 1 ∧ putInv R m' t key v at_ I S) R v (some ⟨b, 0, none⟩) (!w.isSome) J' T' := by
      rintro n' T' hs' rfl
      show StP T' ⟨b, 1, none⟩ [.bool true] fun S1 => StP S1 ⟨b, 2, none⟩ [.int .i64 v] fun S1' => R (.bool (!w.isSome)) J' S1'
      refine StP.of_sub hs' (StP.at0 (o := 1) (vs := [.bool true]) (by simp) rfl fun T2 hs2 => ?_)
      refine StP.of_sub hs2 (StP.at0 (o := 2) (vs := [.int .i64 v]) (by simp [setR]) rfl fun T3 hs3 => ?_)
      have := hR (some ⟨b, 0, none⟩) (nodO b bits (some v) pl pr :: (Sl ++ Sr)) T3 ⟨b, pl, pr, Sl, Sr, rfl, rfl, hrl, hrr⟩ hs3
      cases w <;> exact this
    cases w with
    | some x => exact fin n T' hs (by simp)
    | none =>
      refine ⟨n, Sub.cell' hs (Cell.appR (hc.rs _ n)), StP.of_sub hs (StP.appR (hc.ws _ n _ _ fun T2 hs2 => ?_))⟩
      rw [wrap_i64 (by omega) (by omega)] at hs2
      exact fin _ T2 hs2 rfl
  | cons d rest =>
    rw [show (((bits.length : Nat) : Int) == (((bits ++ d :: rest).length : Nat) : Int)) = false by simp; omega]
    dsimp only at hR
    refine ⟨sg d, by omega, by rw [eb_get]; simp, (kid_in d).1, (kid_in d).2, by omega, by rw [eb_size]; simp; omega, ?_⟩
    rw [kid_eq, eb_size, eb_extract, show List.drop (((bits.length : Nat) : Int).toNat) (List.take (bits ++ d :: rest).length (bits ++ d :: rest)) = d :: rest by rw [List.take_length]; simp]
    rw [List.length_append] at hk
    cases d with
    | false =>
      refine ⟨m, by omega, hl rest rfl v pl Sl (kid b false) _ n _ _ (by omega) hn0 hn (hc.left b bits w pr Sr) hrl (hs.perm ?_) ?_⟩
      · simp only [List.cons_append, List.append_assoc]
        exact List.perm_middle.symm
      · intro q S' T2 hq hs2
        refine hR _ _ T2 ⟨b, q, pr, S', Sr, rfl, rfl, hq, hrr⟩ (hs2.perm ?_)
        simp only [List.cons_append, List.append_assoc]
        exact List.perm_middle
    | true =>
      refine ⟨m, by omega, hr rest rfl v pr Sr (kid b true) _ n _ _ (by omega) hn0 hn (hc.right b bits w pl Sl) hrr (hs.perm ?_) ?_⟩
      · simp only [List.cons_append, List.append_assoc]
        refine List.Perm.trans (List.Perm.cons _ ?_) List.perm_middle.symm
        rw [← List.append_assoc, ← List.append_assoc]
        exact List.perm_append_comm.append_right _
      · intro q S' T2 hq hs2
        refine hR _ _ T2 ⟨b, pl, q, Sl, S', rfl, rfl, hrl, hq⟩ (hs2.perm ?_)
        simp only [List.cons_append, List.append_assoc]
        refine List.perm_middle.trans (List.Perm.cons _ ?_)
        rw [← List.append_assoc, ← List.append_assoc]
        exact List.perm_append_comm.append_right _
end Go.Proofs.Ytoeecjlencaglaa
