/- The law's own numbers, comparison and labels. -/
import Derived.Test.YtkagfmlaolmdnaaDoorOw16
namespace Go.Proofs.YtkagfmlaolmdnaaDoor
open Go.Px
set_option linter.unusedVariables false
set_option linter.unusedSimpArgs false
set_option maxRecDepth 8000

theorem same_runs {xs ys : List ByteArray} {a b : Option Addr} {ca cb : Nat} {I : IMem} {S : SH} (hx : RowIn I S a xs.length 1 elS xs) (hy : RowIn I S b ys.length 1 elS ys) (hl : xs.length ≤ 4611686018427387904) :
    Runs Tryd.prog 18 #[.slice a xs.length ca, .slice b ys.length cb] I S fun v _ T => v = .bool (decide (xs = ys)) ∧ T = S := by
  refine bolterlaw13_same_fn _ _ _ _ _ _ _ _ _ ?_
  unfold bolterlaw13_same bolterlaw13_same_b1 bolterlaw13_same_b2
  refine bcase_bne (fun h => ⟨?_, rfl⟩) (fun h => ?_)
  · rw [decide_eq_false (fun e => h (by rw [e]))]
  refine ⟨fun m p pn pc q qn qc x i J T => p = a ∧ pn = xs.length ∧ q = b ∧ qn = ys.length ∧ x = (xs.length : Int) ∧ I.le J ∧ T = S ∧ ∃ k : Nat, i = (k : Int) ∧ k ≤ xs.length ∧ m = xs.length - k ∧ ∀ t, t < k → xs[t]? = ys[t]?,
    xs.length, ⟨rfl, rfl, rfl, rfl, rfl, IMem.le.refl I, rfl, 0, rfl, Nat.zero_le _, rfl, fun t ht => by omega⟩, ?_⟩
  rintro m p pn pc q qn qc x i J T - ⟨rfl, rfl, rfl, rfl, rfl, hle, rfl, k, rfl, hk, rfl, hp⟩
  unfold bolterlaw13_same_l3
  refine bcase_dec (fun h1 => ?_) (fun h1 => ?_)
  · unfold bolterlaw13_same_b4 bolterlaw13_same_b5 bolterlaw13_same_b6 bolterlaw13_same_b7
    obtain ⟨x, hxk⟩ := get_lt (xs := xs) (k := k) (by omega)
    obtain ⟨y, hyk⟩ := get_lt (xs := ys) (k := k) (by omega)
    obtain ⟨a', rfl, hca⟩ := strRow (hx.le hle) hxk
    obtain ⟨b', rfl, hcb⟩ := strRow (hy.le hle) hyk
    refine ⟨by omega, by omega, x, hca, by omega, by omega, y, hcb, ?_⟩
    rw [ba_dec]
    refine bcase_not (bcase_dec (fun e => ?_) (fun e => ⟨?_, rfl⟩))
    · refine ⟨xs.length - (k + 1), by omega, rfl, rfl, rfl, rfl, rfl, hle, rfl, k + 1, by rw [wrap_i64 (by omega) (by omega)]; rfl, by omega, rfl, fun t ht => ?_⟩
      rcases Nat.lt_or_ge t k with g | g
      · exact hp t g
      · have : t = k := by omega
        subst this; rw [hxk, hyk, e]
    · rw [decide_eq_false (fun h => e (by rw [h, hyk] at hxk; exact (Option.some.inj hxk).symm))]
  · unfold bolterlaw13_same_b8
    refine ⟨?_, rfl⟩
    have : xs = ys := by
      apply List.ext_getElem?
      intro t
      by_cases ht : t < k
      · exact hp t ht
      · rw [List.getElem?_eq_none (by omega), List.getElem?_eq_none (by omega)]
    rw [decide_eq_true this]

theorem dg16 : ∀ m : Fin 16, ((⟨#[48, 49, 50, 51, 52, 53, 54, 55, 56, 57, 97, 98, 99, 100, 101, 102]⟩ : ByteArray).extract m.val (m.val + 1)).data.toList = [dgt m.val] := by decide +kernel
theorem numD_runs {n b : Nat} (h : n < b) (hb : b ≤ 16) (I : IMem) (S : SH) : Runs Tryd.prog 44 #[.int .i64 (n : Int), .int .i64 (b : Int)] I S fun v _ T => v = .string ⟨#[dgt n]⟩ ∧ T = S := by
  refine bolterlaw13_number_fn _ _ _ _ _ ?_
  unfold bolterlaw13_number
  have hs : (⟨#[48, 49, 50, 51, 52, 53, 54, 55, 56, 57, 97, 98, 99, 100, 101, 102]⟩ : ByteArray).size = 16 := rfl
  rw [wrap_i64 (x := (n : Int) + 1) (by omega) (by omega), hs]
  refine bcase_t (decide_eq_true (by omega)) ⟨by omega, by omega, by omega, by omega, ?_, rfl⟩
  congr 1
  refine bext ?_
  rw [show ((n : Int) + 1).toNat = n + 1 by omega, Int.toNat_natCast]
  exact dg16 ⟨n, by omega⟩
theorem number_runs {b : Nat} (hb2 : 2 ≤ b) (hb : b ≤ 16) : ∀ (f n : Nat), 0 < f → n < b ^ f → n ≤ 1000000 → f ≤ 10 → ∀ (I : IMem) (S : SH), Runs Tryd.prog 44 #[.int .i64 (n : Int), .int .i64 (b : Int)] I S fun v _ T => v = .string ⟨(numL f b n).toArray⟩ ∧ T = S
  | 0, _, h, _, _, _ => by omega
  | f + 1, n, _, hn, hn2, hf => fun I S => by
    by_cases hlt : n < b
    · refine (numD_runs hlt hb I S).mono ?_
      rintro v J T _ ⟨rfl, rfl⟩
      rw [numL, if_pos hlt]; exact ⟨rfl, rfl⟩
    · refine bolterlaw13_number_fn _ _ _ _ _ ?_
      unfold bolterlaw13_number bolterlaw13_number_b1 bolterlaw13_number_b2
      refine bcase_f (decide_eq_false (by omega)) (bcase_f (decide_eq_false (by omega)) (bcase_f (decide_eq_false (by omega)) ?_))
      have e1 : (n : Int).tdiv (b : Int) = ((n / b : Nat) : Int) := by rw [Int.tdiv_eq_ediv_of_nonneg (by omega)]; exact (Int.natCast_ediv n b).symm
      have e2 : (n : Int).tmod (b : Int) = ((n % b : Nat) : Int) := by rw [Int.tmod_eq_emod_of_nonneg (by omega)]; exact (Int.natCast_emod n b).symm
      have hq : n / b ≤ n := Nat.div_le_self n b
      have hr : n % b < b := Nat.mod_lt n (by omega)
      have w1 : IntKind.wrap .i64 ((n / b : Nat) : Int) = ((n / b : Nat) : Int) := by
        generalize n / b = q at hq
        exact wrap_i64 (by omega) (by omega)
      rw [e1, e2, w1]
      have hf0 : 0 < f := by
        rcases Nat.eq_zero_or_pos f with h | h
        · subst h; simp at hn; omega
        · exact h
      refine (number_runs hb2 hb f (n / b) hf0 ?_ (by omega) (by omega) I S).mono ?_
      · rw [Nat.pow_succ] at hn
        exact Nat.div_lt_of_lt_mul (by rw [Nat.mul_comm]; exact hn)
      rintro v J T _ ⟨rfl, rfl⟩
      refine ⟨_, rfl, (numD_runs hr hb J T).mono ?_⟩
      rintro v J1 T1 _ ⟨rfl, rfl⟩
      have h1 : (⟨(numL f b (n / b)).toArray⟩ : ByteArray).size ≤ f := by
        have := numL_len f b (n / b)
        simpa [ByteArray.size] using this
      have h2 : (⟨#[dgt (n % b)]⟩ : ByteArray).size = 1 := rfl
      refine ⟨_, rfl, by omega, ?_, rfl⟩
      congr 1
      refine bext ?_
      rw [numL, if_neg hlt]
      simp [ByteArray.data_append]
theorem numDec_runs {n : Nat} (h : n ≤ 255) (I : IMem) (S : SH) : Runs Tryd.prog 44 #[.int .i64 (n : Int), .int .i64 10] I S fun v _ T => v = .string (decB n) ∧ T = S :=
  number_runs (b := 10) (by decide) (by decide) 3 n (by decide) (by omega) (by omega) (by decide) I S
theorem numHex_runs {n : Nat} (h : n < 65536) (I : IMem) (S : SH) : Runs Tryd.prog 44 #[.int .i64 (n : Int), .int .i64 16] I S fun v _ T => v = .string (hexB n) ∧ T = S :=
  number_runs (b := 16) (by decide) (by decide) 4 n (by decide) (by omega) (by omega) (by decide) I S

/-! ### labels -/
def elW (w : Nat) : List Value := [intV w]
abbrev OwnW (v : Value) (ws : List Nat) (own : SH) : Prop := OwnR 3 1 elW v ws own
theorem AppW1 {xs : List Nat} {w : Nat} {b : Nat} {v : Value} {S F own : SH} {I : IMem} {K : Option Addr → Nat → Nat → SH → Prop} (hs : Sub (own ++ F) S) (hv : OwnW v xs own) (hl : xs.length ≤ 1000000000)
    (hK : ∀ p n c own' T, OwnW (.slice p n c) (xs ++ [w]) own' → Sub (own' ++ F) T → K p n c T) :
    AppG 3 1 8 [.int .i64 0] (some (.slice 3)) I ((b, .cells #[intV w] 3 (0, 0)) :: S) v (.slice (some ⟨b, 0, none⟩) 1 1) K := by
  obtain ⟨G, hG⟩ := hs
  refine AppG.own (xs := xs) (ys := [w]) (el := elW) (own := own) (F := (b, .cells #[intV w] 3 (0, 0)) :: (F ++ G)) (fun _ => rfl) (fun _ => rfl) rfl ((hG.cons _).trans (by rw [List.append_assoc]; exact perm_mid1)) hv ⟨?_, rfl⟩ ?_ ?_ ?_
  · exact Rd.list (L := elW w) rfl (by simp [elW])
  · simp only [List.length_singleton, maxLen]; omega
  · simp only [List.length_singleton]; omega
  · intro p n c own' ho
    exact hK p n c own' _ ho ⟨(b, .cells #[intV w] 3 (0, 0)) :: G, by rw [List.append_assoc]; exact List.Perm.append_left own' perm_mid1⟩
theorem pcell {I : IMem} {S T : SH} {b : Nat} {a : ByteArray} {n : Int} (hs : Sub ((b, .cells #[.string a, .int .i64 n] 24 (0, 0)) :: S) T) : Cell I T ⟨b, 0, none⟩ (.string a) := hs.cell' (Cell.at0 rfl)
theorem bl_bnd {z : List Bool} (hzl : z.length = 8) : ∀ k, k ≤ 8 → -1 ≤ (bl z k).1 ∧ (bl z k).1 ≤ 8 ∧ 1 ≤ (bl z k).2 ∧ (bl z k).2 ≤ 8
  | 0, _ => by simp [bl]
  | k + 1, h => by
    have h1 := bl_bnd hzl k (by omega)
    have h2 := zr_le (z.drop (7 - k))
    rw [List.length_drop, hzl] at h2
    simp only [bl, stl]
    by_cases h3 : (if (bl z k).2 > 2 then (bl z k).2 else 2) ≤ (zr (z.drop (7 - k)) : Int)
    · have h4 : 2 ≤ (zr (z.drop (7 - k)) : Int) := by
        by_cases g : (bl z k).2 > 2
        · rw [if_pos g] at h3; omega
        · rw [if_neg g] at h3; exact h3
      rw [if_pos h3]
      exact ⟨by dsimp only; omega, by dsimp only; omega, by dsimp only; omega, by dsimp only; omega⟩
    · rw [if_neg h3]; exact h1
theorem labels_runs {a : ByteArray} (ha : a.size = 4 ∨ a.size = 16) {n : Nat} (hn : n ≤ 255) (I : IMem) (S : SH) : Runs Tryd.prog 19 #[.agg #[.string a, .int .i64 (n : Int)]] I S fun v _ T => ∃ own, OwnS v (decB n :: addrL a) own ∧ Sub (own ++ S) T := by
  refine bolterlaw13_labels_fn _ _ _ _ _ ?_
  unfold bolterlaw13_labels
  intro b1
  refine ⟨_, Cell.at0 rfl, (numDec_runs hn I _).mono ?_⟩
  rintro v J T hle ⟨rfl, rfl⟩
  refine ⟨_, rfl, fun b15 => ?_⟩
  have ho0 : OwnS (.slice (some ⟨b15, 0, none⟩) 1 1) [decB n] [(b15, .cells #[.string (decB n)] 9 (0, 0))] := OwnS.mk (xs := [decB n]) (rest := []) rfl (by decide)
  unfold bolterlaw13_labels_b1 bolterlaw13_labels_b2
  refine ⟨a, (Cell.at0 rfl).tl, bcase_beq (fun h4 => ?_) (fun h4 => ?_)⟩
  · have h4 : a.size = 4 := by omega
    unfold bolterlaw13_labels_b3
    refine ⟨fun m p o on oc k J1 T => p = ⟨b1, 0, none⟩ ∧ J.le J1 ∧ ∃ (j : Nat) (own : SH), j ≤ 4 ∧ k = 3 - (j : Int) ∧ m = 4 - j ∧ OwnS (.slice o on oc) (decB n :: (fourL a).take j) own ∧ Sub (own ++ (b1, .cells #[.string a, .int .i64 (n : Int)] 24 (0, 0)) :: S) T, 4, ⟨rfl, IMem.le.refl J, 0, _, by omega, rfl, rfl, ho0, Sub.refl _⟩, ?_⟩
    rintro m p o on oc k J1 T - ⟨rfl, hle1, j, own, hj, rfl, rfl, ho, hs⟩
    unfold bolterlaw13_labels_l4 bolterlaw13_labels_b5
    refine bcase_dec (fun h => ?_) (fun h => ?_)
    · have hk : (3 - (j : Int)).toNat = 3 - j := by omega
      rw [hk]
      obtain ⟨c, hc⟩ := at_ok (s := a) (k := 3 - j) (by omega)
      refine ⟨a, pcell hs.right, c, by omega, hc, ?_⟩
      rw [wrap_c]
      refine (numDec_runs (n := c.toNat) (by have := c.toNat_lt; omega) J1 T).mono ?_
      rintro v J2 T2 hle2 ⟨rfl, rfl⟩
      refine ⟨_, rfl, fun b31 => AppS1 hs ho (by rw [List.length_cons, List.length_take]; simp [fourL]; omega) ?_⟩
      intro p n' c' own' T' ho' hs'
      refine ⟨4 - (j + 1), by omega, rfl, hle1.trans hle2, j + 1, own', by omega, ?_, rfl, ?_, hs'⟩
      · rw [wrap_i64 (by omega) (by omega)]; omega
      · rw [take_snoc (fourL_at a (j := j) (by omega)), bat_of hc]; exact ho'
    · have : j = 4 := by omega
      subst this
      refine ⟨own, ?_, hs.re (by intro x; simp only [cnt_cons, cnt_app]; omega)⟩
      rw [addrL, if_pos h4]; exact ho
  · have h16 : a.size = 16 := by omega
    have hws := wordsB_ws a
    have hlen := hws.len
    unfold bolterlaw13_labels_b6 bolterlaw13_labels_b7 bolterlaw13_labels_b8
    refine ⟨fun m p o on oc w wn wc k J1 T => p = ⟨b1, 0, none⟩ ∧ o = some ⟨b15, 0, none⟩ ∧ on = 1 ∧ oc = 1 ∧ J.le J1 ∧ ∃ (j : Nat) (own : SH), j ≤ 8 ∧ k = 2 * (j : Int) ∧ m = 8 - j ∧ OwnW (.slice w wn wc) ((wordsB a).take j) own ∧
        Sub (own ++ (b15, .cells #[.string (decB n)] 9 (0, 0)) :: (b1, .cells #[.string a, .int .i64 (n : Int)] 24 (0, 0)) :: S) T,
      8, ⟨rfl, rfl, rfl, rfl, IMem.le.refl J, 0, [], by omega, rfl, rfl, OwnR.nil, Sub.refl _⟩, ?_⟩
    rintro m p o on oc w wn wc k J1 T - ⟨rfl, rfl, rfl, rfl, hle1, j, ownW, hj, rfl, rfl, hoW, hs⟩
    unfold bolterlaw13_labels_l9
    refine bcase_dec (fun h => ?_) (fun h => ?_)
    · unfold bolterlaw13_labels_b10 bolterlaw13_labels_b11
      rw [wrap_i64 (x := 2 * (j : Int) + 1) (by omega) (by omega)]
      obtain ⟨c, hc⟩ := at_ok (s := a) (k := 2 * j) (by omega)
      obtain ⟨d, hd⟩ := at_ok (s := a) (k := 2 * j + 1) (by omega)
      rw [show (2 * (j : Int)).toNat = 2 * j by omega, show (2 * (j : Int) + 1).toNat = 2 * j + 1 by omega]
      refine ⟨a, pcell hs.right.drop, c, by omega, hc, a, pcell hs.right.drop, d, by omega, hd, fun b52 => ?_⟩
      have hcl := c.toNat_lt; have hdl := d.toNat_lt
      have e : IntKind.wrap .i64 (IntKind.wrap .i64 (IntKind.wrap .i64 (c.toNat : Int) * 256) + IntKind.wrap .i64 (d.toNat : Int)) = ((c.toNat * 256 + d.toNat : Nat) : Int) := by
        rw [wrap_c, wrap_c, wrap_i64 (x := (c.toNat : Int) * 256) (by omega) (by omega), wrap_i64 (by omega) (by omega)]; omega
      rw [e]
      refine AppW1 hs hoW (by rw [List.length_take]; omega) ?_
      intro p n' c' own' T' ho' hs'
      refine ⟨8 - (j + 1), by omega, rfl, rfl, rfl, rfl, hle1, j + 1, own', by omega, by rw [wrap_i64 (by omega) (by omega)]; omega, rfl, ?_, hs'⟩
      rw [take_snoc (wordsB_at a (k := j) (by omega)), bat_of hc, bat_of hd]; exact ho'
    have hj8 : j = 8 := by omega
    subst hj8
    rw [List.take_of_length_le (by omega)] at hoW
    have hwl := hoW.len
    rw [hlen] at hwl
    subst hwl
    have hrowW : ∀ {K : IMem} {T : SH}, Sub ownW T → RowIn K T w 8 1 elW (wordsB a) := fun hs => (OwnR.row (el := elW) (sz := 1) (fun _ => rfl) hoW).sub hs
    have cell : ∀ (K : IMem) (T : SH), Sub ownW T → ∀ t : Nat, t < 8 → ∃ x, (wordsB a)[t]? = some x ∧ x < 65536 ∧ (zs (wordsB a))[t]? = some (x == 0) ∧ ∃ a', w = some a' ∧ Cell K T (a'.add (t * 1)) (.int .i64 (x : Int)) := by
      intro K T hs t ht
      obtain ⟨x, hx⟩ := get_lt (xs := wordsB a) (k := t) (by omega)
      obtain ⟨a', ha', hc⟩ := (hrowW (K := K) hs).cell hx
      have := hc 0 (intV x) rfl
      have e0 : (a'.add (t * 1)).add 0 = a'.add (t * 1) := by simp [Addr.add]
      rw [e0] at this
      exact ⟨x, hx, hws.lt x (List.mem_of_getElem? hx), by rw [zs, List.getElem?_map, hx]; rfl, a', ha', this⟩
    have hzl : (zs (wordsB a)).length = 8 := hws.zlen
    have hsix : sixL (wordsB a) = (emL (bl (zs (wordsB a)) 8).1 (bl (zs (wordsB a)) 8).2 8).map (ren (wordsB a)) := rfl
    generalize zs (wordsB a) = z at *
    have hbnd := bl_bnd hzl
    have hsW : ∀ {T : SH}, Sub (ownW ++ (b15, .cells #[.string (decB n)] 9 (0, 0)) :: (b1, .cells #[.string a, .int .i64 (n : Int)] 24 (0, 0)) :: S) T → Sub ownW T := fun h => h.left
    unfold bolterlaw13_labels_b12 bolterlaw13_labels_b13 bolterlaw13_labels_b14
    refine ⟨fun m o on oc x xn xc fr mo i J2 T2 => o = some ⟨b15, 0, none⟩ ∧ on = 1 ∧ oc = 1 ∧ x = w ∧ xn = 8 ∧ T2 = T ∧ J1.le J2 ∧ ∃ j : Nat, i = 7 - (j : Int) ∧ j ≤ 8 ∧ m = 8 - j ∧ fr = (bl z j).1 ∧ mo = (bl z j).2,
      8, ⟨rfl, rfl, rfl, rfl, rfl, rfl, IMem.le.refl J1, 0, rfl, by omega, rfl, rfl, rfl⟩, ?_⟩
    rintro m o on oc x xn xc fr mo i J2 T2 - ⟨rfl, rfl, rfl, rfl, rfl, rfl, hle2, j, rfl, hj, rfl, rfl, rfl⟩
    unfold bolterlaw13_labels_l15
    refine bcase_dec (fun h => ?_) (fun h => ?_)
    · unfold bolterlaw13_labels_b16 bolterlaw13_labels_b17
      refine ⟨fun m o on oc y yn yc fr mo i q J3 T3 => o = some ⟨b15, 0, none⟩ ∧ on = 1 ∧ oc = 1 ∧ y = x ∧ yn = 8 ∧ T3 = T2 ∧ fr = (bl z j).1 ∧ mo = (bl z j).2 ∧ i = 7 - (j : Int) ∧ J2.le J3 ∧ ∃ r : Nat, q = (r : Int) ∧ (7 - j) + r ≤ 8 ∧ m = 8 - r ∧ zr (z.drop (7 - j)) = r + zr (z.drop (7 - j + r)),
        8, ⟨rfl, rfl, rfl, rfl, rfl, rfl, rfl, rfl, rfl, IMem.le.refl J2, 0, rfl, by omega, rfl, by simp⟩, ?_⟩
      rintro m o on oc y yn yc fr mo i q J3 T3 - ⟨rfl, rfl, rfl, rfl, rfl, rfl, rfl, rfl, rfl, hle3, r, rfl, hr, rfl, hzr⟩
      unfold bolterlaw13_labels_l18
      have hw : IntKind.wrap .i64 (7 - (j : Int) + (r : Int)) = ((7 - j + r : Nat) : Int) := by rw [wrap_i64 (by omega) (by omega)]; omega
      rw [hw]
      have stop : zr (z.drop (7 - j + r)) = 0 → bolterlaw13_labels_b21 (fun out_3 out_3n out_3c words_5 words_5n words_5c from_7 most_8 k_9 I S_1 => ∃ m', m' < 8 - j ∧ (out_3 = some ⟨b15, 0, none⟩ ∧ out_3n = 1 ∧ out_3c = 1 ∧ words_5 = y ∧ words_5n = 8 ∧ S_1 = T3 ∧ J1.le I ∧ ∃ j : Nat, k_9 = 7 - (j : Int) ∧ j ≤ 8 ∧ m' = 8 - j ∧ from_7 = (bl z j).1 ∧ most_8 = (bl z j).2))
          (fun v _ T => ∃ own, OwnS v (decB n :: addrL a) own ∧ Sub (own ++ S) T) (some ⟨b15, 0, none⟩) 1 1 y 8 yc (bl z j).1 (bl z j).2 (7 - (j : Int)) (r : Int) J3 T3 := by
        intro h0
        have hn : zr (z.drop (7 - j)) = r := by omega
        unfold bolterlaw13_labels_b21 bolterlaw13_labels_b22
        have hk7 : 7 - (j : Int) = ((7 - j : Nat) : Int) := by omega
        refine bcase_dec (fun g1 => ?_) (fun g1 => ?_)
        · refine ⟨8 - (j + 1), by omega, rfl, rfl, rfl, rfl, rfl, rfl, hle2.trans hle3, j + 1, by rw [wrap_i64 (by omega) (by omega)]; omega, by omega, rfl, ?_, ?_⟩
          · rw [bl, stl, if_pos (by rw [hn]; exact g1)]; exact hk7
          · rw [bl, stl, if_pos (by rw [hn]; exact g1), hn]
        · refine ⟨8 - (j + 1), by omega, rfl, rfl, rfl, rfl, rfl, rfl, hle2.trans hle3, j + 1, by rw [wrap_i64 (by omega) (by omega)]; omega, by omega, rfl, ?_, ?_⟩
          · rw [bl, stl, if_neg (by rw [hn]; exact g1)]
          · rw [bl, stl, if_neg (by rw [hn]; exact g1)]
      refine bcase_dec (fun h1 => ?_) (fun h1 => ?_)
      · obtain ⟨x, hw1, hw2, hw3, a', rfl, hw4⟩ := cell J3 T3 (hsW hs) (7 - j + r) (by omega)
        refine ⟨by omega, by omega, x, by rw [Int.toNat_natCast]; exact hw4, ?_⟩
        have hd : z.drop (7 - j + r) = (x == 0) :: z.drop (7 - j + r + 1) := by
          rw [List.drop_eq_getElem_cons (by omega)]
          rw [List.getElem?_eq_getElem (by omega)] at hw3
          rw [Option.some.inj hw3]
        unfold bolterlaw13_labels_b19
        refine bcase_beq (fun e => ?_) (fun e => stop ?_)
        · have ew : x = 0 := by omega
          subst ew
          unfold bolterlaw13_labels_b20
          refine ⟨8 - (r + 1), by omega, rfl, rfl, rfl, rfl, rfl, rfl, rfl, rfl, rfl, hle3, r + 1, by rw [wrap_i64 (by omega) (by omega)]; rfl, by omega, rfl, ?_⟩
          rw [hzr, hd, zr_cons, if_pos (by decide), Nat.add_assoc (7 - j) r 1]; omega
        · rw [hd, zr_cons, if_neg (by simp; omega)]
      · unfold bolterlaw13_labels_b19
        refine bcase_f rfl (stop ?_)
        rw [List.drop_of_length_le (by omega)]; rfl
    have hj8 : j = 8 := by omega
    subst hj8
    unfold bolterlaw13_labels_b23 bolterlaw13_labels_b24
    have hb8 := hbnd 8 (Nat.le_refl 8)
    refine ⟨fun m o on oc y yn yc fr mo i J3 T3 => y = x ∧ yn = 8 ∧ fr = (bl z 8).1 ∧ mo = (bl z 8).2 ∧ J2.le J3 ∧ ∃ (j : Nat) (own : SH), i = 7 - (j : Int) ∧ j ≤ 8 ∧ m = 8 - j ∧ OwnS (.slice o on oc) (decB n :: (emL (bl z 8).1 (bl z 8).2 j).map (ren (wordsB a))) own ∧
        Sub (own ++ (ownW ++ S)) T3 ∧ (emL (bl z 8).1 (bl z 8).2 j).length ≤ j,
      8, ⟨rfl, rfl, rfl, rfl, IMem.le.refl J2, 0, _, rfl, by omega, rfl, ho0, hs.re (by intro x; simp only [cnt_cons, cnt_app, cnt_nil]; omega), Nat.le_refl 0⟩, ?_⟩
    rintro m o on oc y yn yc fr mo i J3 T3 - ⟨rfl, rfl, rfl, rfl, hle3, j, own, rfl, hj, rfl, ho, hs3, hel⟩
    unfold bolterlaw13_labels_l25 bolterlaw13_labels_b30
    have hkj : 7 - (j : Int) = ((7 - j : Nat) : Int) ∨ j = 8 := by omega
    refine bcase_dec (fun h => ?_) (fun h => ?_)
    · have hk7 : 7 - (j : Int) = ((7 - j : Nat) : Int) := by omega
      have next : ∀ (o' : Option Addr) (n' c' : Nat) (own' : SH) (J4 : IMem) (T4 : SH), J3.le J4 → OwnS (.slice o' n' c') (decB n :: (emL (bl z 8).1 (bl z 8).2 (j + 1)).map (ren (wordsB a))) own' → Sub (own' ++ (ownW ++ S)) T4 → (emL (bl z 8).1 (bl z 8).2 (j + 1)).length ≤ j + 1 →
          bolterlaw13_labels_b28 (fun out_3 out_3n out_3c words_5 words_5n words_5c from_7 most_8 k_11 I S_1 => ∃ m', m' < 8 - j ∧ (words_5 = y ∧ words_5n = 8 ∧ from_7 = (bl z 8).1 ∧ most_8 = (bl z 8).2 ∧ J2.le I ∧ ∃ (j : Nat) (own : SH), k_11 = 7 - (j : Int) ∧ j ≤ 8 ∧ m' = 8 - j ∧ OwnS (.slice out_3 out_3n out_3c) (decB n :: (emL (bl z 8).1 (bl z 8).2 j).map (ren (wordsB a))) own ∧ Sub (own ++ (ownW ++ S)) S_1 ∧ (emL (bl z 8).1 (bl z 8).2 j).length ≤ j))
            (fun v _ T => ∃ own, OwnS v (decB n :: addrL a) own ∧ Sub (own ++ S) T) o' n' c' y 8 yc (bl z 8).1 (bl z 8).2 (7 - (j : Int)) J4 T4 := by
        intro o' n' c' own' J4 T4 hle4 ho' hs' hl'
        unfold bolterlaw13_labels_b28
        exact ⟨8 - (j + 1), by omega, rfl, rfl, rfl, rfl, hle3.trans hle4, j + 1, own', by rw [wrap_i64 (by omega) (by omega)]; omega, by omega, rfl, ho', hs', hl'⟩
      have hem : emL (bl z 8).1 (bl z 8).2 (j + 1) = emL (bl z 8).1 (bl z 8).2 j ++ partL (bl z 8).1 (bl z 8).2 (7 - j) := rfl
      have hlo : (decB n :: (emL (bl z 8).1 (bl z 8).2 j).map (ren (wordsB a))).length ≤ 1000000000 := by rw [List.length_cons, List.length_map]; omega
      have zzc : ∀ ag (nx : ∀ (o' : Option Addr) (n' c' : Nat) (own' : SH) (J4 : IMem) (T4 : SH), J3.le J4 → OwnS (.slice o' n' c') (decB n :: (emL (bl z 8).1 (bl z 8).2 (j + 1)).map (ren (wordsB a))) own' → Sub (own' ++ (ownW ++ S)) T4 → (emL (bl z 8).1 (bl z 8).2 (j + 1)).length ≤ j + 1 → bolterlaw13_labels_b28 ag (fun v _ T => ∃ own, OwnS v (decB n :: addrL a) own ∧ Sub (own ++ S) T) o' n' c' y 8 yc (bl z 8).1 (bl z 8).2 (7 - (j : Int)) J4 T4), partL (bl z 8).1 (bl z 8).2 (7 - j) = [none] → bolterlaw13_labels_b27 ag (fun v _ T => ∃ own, OwnS v (decB n :: addrL a) own ∧ Sub (own ++ S) T) o on oc y 8 yc (bl z 8).1 (bl z 8).2 (7 - (j : Int)) true J3 T3 := by
        intro ag nx hp
        unfold bolterlaw13_labels_b27
        refine bcase_t rfl ?_
        intro b100
        refine AppS1 hs3 ho hlo ?_
        intro p' n' c' own' T' ho' hs'
        refine nx p' n' c' own' J3 T' (IMem.le.refl J3) ?_ hs' (by rw [hem, hp, List.length_append, List.length_singleton]; omega)
        rw [hem, hp, List.map_append]; exact ho'
      have skp : ∀ ag (nx : ∀ (o' : Option Addr) (n' c' : Nat) (own' : SH) (J4 : IMem) (T4 : SH), J3.le J4 → OwnS (.slice o' n' c') (decB n :: (emL (bl z 8).1 (bl z 8).2 (j + 1)).map (ren (wordsB a))) own' → Sub (own' ++ (ownW ++ S)) T4 → (emL (bl z 8).1 (bl z 8).2 (j + 1)).length ≤ j + 1 → bolterlaw13_labels_b28 ag (fun v _ T => ∃ own, OwnS v (decB n :: addrL a) own ∧ Sub (own ++ S) T) o' n' c' y 8 yc (bl z 8).1 (bl z 8).2 (7 - (j : Int)) J4 T4), partL (bl z 8).1 (bl z 8).2 (7 - j) = [] → bolterlaw13_labels_b29 ag (fun v _ T => ∃ own, OwnS v (decB n :: addrL a) own ∧ Sub (own ++ S) T) o on oc y 8 yc (bl z 8).1 (bl z 8).2 (7 - (j : Int)) true J3 T3 := by
        intro ag nx hp
        unfold bolterlaw13_labels_b29
        refine bcase_t rfl (nx o on oc own J3 T3 (IMem.le.refl J3) ?_ hs3 (by rw [hem, hp, List.append_nil]; omega))
        rw [hem, hp, List.append_nil]; exact ho
      have num : ∀ ag (nx : ∀ (o' : Option Addr) (n' c' : Nat) (own' : SH) (J4 : IMem) (T4 : SH), J3.le J4 → OwnS (.slice o' n' c') (decB n :: (emL (bl z 8).1 (bl z 8).2 (j + 1)).map (ren (wordsB a))) own' → Sub (own' ++ (ownW ++ S)) T4 → (emL (bl z 8).1 (bl z 8).2 (j + 1)).length ≤ j + 1 → bolterlaw13_labels_b28 ag (fun v _ T => ∃ own, OwnS v (decB n :: addrL a) own ∧ Sub (own ++ S) T) o' n' c' y 8 yc (bl z 8).1 (bl z 8).2 (7 - (j : Int)) J4 T4), partL (bl z 8).1 (bl z 8).2 (7 - j) = [some (7 - j)] → bolterlaw13_labels_b29 ag (fun v _ T => ∃ own, OwnS v (decB n :: addrL a) own ∧ Sub (own ++ S) T) o on oc y 8 yc (bl z 8).1 (bl z 8).2 (7 - (j : Int)) false J3 T3 := by
        intro ag nx hp
        unfold bolterlaw13_labels_b29
        refine bcase_f rfl ?_
        obtain ⟨x, hw1, hw2, hw3, a', rfl, hw4⟩ := cell J3 T3 (hs3.right.left) (7 - j) (by omega)
        rw [hk7]
        refine ⟨by omega, by omega, x, by rw [Int.toNat_natCast]; exact hw4, (numHex_runs hw2 J3 T3).mono ?_⟩
        rintro v J4 T4 hle4 ⟨rfl, rfl⟩
        refine ⟨_, rfl, fun b89 => AppS1 hs3 ho hlo ?_⟩
        intro p' n' c' own' T' ho' hs'
        rw [← hk7]
        refine nx p' n' c' own' J4 T' hle4 ?_ hs' (by rw [hem, hp, List.length_append, List.length_singleton]; omega)
        rw [hem, hp, List.map_append]
        have : ren (wordsB a) (some (7 - j)) = hexB x := by rw [ren, List.getD_eq_getElem?_getD, hw1]; rfl
        rw [List.map_singleton, this]; exact ho'
      unfold bolterlaw13_labels_b26
      refine bcase_dec (fun hf => ?_) (fun hf => ?_)
      · by_cases he : 7 - (j : Int) = (bl z 8).1
        · rw [show ((7 - (j : Int)) == (bl z 8).1) = true by rw [he]; simp]
          exact zzc _ next (by rw [partL, if_pos ⟨by omega, by omega⟩])
        · rw [show ((7 - (j : Int)) == (bl z 8).1) = false by simpa using he]
          unfold bolterlaw13_labels_b27
          refine bcase_f rfl (bcase_t (decide_eq_true hf) (bcase_dec (fun hg => ?_) (fun hg => num _ next ?_)))
          · rw [wrap_i64 (x := (bl z 8).1 + (bl z 8).2) (by omega) (by omega)]
            by_cases h9 : 7 - (j : Int) < (bl z 8).1 + (bl z 8).2
            · rw [decide_eq_true h9]
              exact skp _ next (by rw [partL, if_neg (by omega), if_pos ⟨by omega, by omega, by omega⟩])
            · rw [decide_eq_false h9]
              exact num _ next (by rw [partL, if_neg (by omega), if_neg (by omega)])
          · rw [partL, if_neg (by omega), if_neg (by omega)]
      · unfold bolterlaw13_labels_b27
        refine bcase_f rfl (bcase_f (decide_eq_false hf) (num _ next ?_))
        rw [partL, if_neg (by omega), if_neg (by omega)]
    · have : j = 8 := by omega
      subst this
      refine ⟨own, ?_, hs3.re (by intro x; simp only [cnt_app]; omega)⟩
      rw [addrL, if_neg (by omega), hsix]; exact ho
end Go.Proofs.YtkagfmlaolmdnaaDoor
