/- IndexRound: triggers that come and go leave nothing. -/
import Derived.Test.YtmlojdbahlfiaaaGreatDoorRows
import Derived.LaidLaws
import Derived.Lay
import Derived.Stop.LaidErr
import Derived.Lib.LaidTab
import Derived.ChangeVars
import Derived.MakeChecks
import Derived.Test.YtmlojdbahlfiaaaGreatDoorM1IndexRound
import Derived.Test.YtmlojdbahlfiaaaGreatDoorM2IndexRound
import Derived.Test.YtmlojdbahlfiaaaGreatDoorM3IndexRound
import Derived.Test.YtmlojdbahlfiaaaGreatDoorM4IndexRound
import Derived.Test.YtmlojdbahlfiaaaGreatDoorM5IndexRound
namespace Go.Proofs.YtmlojdbahlfiaaaGreatDoor
open Go.Px
set_option linter.unusedVariables false
set_option linter.unusedSimpArgs false
set_option maxRecDepth 8000

/-! ### how many there may be -/
theorem sub_len {α : Type} [DecidableEq α] : ∀ {l D : List α}, l.Nodup → (∀ x ∈ l, x ∈ D) → l.length ≤ D.length
  | [], D, _, _ => Nat.zero_le _
  | x :: l, D, hn, h => by
    have hx := h x (List.mem_cons_self ..)
    have hn' := List.nodup_cons.1 hn
    have := sub_len (l := l) (D := D.erase x) hn'.2 (fun y hy => by
      have hne : y ≠ x := fun e => hn'.1 (e ▸ hy)
      exact (List.mem_erase_of_ne hne).2 (h y (List.mem_cons_of_mem _ hy)))
    rw [List.length_erase_of_mem hx] at this
    have := List.length_pos_of_mem hx
    rw [List.length_cons]; omega
theorem keys_nodup : ∀ ss : List Tb.Slot, (∀ (i j : Nat) (s u : Tb.Slot), ss[i]? = some s → ss[j]? = some u → s.live = true → u.live = true → s.key = u.key → i = j) → ((ss.filter Tb.Slot.live).map Tb.Slot.key).Nodup
  | [], _ => List.nodup_nil
  | s :: ss, h => by
    have ih := keys_nodup ss (fun i j a b h1 h2 h3 h4 h5 => by have := h (i + 1) (j + 1) a b h1 h2 h3 h4 h5; omega)
    rw [List.filter_cons]
    split
    · rename_i hl
      rw [List.map_cons, List.nodup_cons]
      refine ⟨fun hm => ?_, ih⟩
      obtain ⟨u, hu, he⟩ := List.mem_map.1 hm
      obtain ⟨hu1, hu2⟩ := List.mem_filter.1 hu
      obtain ⟨j, hj⟩ := List.getElem?_of_mem hu1
      have := h 0 (j + 1) s u rfl hj hl hu2 he.symm
      omega
    · exact ih
theorem TI_card {B : Nat} {tb : Tb.Tbl} {M : Tb.KV} (h : Tb.TI B tb M) (D : List ByteArray) (hD : ∀ w v, M w = some v → w ∈ D) : tb.live ≤ D.length := by
  rcases h with ⟨_, h1, _⟩ | ⟨_, hg, hM, h1, _⟩
  · omega
  · have := sub_len (keys_nodup tb.ss hg.uniq) (D := D) (fun w hw => by
      obtain ⟨s, hs, rfl⟩ := List.mem_map.1 hw
      obtain ⟨hs1, hs2⟩ := List.mem_filter.1 hs
      obtain ⟨i, hi⟩ := List.getElem?_of_mem hs1
      exact hD _ s.value ((hM _ _).2 ⟨i, s, hi, hs2, rfl, rfl⟩))
    rw [List.length_map, ← List.countP_eq_length_filter] at this
    have h1 : tb.ss.countP Tb.Slot.live = tb.live := h1
    omega
def lsts : Nat → List (List ByteArray)
  | 0 => [[]]
  | n + 1 => [] :: (wrdL.flatMap fun w => (lsts n).map (w :: ·))
theorem lsts_len : ∀ n, (lsts n).length ≤ 6 ^ n
  | 0 => by decide
  | n + 1 => by
    have ih := lsts_len n
    have e : (lsts (n + 1)).length = 1 + 5 * (lsts n).length := by
      show (wrdL.flatMap fun w => (lsts n).map (w :: ·)).length + 1 = _
      unfold wrdL
      simp only [List.flatMap_cons, List.flatMap_nil, List.length_append, List.length_map, List.length_nil]
      omega
    have : 1 ≤ 6 ^ n := Nat.pos_of_ne_zero (by simp)
    rw [e, Nat.pow_succ]; omega
theorem lsts_mem : ∀ (n : Nat) (us : List ByteArray), us.length ≤ n → (∀ l ∈ us, l ∈ wrdL) → us ∈ lsts n
  | 0, us, h, _ => by
    have : us = [] := List.eq_nil_of_length_eq_zero (by omega)
    subst this
    exact List.mem_singleton.2 rfl
  | n + 1, [], _, _ => List.mem_cons_self ..
  | n + 1, u :: us, h, hl => by
    refine List.mem_cons_of_mem _ (List.mem_flatMap.2 ⟨u, hl u (List.mem_cons_self ..), List.mem_map.2 ⟨us, lsts_mem n us (by rw [List.length_cons] at h; omega) (fun l h => hl l (List.mem_cons_of_mem _ h)), rfl⟩⟩)
def wordsD : List ByteArray := [(1 : Int), 2, 4, 5].flatMap fun k => (lsts 5).map fun us => wordB k (nm us)
theorem wordsD_len : wordsD.length ≤ 31104 := by
  unfold wordsD
  have := lsts_len 5
  simp only [List.flatMap_cons, List.flatMap_nil, List.length_append, List.length_map, List.length_nil]
  have e : (6 : Nat) ^ 5 = 7776 := by decide
  omega
theorem good_word {t : Tg} (h : GoodT t) (hip : ipK t.1 = false) : wordB t.1 t.2.1 ∈ wordsD := by
  rcases h with h | ⟨h1, h2, us, h3, h4, h5, h6⟩
  · have := ipK_iff.2 h.kind
    rw [this] at hip; cases hip
  · rw [h5]
    refine List.mem_flatMap.2 ⟨t.1, ?_, List.mem_map.2 ⟨us, lsts_mem 5 us h4 h3, rfl⟩⟩
    simp only [List.mem_cons, List.not_mem_nil, or_false]
    exact h1
theorem IxS.few {xb n c : Nat} {V : Tg → Option Int} {own : SH} (h : IxS xb V n c own) (hV : ∀ t, V t ≠ none → GoodT t) : n ≤ 31104 := by
  obtain ⟨M, L, ⟨xm, tb, o1, o2, hT, hTI, hn, _⟩, hI, _⟩ := h
  rw [← hn]
  refine Nat.le_trans (TI_card hTI wordsD (fun w v hw => ?_)) wordsD_len
  obtain ⟨t, ht, e, hv⟩ := (hI.nam w v).1 hw
  rw [← e]
  exact good_word (hV t (by rw [hv]; simp)) ht
instance : LawfulBEq ByteArray := { rfl := ba_beq.2 rfl, eq_of_beq := fun h => ba_beq.1 h }
/-- so many triggers have numbers -/
def IxC (V : Tg → Option Int) (c : Nat) : Prop := ∃ D : List Tg, D.Nodup ∧ (∀ t, V t ≠ none ↔ t ∈ D) ∧ D.length = c
theorem IxC.nil : IxC (fun _ => none) 0 := ⟨[], List.nodup_nil, fun t => ⟨fun h => absurd rfl h, fun h => by cases h⟩, rfl⟩
theorem IxC.put {V : Tg → Option Int} {c : Nat} {t : Tg} {v : Int} (h : IxC V c) (he : encF t ≠ none) : IxC (putV V t v) (c + sNum (V t).isNone) := by
  obtain ⟨D, h1, h2, h3⟩ := h
  cases hv : V t with
  | some u =>
    refine ⟨D, h1, fun s => ?_, by simp [sNum, h3]⟩
    rw [V_put he]
    by_cases e : s = t
    · rw [if_pos e, ← h2, e, hv]; simp
    · rw [if_neg e, h2]
  | none =>
    refine ⟨t :: D, List.nodup_cons.2 ⟨fun hm => (h2 t).2 hm hv, h1⟩, fun s => ?_, by simp [sNum, h3]⟩
    rw [V_put he, List.mem_cons]
    by_cases e : s = t
    · rw [if_pos e]; simp [e]
    · rw [if_neg e, h2]; simp [e]
theorem IxC.del {V : Tg → Option Int} {c c' : Nat} {t : Tg} (h : IxC V c) (hc : c' + sNum (V t).isSome = c) : IxC (delV V t) c' := by
  obtain ⟨D, h1, h2, h3⟩ := h
  refine ⟨D.erase t, h1.erase t, fun s => ?_, ?_⟩
  · unfold delV
    by_cases e : s = t
    · rw [if_pos e, e]
      exact ⟨fun h => absurd rfl h, fun h => absurd rfl ((h1.mem_erase_iff).1 h).1⟩
    · rw [if_neg e, h2, List.mem_erase_of_ne e]
  · cases hv : V t with
    | some u =>
      have hm := (h2 t).1 (by rw [hv]; simp)
      rw [List.length_erase_of_mem hm]
      rw [hv] at hc
      simp [sNum] at hc
      omega
    | none =>
      have hm : t ∉ D := fun h => (h2 t).2 h hv
      rw [List.erase_of_not_mem hm]
      rw [hv] at hc
      simp [sNum] at hc
      omega
theorem IxC.zero {V : Tg → Option Int} {c : Nat} (h : IxC V c) (hV : ∀ t, V t = none) : c = 0 := by
  obtain ⟨D, h1, h2, h3⟩ := h
  cases D with
  | nil => exact h3.symm
  | cons t D => exact absurd (hV t) ((h2 t).2 (List.mem_cons_self ..))
theorem encA7_len (a : A7) : (encA7 a).length = 6 := rfl
/-- an index whose triggers are all of a list -/
def RIx (xb : Nat) (ts : List Tg) (K : Nat) (F T : SH) : Prop := ∃ V n c own, IxS xb V n c own ∧ IxC V c ∧ (∀ t, V t ≠ none → t ∈ ts ∧ GoodT t) ∧ c ≤ K ∧ Sub (own ++ F) T
section
variable {acts : List A7} {a0 : Option Addr} {ac xb : Nat} {I : IMem} {S : SH}
theorem a7_at {J : IMem} {T : SH} {a : A7} {a' : Addr} {k : Nat} (hc : ∀ j v, (encA7 a)[j]? = some v → Cell J T ((a'.add (k * 6)).add j) v) : Cell J T (a'.add (k * 6)) (.int .u8 a.op) := by
  have := hc 0 _ rfl
  rwa [e_add0] at this
/-- all is taken away once more -/
theorem round3 (g : GL I) (hx : RowIn I S a0 acts.length 6 encA7 acts) (hl : acts.length ≤ 140737488355328) (ha : ∀ a ∈ acts, A7In I S a) {J0 : IMem} {T0 : SH} (hle0 : I.le J0) (h : RIx xb [] 0 S T0) :
    bolterlaw17_IndexRound_b10 KW a0 acts.length ac (some ⟨xb, 0, none⟩) J0 T0 := by
  unfold bolterlaw17_IndexRound_b10 bolterlaw17_IndexRound_b11
  refine ⟨fun m x3 y yn yc q i J T => x3 = some ⟨xb, 0, none⟩ ∧ y = a0 ∧ yn = acts.length ∧ q = (acts.length : Int) ∧ J0.le J ∧ ∃ k : Nat, i = (k : Int) ∧ k ≤ acts.length ∧ m = acts.length - k ∧ RIx xb [] 0 S T,
    acts.length, ⟨rfl, rfl, rfl, rfl, IMem.le.refl J0, 0, rfl, Nat.zero_le _, rfl, h⟩, ?_⟩
  rintro m x3 y yn yc q i J T - ⟨rfl, rfl, rfl, rfl, hle, k, rfl, hk, rfl, V, n, c, own, hxS, hC, hV, hcK, hs⟩
  have hV0 : V = fun _ => none := by
    funext t
    cases hv : V t with
    | none => rfl
    | some v => have := (hV t (by rw [hv]; simp)).1; cases this
  subst hV0
  have hc0 : c = 0 := by omega
  subst hc0
  have hn0 := hxS.few (fun t h => absurd rfl h)
  unfold bolterlaw17_IndexRound_l12
  refine bcase_dec (fun hg => ?_) (fun hg => ?_)
  · obtain ⟨a, hak⟩ := get_lt (xs := acts) (k := k) (by omega)
    have hle' := hle0.trans hle
    obtain ⟨a', ea, hc⟩ := ((hx.sub hs.right).le hle').cell hak
    unfold bolterlaw17_IndexRound_b13
    rw [ea]
    refine ⟨by omega, by omega, _, a7_at hc, _, hc 1 _ rfl, _, _, _, hc 2 _ rfl, _, hc 3 _ rfl, _, hc 4 _ rfl, _, hc 5 _ rfl, fun b9 => StP.all (vs := encA7 a) rfl rfl ?_⟩
    have hs1 : Sub (own ++ (a7B b9 a :: S)) (a7B b9 a :: T) := mid3.zc hs
    have hai : ∀ {J' : IMem} {T' : SH}, I.le J' → Sub S T' → A7In J' T' a := fun h1 h2 => (ha a (List.mem_of_getElem? hak)).keep (h2.keep h1)
    have d := a7X (I := J) hs1.right
    refine ⟨_, d 0 _ rfl, _, d 1 _ rfl, _, _, _, d 2 _ rfl, _, d 3 _ rfl, _, d 4 _ rfl, _, d 5 _ rfl, (ATrig_runs (hai hle' hs1.right.drop)).mono ?_⟩
    rintro v J1 T1 hle1 ⟨⟨rfl, hgd⟩, hs2⟩
    have l1 := hle'.trans hle1
    have hen := good_enc hgd
    refine ⟨_, _, _, _, rfl, (IDel_runs (g.le l1) hxS (hs1.trans hs2) (trgA a) (by decide)).mono ?_⟩
    rintro v J2 T2 hle2 ⟨rfl, n2, c2, own2, hx2, hn2, hc2, hs3⟩
    have hd : delV (fun _ => none) (trgA a) = fun _ => none := by
      funext u
      unfold delV
      split <;> rfl
    rw [hd] at hx2
    have hc2' : c2 = 0 := by simp [sNum] at hc2; omega
    subst hc2'
    have l2 := l1.trans hle2
    refine ⟨_, rfl, bcase_f rfl ?_⟩
    have d := a7X (I := J2) hs3.right
    refine ⟨_, d 0 _ rfl, _, d 1 _ rfl, _, _, _, d 2 _ rfl, _, d 3 _ rfl, _, d 4 _ rfl, _, d 5 _ rfl, (ATrig_runs (hai l2 hs3.right.drop)).mono ?_⟩
    rintro v J3 T3 hle3 ⟨⟨rfl, -⟩, hs4⟩
    have l3 := l2.trans hle3
    have hn2b := hx2.few (fun t h => absurd rfl h)
    refine ⟨_, _, _, _, rfl, (IPut_runs (g.le l3) hx2 (hs3.trans hs4) (trgA a) 3 (by omega) (by decide)).mono ?_⟩
    rintro v J4 T4 hle4 ⟨rfl, n4, c4, own4, hx4, hn4, hc4, hs5⟩
    rw [enc_some hen] at hc4 ⊢
    have hc4' : c4 = 1 := by simpa [sNum] using hc4
    subst hc4'
    have l4 := l3.trans hle4
    refine ⟨_, rfl, bcase_f rfl ?_⟩
    have d := a7X (I := J4) hs5.right
    refine ⟨_, d 0 _ rfl, _, d 1 _ rfl, _, _, _, d 2 _ rfl, _, d 3 _ rfl, _, d 4 _ rfl, _, d 5 _ rfl, (ATrig_runs (hai l4 hs5.right.drop)).mono ?_⟩
    rintro v J5 T5 hle5 ⟨⟨rfl, -⟩, hs6⟩
    have l5 := l4.trans hle5
    refine ⟨_, _, _, _, rfl, (IDel_runs (g.le l5) hx4 (hs5.trans hs6) (trgA a) (by decide)).mono ?_⟩
    rintro v J6 T6 hle6 ⟨rfl, n6, c6, own6, hx6, hn6, hc6, hs7⟩
    have hVt : putV (fun _ => none) (trgA a) 3 (trgA a) = some 3 := by rw [V_put hen, if_pos rfl]
    have hd6 : delV (putV (fun _ => none) (trgA a) 3) (trgA a) = fun _ => none := by
      funext u
      unfold delV
      by_cases e : u = trgA a
      · rw [if_pos e]
      · rw [if_neg e, V_put hen, if_neg e]
    rw [hd6] at hx6
    rw [hVt] at hc6 ⊢
    have hc6' : c6 = 0 := by simp [sNum] at hc6; omega
    subst hc6'
    refine ⟨_, rfl, ?_⟩
    unfold bolterlaw17_IndexRound_b14 bolterlaw17_IndexRound_b15
    refine bcase_f rfl ⟨acts.length - (k + 1), by omega, rfl, rfl, rfl, rfl, ((((hle.trans hle1).trans hle2).trans hle3).trans hle4).trans (hle5.trans hle6), k + 1, by rw [wrap_i64 (by omega) (by omega)]; rfl, by omega, rfl, _, n6, 0, own6, hx6, IxC.nil, fun t h => absurd rfl h, Nat.le_refl 0, (hs7.re (by intro a; simp only [cnt_cons, cnt_app, cnt_nil]; omega) : Sub ((own6 ++ S) ++ [a7B b9 a]) T6).left⟩
  · unfold bolterlaw17_IndexRound_b16
    refine (ILen_runs hxS hs (by decide)).mono ?_
    rintro v J1 T1 hle1 ⟨rfl, _⟩
    exact ⟨_, rfl, rfl⟩
/-- all is taken away -/
theorem round2 (g : GL I) (hx : RowIn I S a0 acts.length 6 encA7 acts) (hl : acts.length ≤ 140737488355328) (ha : ∀ a ∈ acts, A7In I S a) {J0 : IMem} {T0 : SH} (hle0 : I.le J0) (h : RIx xb (acts.map trgA) acts.length S T0) :
    bolterlaw17_IndexRound_b7 KW a0 acts.length ac (some ⟨xb, 0, none⟩) J0 T0 := by
  unfold bolterlaw17_IndexRound_b7 bolterlaw17_IndexRound_b8
  refine ⟨fun m z zn zc x3 y yn yc q i J T => z = a0 ∧ zn = acts.length ∧ x3 = some ⟨xb, 0, none⟩ ∧ y = a0 ∧ yn = acts.length ∧ q = (acts.length : Int) ∧ J0.le J ∧ ∃ k : Nat, i = (k : Int) ∧ k ≤ acts.length ∧ m = acts.length - k ∧ RIx xb ((acts.drop k).map trgA) acts.length S T,
    acts.length, ⟨rfl, rfl, rfl, rfl, rfl, rfl, IMem.le.refl J0, 0, rfl, Nat.zero_le _, rfl, h⟩, ?_⟩
  rintro m z zn zc x3 y yn yc q i J T - ⟨rfl, rfl, rfl, rfl, rfl, rfl, hle, k, rfl, hk, rfl, V, n, c, own, hxS, hC, hV, hcK, hs⟩
  unfold bolterlaw17_IndexRound_l9
  refine bcase_dec (fun hg => ?_) (fun hg => ?_)
  · obtain ⟨a, hak⟩ := get_lt (xs := acts) (k := k) (by omega)
    have hle' := hle0.trans hle
    obtain ⟨a', ea, hc⟩ := ((hx.sub hs.right).le hle').cell hak
    rw [ea]
    refine ⟨by omega, by omega, _, a7_at hc, _, hc 1 _ rfl, _, _, _, hc 2 _ rfl, _, hc 3 _ rfl, _, hc 4 _ rfl, _, hc 5 _ rfl, fun b7 => StP.all (vs := encA7 a) rfl rfl ?_⟩
    have hs1 : Sub (own ++ (a7B b7 a :: S)) (a7B b7 a :: T) := mid3.zc hs
    have hai : ∀ {J' : IMem} {T' : SH}, I.le J' → Sub S T' → A7In J' T' a := fun h1 h2 => (ha a (List.mem_of_getElem? hak)).keep (h2.keep h1)
    have d := a7X (I := J) hs1.right
    refine ⟨_, d 0 _ rfl, _, d 1 _ rfl, _, _, _, d 2 _ rfl, _, d 3 _ rfl, _, d 4 _ rfl, _, d 5 _ rfl, (ATrig_runs (hai hle' hs1.right.drop)).mono ?_⟩
    rintro v J1 T1 hle1 ⟨⟨rfl, hgd⟩, hs2⟩
    refine ⟨_, _, _, _, rfl, (IDel_runs (g.le (hle'.trans hle1)) hxS (hs1.trans hs2) (trgA a) (by omega)).mono ?_⟩
    rintro v J2 T2 hle2 ⟨rfl, n2, c2, own2, hx2, hn2, hc2, hs3⟩
    refine ⟨_, rfl, acts.length - (k + 1), by omega, ea.symm ▸ rfl, rfl, rfl, rfl, rfl, rfl, (hle.trans hle1).trans hle2, k + 1, by rw [wrap_i64 (by omega) (by omega)]; rfl, by omega, rfl, _, n2, c2, own2, hx2, hC.del hc2, fun t ht => ?_, by omega, (hs3.re (by intro a; simp only [cnt_cons, cnt_app, cnt_nil]; omega) : Sub ((own2 ++ S) ++ [a7B b7 a]) T2).left⟩
    unfold delV at ht
    split at ht
    · exact absurd rfl ht
    · rename_i hne
      obtain ⟨h1, h2⟩ := hV t ht
      rw [drop_get hak, List.map_cons] at h1
      rcases List.mem_cons.1 h1 with e | h1
      · exact absurd e hne
      · exact ⟨h1, h2⟩
  · have hke : k = acts.length := by omega
    subst hke
    rw [List.drop_length] at hV
    have hV0 : ∀ t, V t = none := fun t => by
      cases hv : V t with
      | none => rfl
      | some v => have := (hV t (by rw [hv]; simp)).1; cases this
    exact round3 g hx hl ha (hle0.trans hle) ⟨V, n, c, own, hxS, hC, fun t h => absurd (hV0 t) h, by rw [hC.zero hV0]; exact Nat.le_refl 0, hs⟩
theorem round_runs (g : GL I) (hx : RowIn I S a0 acts.length 6 encA7 acts) (hl : acts.length ≤ 140737488355328) (ha : ∀ a ∈ acts, A7In I S a) : Runs Tryz.prog 5 #[.slice a0 acts.length ac] I S KW := by
  refine bolterlaw17_IndexRound_fn _ _ _ _ _ _ ?_
  unfold bolterlaw17_IndexRound
  refine (awake17_runs g _).mono ?_
  rintro v J0 T0 hle0 ⟨rfl, hs0⟩
  refine ⟨_, rfl, bcase_f rfl ((IOf_runs J0 T0).mono ?_)⟩
  rintro v J1 T1 hle1 ⟨xb, own, rfl, hxS, hs1⟩
  have l1 := hle0.trans hle1
  refine ⟨_, rfl, ?_⟩
  unfold bolterlaw17_IndexRound_b1 bolterlaw17_IndexRound_b2
  refine ⟨fun m z zn zc x3 y yn yc q i J T => z = a0 ∧ zn = acts.length ∧ x3 = some ⟨xb, 0, none⟩ ∧ y = a0 ∧ yn = acts.length ∧ q = (acts.length : Int) ∧ J1.le J ∧ ∃ k : Nat, i = (k : Int) ∧ k ≤ acts.length ∧ m = acts.length - k ∧ RIx xb ((acts.take k).map trgA) k S T,
    acts.length, ⟨rfl, rfl, rfl, rfl, rfl, rfl, IMem.le.refl J1, 0, rfl, Nat.zero_le _, rfl, _, 0, 0, own, hxS, IxC.nil, fun t h => absurd rfl h, Nat.le_refl 0, (Sub.both (Sub.refl own) hs0).trans hs1⟩, ?_⟩
  rintro m z zn zc x3 y yn yc q i J T - ⟨rfl, rfl, rfl, rfl, rfl, rfl, hle, k, rfl, hk, rfl, V, n, c, own, hxS, hC, hV, hcK, hs⟩
  unfold bolterlaw17_IndexRound_l3
  refine bcase_dec (fun hg => ?_) (fun hg => ?_)
  · obtain ⟨a, hak⟩ := get_lt (xs := acts) (k := k) (by omega)
    have hle' := l1.trans hle
    obtain ⟨a', ea, hc⟩ := ((hx.sub hs.right).le hle').cell hak
    unfold bolterlaw17_IndexRound_b4
    rw [ea]
    refine ⟨by omega, by omega, _, a7_at hc, _, hc 1 _ rfl, _, _, _, hc 2 _ rfl, _, hc 3 _ rfl, _, hc 4 _ rfl, _, hc 5 _ rfl, fun b5 => StP.all (vs := encA7 a) rfl rfl ?_⟩
    have hs1 : Sub (own ++ (a7B b5 a :: S)) (a7B b5 a :: T) := mid3.zc hs
    have hai : ∀ {J' : IMem} {T' : SH}, I.le J' → Sub S T' → A7In J' T' a := fun h1 h2 => (ha a (List.mem_of_getElem? hak)).keep (h2.keep h1)
    have d := a7X (I := J) hs1.right
    unfold bolterlaw17_IndexRound_b5
    refine ⟨_, d 0 _ rfl, _, Cell.at_ (add_mk _ _ _) (d 1 _ rfl), _, _, _, Cell.at_ (add_mk _ _ _) (d 2 _ rfl), _, Cell.at_ (add_mk _ _ _) (d 3 _ rfl), _, Cell.at_ (add_mk _ _ _) (d 4 _ rfl), _, Cell.at_ (add_mk _ _ _) (d 5 _ rfl), _, Cell.at_ (add_mk _ _ _) (d 5 _ rfl), (ATrig_runs (hai hle' hs1.right.drop)).mono ?_⟩
    rintro v J2 T2 hle2 ⟨⟨rfl, hgd⟩, hs2⟩
    have hen := good_enc hgd
    have hnb := hxS.few (fun t h => (hV t h).2)
    refine ⟨_, _, _, _, rfl, hs2.keep hle2, (IPut_runs (g.le (hle'.trans hle2)) hxS (hs1.trans hs2) (trgA a) a.val (by omega) (by omega)).mono ?_⟩
    rintro v J3 T3 hle3 ⟨rfl, n3, c3, own3, hx3, hn3, hc3, hs3⟩
    rw [enc_some hen, Bool.true_and] at hc3
    refine ⟨_, rfl, ?_⟩
    unfold bolterlaw17_IndexRound_b6
    refine ⟨acts.length - (k + 1), by omega, ea.symm ▸ rfl, rfl, rfl, rfl, rfl, rfl, (hle.trans hle2).trans hle3, k + 1, by rw [wrap_i64 (by omega) (by omega)]; rfl, by omega, rfl, _, n3, c3, own3, hx3, by rw [hc3]; exact hC.put hen, fun t ht => ?_, by rw [hc3]; unfold sNum; split <;> omega, (hs3.re (by intro a; simp only [cnt_cons, cnt_app, cnt_nil]; omega) : Sub ((own3 ++ S) ++ [a7B b5 a]) T3).left⟩
    rw [take_snoc hak, List.map_append, List.mem_append]
    rw [V_put hen] at ht
    by_cases e : t = trgA a
    · exact ⟨.inr (by rw [e]; exact List.mem_singleton.2 rfl), by rw [e]; exact hgd⟩
    · rw [if_neg e] at ht
      exact ⟨.inl (hV t ht).1, (hV t ht).2⟩
  · have hke : k = acts.length := by omega
    subst hke
    rw [List.take_length] at hV
    exact round2 g hx hl ha (l1.trans hle) ⟨V, n, c, own, hxS, hC, hV, hcK, hs⟩
end
abbrev A7sW (W : World) (x : Sl) : Prop := x.2.1 ≤ x.2.2 ∧ x.2.2 ≤ maxLen ∧ ∃ ys : List (Int × Int × Sl × Bool × Int × Int), SlIn (imW W) x.1 x.2.1 6 (fun x => [.int .u8 x.1, .int .u8 x.2.1, .slice x.2.2.1.1 x.2.2.1.2.1 x.2.2.1.2.2, .bool x.2.2.2.1, .int .u8 x.2.2.2.2.1, .int .i64 x.2.2.2.2.2]) ys ∧ ∀ y ∈ ys, (fun x => A7W W x) y
theorem a7s_of {W : World} {a : Option Addr} {len cap : Nat} (h : A7sW W (a, len, cap)) : ∃ rs : List A7, rs.length = len ∧ RowIn (imW W) [] a rs.length 6 encA7 rs ∧ ∀ r ∈ rs, A7In (imW W) [] r := by
  obtain ⟨h1, h2, ys, hs, hy⟩ := h
  exact rows_of (P := A7W W) (el2 := encA7) (Q := A7In (imW W) []) (fun x hx => a7_of hx) (fun y => by rw [encA7_len]; decide) hs hy
theorem IndexRound_row (W : World) (g : GL (imW W)) (a0 : Option Addr) (l0 c0 : Nat) (w0 : A7sW W (a0, l0, c0)) (z0 : l0 ≤ 140737488355328) :
    Runs Tryz.prog 5 #[.slice a0 l0 c0] (imW W) [] fun v _ _ => v = .bool true := by
  obtain ⟨rs, rfl, hr, hq⟩ := a7s_of w0
  exact round_runs g hr z0 hq
end Go.Proofs.YtmlojdbahlfiaaaGreatDoor
/- The listed variables: the tables and the two errors of strconv; a world where they lie so. -/
namespace Go.Proofs.YtmlojdbahlfiaaaGreatDoor
open Go Go.Px Go.Lib Go.MakeChecks
set_option linter.unusedVariables false
set_option linter.unusedSimpArgs false
set_option maxRecDepth 100000

abbrev LaidL : List (String × DataW Unit) := [("math/bits.deBruijn32tab", Rows.laid_math_bits_deBruijn32tab), ("math/bits.deBruijn64tab", Rows.laid_math_bits_deBruijn64tab), ("internal/strconv.uint64pow10", Rows.laid_internal_strconv_uint64pow10), ("strconv.ErrRange", Rows.laid_strconv_ErrRange), ("strconv.ErrSyntax", Rows.laid_strconv_ErrSyntax)]
theorem ld_at {W : World} {n : String} {cs : Array Value} {g : Nat} (hg : Program.globalNamed Tryz.prog n = some g) (h : W.var? Tryz.prog n = some cs) : ∃ e fz, (imW W).at_ g = some (.cells cs e fz) := by
  simp only [World.var?, hg, Option.bind_some] at h
  split at h
  · rename_i cs' e fz he
    obtain rfl := Option.some.inj h
    exact ⟨e, fz, he⟩
  · cases h
theorem ld_err {W : World} {n : String} {d : DataW Unit} {r : List (String × DataW Unit)} {g : Nat} (h : laidMet Tryz.prog ((n, .iface "*errors.errorString" d) :: r) W)
    (hg : Program.globalNamed Tryz.prog n = some g) (ht : ((Tryz.prog).globals[g]?).map (·.type) = some 127) : ∃ u v, W.var? Tryz.prog n = some #[.iface u v] := by
  obtain ⟨ps, ⟨g0, t0, cs0, f0, p0, q0, hg0, ht0, hv0, hd0, _, e0⟩, _, hrows⟩ := h
  obtain rfl := Option.some.inj (hg.symm.trans hg0)
  obtain rfl := Option.some.inj (ht.symm.trans ht0)
  obtain ⟨l0⟩ := cs0
  obtain ⟨_, u, v, rfl, _⟩ := iface_of_trod (Tryz.underlying127) hd0
  exact ⟨u, v, hv0⟩
abbrev ld64 : List Int := [0, 1, 56, 2, 57, 49, 28, 3, 61, 58, 42, 50, 38, 29, 17, 4, 62, 47, 59, 36, 45, 43, 51, 22, 53, 39, 33, 30, 24, 18, 12, 5, 63, 55, 48, 27, 60, 41, 37, 16, 46, 35, 44, 21, 52, 32, 23, 11, 54, 26, 40, 15, 34, 20, 31, 10, 25, 14, 19, 9, 13, 8, 7, 6]
abbrev ldp : List Int := [1, 10, 100, 1000, 10000, 100000, 1000000, 10000000, 100000000, 1000000000, 10000000000, 100000000000, 1000000000000, 10000000000000, 100000000000000, 1000000000000000, 10000000000000000, 100000000000000000, 1000000000000000000, 10000000000000000000]
theorem GL_of_laid {W : World} (h : laidMet Tryz.prog LaidL W) : GL (imW W) := by
  have h1 : laidMet Tryz.prog (("math/bits.deBruijn64tab", tabData .u8 ld64) :: [("internal/strconv.uint64pow10", Rows.laid_internal_strconv_uint64pow10), ("strconv.ErrRange", Rows.laid_strconv_ErrRange), ("strconv.ErrSyntax", Rows.laid_strconv_ErrSyntax)]) W := h.tail
  have h2 : laidMet Tryz.prog (("internal/strconv.uint64pow10", tabData .u64 ldp) :: [("strconv.ErrRange", Rows.laid_strconv_ErrRange), ("strconv.ErrSyntax", Rows.laid_strconv_ErrSyntax)]) W := h1.tail
  have h3 := h2.tail
  have h4 := h3.tail
  have t1 := tabIs_of_head (P := Tryz.prog) (g := 4) (t := 256) (e := 5) (n := 64) (by kernel_rfl) (by kernel_rfl) (by kernel_rfl) (by kernel_rfl) (by kernel_rfl) (by kernel_rfl) h1
  have t2 := tabIs_of_head (P := Tryz.prog) (g := 0) (t := 244) (e := 208) (n := 20) (by kernel_rfl) (by kernel_rfl) (by kernel_rfl) (by kernel_rfl) (by kernel_rfl) (by kernel_rfl) h2
  obtain ⟨u0, v0, hv0⟩ := ld_err (g := 2) h3 (by kernel_rfl) (by kernel_rfl)
  obtain ⟨u1, v1, hv1⟩ := ld_err (g := 1) h4 (by kernel_rfl) (by kernel_rfl)
  obtain ⟨e1, f1, g1⟩ := ld_at (g := 4) (by kernel_rfl) t1
  obtain ⟨e2, f2, g2⟩ := ld_at (g := 0) (by kernel_rfl) t2
  obtain ⟨e3, f3, g3⟩ := ld_at (g := 2) (by kernel_rfl) hv0
  obtain ⟨e4, f4, g4⟩ := ld_at (g := 1) (by kernel_rfl) hv1
  exact ⟨⟨_, _, _, g2, rfl⟩, ⟨_, _, _, g1, rfl⟩, ⟨_, _, _, _, _, g4, rfl⟩, ⟨_, _, _, _, _, g3, rfl⟩⟩
/-- A world that meets the condition. -/
noncomputable def laidWorld (os : Os) : World := World.laidAll Tryz.prog os LaidL
theorem laidWorld_os (os : Os) : (laidWorld os).os = os := World.laidAll_os _ _ _
theorem laidWorld_met (os : Os) (args : Array Value) : laidMetH Tryz.prog LaidL ((laidWorld os).forCall (fun _ _ => 0) ⟨#[], args, []⟩).memory := by
  rw [laidMetH_plain _ _ _ (by kernel_rfl)]
  exact laidMet_laidAll args (by kernel_rfl) (by kernel_rfl)
theorem handle_of_laid {W : World} (h : laidMetH Tryz.prog LaidL W) : GL (imW W) := by
  rw [laidMetH_plain _ _ _ (by kernel_rfl)] at h
  exact GL_of_laid h
theorem laidWorld_shaped (os : Os) (args : Array Value) : ((laidWorld os).forCall (fun _ _ => 0) ⟨#[], args, []⟩).Shaped Tryz.prog :=
  World.shaped_of_ZipB (by kernel_rfl) (by kernel_rfl)
end Go.Proofs.YtmlojdbahlfiaaaGreatDoor
