/- What an engine decides. -/
import Derived.Test.YtoiilcdaldnjfaaGreatDoorProg
import Derived.Test.YtoiilcdaldnjfaaGreatDoorRows
import Derived.LaidLaws
import Derived.Lay
import Derived.Stop.LaidErr
import Derived.Lib.LaidTab
import Derived.ChangeVars
import Derived.MakeChecks
import Derived.Test.YtoiilcdaldnjfaaGreatDoorM1EngineMany
import Derived.Test.YtoiilcdaldnjfaaGreatDoorM2EngineMany
import Derived.Test.YtoiilcdaldnjfaaGreatDoorM3EngineMany
import Derived.Test.YtoiilcdaldnjfaaGreatDoorM4EngineMany
import Derived.Test.YtoiilcdaldnjfaaGreatDoorM5EngineMany
import Derived.Test.YtoiilcdaldnjfaaGreatDoorM6EngineMany
namespace Go.Proofs.YtoiilcdaldnjfaaGreatDoor
open Go.Px
set_option linter.unusedVariables false
set_option linter.unusedSimpArgs false
set_option maxRecDepth 8000

theorem VM.bad {o : ByteArray} {k : Int} {A : ByteArray → Prop} {V : Tg → Option Int} (h : VM o k A V) (t : Tg) (he : encF t = Option.none) : V t = Option.none := Classical.byContradiction fun hv => by
  obtain ⟨n, hn, _⟩ := h.some.1 hv
  exact trg_enc hn he
theorem join_trg {o n r : ByteArray} {t : Tg} (h : trgO o n = some t) (he : encF t = some r) : joinN r o = (n, true) := by
  obtain ⟨r', h1, h2, h3, h4, h5⟩ := trg_spec h
  rw [he] at h1
  injection h1 with h1
  subst h1
  unfold joinN
  rw [if_pos, h2]
  rw [Bool.and_eq_true, Bool.and_eq_true]
  exact ⟨isName_iff.1 h4, isName_iff.1 h3, decide_eq_true h5⟩
theorem sm_of {V : Tg → Option Int} (hV : ∀ t, encF t = none → V t = none) {t : Tg} (h : V t ≠ none) : SmT t := by
  cases he : encF t with
  | none => exact absurd (hV t he) h
  | some m => exact dec_sm (enc_dec he)
/-- the best one, in memory -/
abbrev bsT (b : Option Tg) : Tg := b.getD t0
section
variable {b k : Nat} {l : List Zo} {z : Zo} {own F S : SH} {I : IMem} {f : Fa}
theorem dec_end {b3 b4 b7 b8 : Nat} {T : SH} {J : IMem} {t : Tg} {g3 : engine_Engine_Decide_t3} {q : Option Addr} {qn qc : Nat} {qi : Int} (g : GL I) (hle : I.le J) (hP : PlIn J T z.p) (hk : l[k]? = some z) (hi : EnI l) (hlv : z.p.live = true)
    (hb : ∀ j q r, j < k → (l.map Zo.p)[j]? = some q → r ∈ q.zs → cand f q r = none) (hv : z.V t ≠ none) (hm : matchT t f = true) (hu : ∀ u, z.V u ≠ none → matchT u f = true → ahead 0 0 u t = false)
    (hs : Sub (tgB b8 t :: (plB b7 z.p :: (vdB b4 vd0 none 0 0 :: S))) T) :
    engine_Engine_Decide_b14 g3 (fun v _ T => ∃ st, BestS f (l.map Zo.p) st ∧ VdR st S v T) (some ⟨b, 0, none⟩) ⟨b3, 0, none⟩ ⟨b4, 0, none⟩ (k : Int) ⟨b7, 0, none⟩ ⟨b8, 0, none⟩ true q qn qc qi (k : Int) J T := by
  obtain ⟨i1, i2, i3⟩ := hi k z hk
  obtain ⟨n, hn, ha⟩ := i3.some.1 hv
  obtain ⟨a, hna, _⟩ := node_act.2 ⟨hn, ha⟩
  obtain ⟨r, he, _⟩ := trg_spec hn
  have hp : (l.map Zo.p)[k]? = some z.p := by rw [List.getElem?_map, hk]; rfl
  have hbest := vm_best i3 hlv hp hb hv hm hu hn hna
  unfold engine_Engine_Decide_b14
  obtain ⟨c0, c1, c2, _, c3⟩ := tgX (I := J) hs
  refine bcase_f rfl ⟨_, c0, _, c1, _, c2, _, c3, (Encode_runs t (g.le hle) _).mono ?_⟩
  rintro v J1 T1 hle1 ⟨rfl, rfl⟩
  rw [he]
  obtain ⟨p0, p1, p2, p3⟩ := plX (I := J1) hs.drop
  refine ⟨_, _, rfl, _, p0, (Join_runs _ _ _ _).mono ?_⟩
  rintro v J2 T2 hle2 ⟨rfl, rfl⟩
  rw [join_trg hn he]
  obtain ⟨p0, p1, p2, p3⟩ := plX (I := J2) hs.drop
  refine ⟨_, _, rfl, _, p0, _, _, _, p1, _, p2, _, p3, (Node_runs z.p n (((g.le hle).le hle1).le hle2) (hP.le (hle1.trans hle2))).mono ?_⟩
  rintro v J3 T3 hle3 ⟨p', n', c', o, rfl, ho, hs3⟩
  rw [hna] at ho ⊢
  have ho : OwnZ (.slice p' n' c') a.rs o := ho
  refine ⟨_, _, _, _, _, _, _, _, _, _, _, rfl, fun b18 b19 => ?_⟩
  have hB : Sub (o ++ (vdB b4 vd0 none 0 0 :: S)) T3 := ((Sub.refl o).both hs.drop.drop).trans hs3
  refine put_tg (x := t0) (t := t) (F := acB b19 acZ :: (o ++ (vdB b4 vd0 none 0 0 :: S))) (((hB.cons (tgB b18 t0)).cons (acB b19 acZ)).re (by intro a; simp only [cnt_cons, cnt_app]; omega)) fun T4 hs4 => put_av (L := acZ) (a := a) (p := p') (n := n') (c := c') (F := tgB b18 t :: (o ++ (vdB b4 vd0 none 0 0 :: S))) rfl (hs4.re (by intro a; simp only [cnt_cons, cnt_app]; omega)) fun T5 hs5 => ?_
  obtain ⟨d0, d1, d2, _, d3⟩ := tgX (I := J3) hs5.drop
  obtain ⟨e0, e1, e2, e3⟩ := avX (I := J3) hs5
  have d0 : Cell J3 T5 ⟨b18, 0, none⟩ (.int .i64 t.1) := d0
  refine ⟨_, d0, _, Cell.at_ (add_mk b18 0 1).symm d1, _, (by simpa [Addr.add] using d2), _, (by simpa [Addr.add] using d3), _, e0, _, Cell.at_ (add_mk b19 0 1).symm e1, _, Cell.at_ (add_mk b19 0 2).symm e2, _, _, _, Cell.at_ (add_mk b19 0 3).symm e3, ?_⟩
  refine StP.among (e := 48) (L := encVd vd0 none 0 0) (L' := encVd (bsV (some (k, t, a))) p' n' c') (F := o ++ S) (hs5.drop.drop.re (by intro a; simp only [vdB, cnt_cons, cnt_app]; omega)) (Nat.le_of_ble_eq_true rfl) rfl rfl fun T6 hs6 => ?_
  have dd := vdX (I := J3) (v := bsV (some (k, t, a))) hs6
  exact ⟨_, dd 0 _ rfl, _, Cell.at_ (add_mk _ _ _) (dd 1 _ rfl), _, Cell.at_ (add_mk _ _ _) (dd 2 _ rfl), _, Cell.at_ (add_mk _ _ _) (dd 3 _ rfl), _, Cell.at_ (add_mk _ _ _) (dd 4 _ rfl), _, Cell.at_ (add_mk _ _ _) (dd 5 _ rfl), _, Cell.at_ (add_mk _ _ _) (dd 6 _ rfl), _, Cell.at_ (add_mk _ _ _) (dd 7 _ rfl), _, _, _, Cell.at_ (add_mk _ _ _) (dd 8 _ rfl), some (k, t, a), hbest, p', n', c', o, rfl, ho, hs6.drop⟩
theorem dec_rec {R : RT} {g3 : engine_Engine_Decide_t3} {g8 : engine_Engine_Decide_t8} {x0 : OA} {x3 x4 x7 : Addr} {b8 : Nat} {y : OA} {yn yc : Nat} {qq i' : Int} {w : OA} {wc : Nat} {L : List Tg} {t : Tg} {j : Nat} {X T : SH} {J : IMem} (ht : L[j]? = some t) (hL : L.length ≤ 4000000) (hk : k < 2048)
    (hrow : RowIn J T w L.length 4 elT L) (hst : SmT t) (hsb : ∀ u, bstF (L.take j) = some u → SmT u) (hs : Sub (tgB b8 (bsT (bstF (L.take j))) :: X) T)
    (hag : ∀ J' T', J.le J' → Sub (tgB b8 (bsT (bstF (L.take (j + 1)))) :: X) T' → g8 x0 x3 x4 (k : Int) x7 ⟨b8, 0, none⟩ (bstF (L.take (j + 1))).isSome y yn yc qq i' w L.length wc (L.length : Int) ((j + 1 : Nat) : Int) J' T') :
    engine_Engine_Decide_b9 g3 g8 R x0 x3 x4 (k : Int) x7 ⟨b8, 0, none⟩ (bstF (L.take j)).isSome y yn yc qq i' w L.length wc (L.length : Int) (j : Int) J T := by
  have hjl := lt_get ht
  obtain ⟨a2, rfl, hc2⟩ := hrow.cell ht
  have t0' : Cell J T (a2.add (j * 4)) (.int .i64 t.1) := by simpa [Addr.add] using hc2 0 _ rfl
  have ejn : IntKind.wrap .i64 ((j : Int) + 1) = ((j + 1 : Nat) : Int) := by rw [wrap_i64 (by omega) (by omega)]; rfl
  unfold engine_Engine_Decide_b9
  refine ⟨by omega, by omega, _, t0', _, hc2 1 _ rfl, _, hc2 2 _ rfl, _, hc2 3 _ rfl, fun b11 => StP.all (vs := elT t) rfl rfl ?_⟩
  have hs4 : Sub (tgB b11 t :: (tgB b8 (bsT (bstF (L.take j))) :: X)) (tgB b11 t :: T) := hs.cons _
  have hsnoc : bstF (L.take (j + 1)) = if betT t (bstF (L.take j)) = true then some t else bstF (L.take j) := by rw [take_snoc ht, bst_snoc]
  rw [hsnoc] at hag
  generalize bstF (L.take j) = u at hs4 hag hsb
  unfold engine_Engine_Decide_b10
  obtain ⟨d0, d1, d2, _, d3⟩ := tgX (I := J) hs4
  obtain ⟨e0, e1, e2, _, e3⟩ := tgX (I := J) hs4.drop
  refine ⟨_, d0, _, d1, _, d2, _, d3, _, e0, _, e1, _, e2, _, e3, (ROf_runs (k : Int) t _ _).mono ?_⟩
  rintro v J4 T4 hle4 ⟨rfl, rfl⟩
  refine ⟨_, _, rfl, Sub.keep hle4 (Sub.refl _), (ROf_runs (k : Int) _ _ _).mono ?_⟩
  rintro v J5 T5 hle5 ⟨rfl, rfl⟩
  refine ⟨_, _, rfl, ?_⟩
  have l5 := hle4.trans hle5
  have fin : ∀ (x : Bool) (J' : IMem), J.le J' → x = betT t u →
      engine_Engine_Decide_b12 g3 g8 R x0 x3 x4 (k : Int) x7 ⟨b8, 0, none⟩ u.isSome ⟨b11, 0, none⟩ y yn yc qq i' (some a2) L.length wc (L.length : Int) (j : Int) x J' (tgB b11 t :: T) := by
    intro x J' hl' hx
    subst hx
    unfold engine_Engine_Decide_b12 engine_Engine_Decide_b13
    rw [ejn]
    refine bcase_of (fun hb => ?_) (fun hb => ?_)
    · rw [if_pos hb] at hag
      obtain ⟨d0, d1, d2, _, d3⟩ := tgX (I := J') hs4
      refine ⟨_, d0, _, d1, _, d2, _, d3, put_tg (x := bsT u) (t := t) (F := X) hs4.drop fun T6 hs6 => hag J' T6 hl' hs6⟩
    · rw [if_neg (by rw [hb]; exact Bool.false_ne_true)] at hag
      exact hag J' _ hl' hs4.drop
  unfold engine_Engine_Decide_b11
  cases u with
  | none => exact bcase_t rfl (fin true J5 l5 rfl)
  | some v =>
    have hsv := hsb v rfl
    refine bcase_f rfl ((Better_runs _ _ _ _ _ _).mono ?_)
    rintro w' J6 T6 hle6 ⟨rfl, rfl⟩
    have l6 := l5.trans hle6
    refine ⟨_, rfl, ?_⟩
    have hbv : bsT (some v) = v := rfl
    rw [hbv, bt_small hk hk hst hsv, eq_small hk hk hst hsv]
    have hb : betT t (some v) = ahead 0 0 t v := rfl
    refine bcase_of (fun h => fin true J6 l6 ?_) (fun h => bcase_dec (fun h2 => ?_) (fun h2 => fin false J6 l6 ?_))
    · rw [hb, ← ahead_kk k]
      unfold ahead
      rw [if_neg, h]
      rintro ⟨_, e⟩
      unfold rkLt at h
      rw [if_pos rfl, decide_eq_true_eq] at h
      omega
    · obtain ⟨d0, d1, d2, _, d3⟩ := tgX (I := J6) hs4
      obtain ⟨e0, e1, e2, _, e3⟩ := tgX (I := J6) hs4.drop
      refine ⟨_, d0, _, d1, _, d2, _, d3, _, e0, _, e1, _, e2, _, e3, (Less_runs t v _ _).mono ?_⟩
      rintro w2 J7 T7 hle7 ⟨rfl, rfl⟩
      refine ⟨_, rfl, fin _ J7 (l6.trans hle7) ?_⟩
      rw [hb, ← ahead_kk k]
      unfold ahead
      rw [if_pos h2]
    · rw [hb, ← ahead_kk k]
      unfold ahead
      rw [if_neg h2, h]
theorem Decide_runs (g : GL I) (h : EngO b l own) (hi : EnI l) (hs : Sub (own ++ F) S) (hf : FaIn I S f) (hok : FaOK f) (hl : l.length ≤ 1000) :
    Runs Tryz.prog 14 #[.pointer (some ⟨b, 0, none⟩), vFa f] I S fun v _ T => ∃ st, BestS f (l.map Zo.p) st ∧ VdR st S v T := by
  refine engine_Engine_Decide_fn _ _ _ _ _ _ _ _ _ _ _ _ _ _ _ ?_
  unfold engine_Engine_Decide engine_Engine_Decide_b1 engine_Engine_Decide_b2
  intro b3 b4
  obtain ⟨q, c, p, d, c1, c2, r1, r2⟩ := h.read (I := I) hs
  have hS0 : Sub S (vdB b4 vd0 none 0 0 :: (faB b3 f :: S)) := ((Sub.refl S).skip _).skip _
  refine ⟨q, l.length, c, Cell.mono c1 (hS0.keep (IMem.le.refl I)), ?_⟩
  refine ⟨fun m x0 x3 x4 y yn yc qq i J T => x0 = some ⟨b, 0, none⟩ ∧ x3 = ⟨b3, 0, none⟩ ∧ x4 = ⟨b4, 0, none⟩ ∧ y = q ∧ yn = l.length ∧ qq = (l.length : Int) ∧ I.le J ∧ ∃ k : Nat, i = (k : Int) ∧ k ≤ l.length ∧ m = l.length - k ∧ (∀ j q r, j < k → (l.map Zo.p)[j]? = some q → r ∈ q.zs → cand f q r = none) ∧ Sub (vdB b4 vd0 none 0 0 :: (faB b3 f :: S)) T,
    l.length, ⟨rfl, rfl, rfl, rfl, rfl, rfl, IMem.le.refl I, 0, rfl, Nat.zero_le _, rfl, fun j q r hj => (by omega), Sub.refl _⟩, ?_⟩
  rintro m x0 x3 x4 y yn yc qq i J T - ⟨rfl, rfl, rfl, rfl, rfl, rfl, hle, k, rfl, hk, rfl, hb, hT⟩
  unfold engine_Engine_Decide_l3
  refine bcase_dec (fun hg => ?_) (fun hg => ?_)
  · obtain ⟨z, hz⟩ := get_lt (xs := l) (k := k) (by omega)
    have hzp : (l.map Zo.p)[k]? = some z.p := by rw [List.getElem?_map, hz]; rfl
    have hST : Sub S T := hT.drop.drop
    obtain ⟨a, ea, hc⟩ := ((r1.sub hST).le hle).cell hzp
    obtain ⟨i1, i2, i3⟩ := hi k z hz
    have e0 : Cell J T (a.add (k * 4)) (.string z.p.o) := by simpa [Addr.add] using hc 0 _ rfl
    have hnext : IntKind.wrap .i64 ((k : Int) + 1) = ((k + 1 : Nat) : Int) := by rw [wrap_i64 (by omega) (by omega)]; rfl
    unfold engine_Engine_Decide_b4
    rw [ea]
    refine ⟨by omega, by omega, _, e0, _, _, _, hc 1 _ rfl, _, hc 2 _ rfl, _, hc 3 _ rfl, fun b7 => StP.all (vs := encPl z.p) rfl rfl ⟨_, Cell.at0 rfl, bcase_not (bcase_of (fun hlv => fun b8 => ?_) (fun hlv => ?_))⟩⟩
    · unfold engine_Engine_Decide_b6
      have hS1 : Sub (tgB b8 t0 :: (plB b7 z.p :: (vdB b4 vd0 none 0 0 :: (faB b3 f :: S)))) (tgB b8 t0 :: plB b7 z.p :: T) := (hT.cons _).cons _
      have hSS : Sub S (tgB b8 t0 :: plB b7 z.p :: T) := hS1.drop.drop.drop.drop
      obtain ⟨ap, eap, hap⟩ := EngO.ptr ((r2.sub hSS).le hle) hz
      obtain ⟨f0, f1, f2, f3, f4⟩ := bA f (I := J) hS1.drop.drop.drop
      refine ⟨_, _, _, Cell.mono c2 (hSS.keep hle), ?_⟩
      rw [eap]
      refine ⟨by omega, by omega, _, hap, _, f0, _, f1, _, _, _, f2, _, _, _, f3, _, _, _, f4, ?_⟩
      obtain ⟨ox, rest, n, x1, x2, x3, x4⟩ := h.idx hz
      refine (found_runs (f := f) x1 i3.bad (x3 F _ (hs.trans hSS)) ((hf.le hle).sub hSS) hok).mono ?_
      rintro v J2 T2 hle2 ⟨L, lp, lc, lo, rfl, hlo, hFL, hLl, hs2⟩
      refine ⟨_, _, _, rfl, ?_⟩
      have hV := i3.bad
      have hall : Sub (tgB b8 t0 :: (plB b7 z.p :: (lo ++ (vdB b4 vd0 none 0 0 :: (faB b3 f :: S))))) T2 := (((Sub.refl lo).both hS1).trans hs2).re (by intro a; simp only [cnt_cons, cnt_app]; omega)
      have hLV : ∀ (j : Nat) (t : Tg), L[j]? = some t → z.V t ≠ none := fun j t ht => (hFL.1 t (List.mem_of_getElem? ht)).1
      have hBV : ∀ (j : Nat) (t : Tg), bstF (L.take j) = some t → z.V t ≠ none := fun j t ht => (hFL.1 t (List.mem_of_mem_take ((bst_spec _ (L.take j) rfl).2 t ht).1)).1
      unfold engine_Engine_Decide_b7
      refine ⟨fun m x0 x3 x4 x6 x7 x8 x9 y' yn' yc' qq' i' w wn wc wq j J T => x0 = some ⟨b, 0, none⟩ ∧ x3 = ⟨b3, 0, none⟩ ∧ x4 = ⟨b4, 0, none⟩ ∧ x6 = (k : Int) ∧ x7 = ⟨b7, 0, none⟩ ∧ x8 = ⟨b8, 0, none⟩ ∧ y' = y ∧ yn' = l.length ∧ qq' = (l.length : Int) ∧ i' = (k : Int) ∧ w = lp ∧ wn = L.length ∧ wq = (L.length : Int) ∧ I.le J ∧ ∃ j' : Nat, j = (j' : Int) ∧ j' ≤ L.length ∧ m = L.length - j' ∧ x9 = (bstF (L.take j')).isSome ∧ Sub (tgB b8 (bsT (bstF (L.take j'))) :: (plB b7 z.p :: (lo ++ (vdB b4 vd0 none 0 0 :: (faB b3 f :: S))))) T,
        L.length, ⟨rfl, rfl, rfl, rfl, rfl, rfl, ea.symm ▸ rfl, rfl, rfl, rfl, rfl, rfl, rfl, hle.trans hle2, 0, rfl, Nat.zero_le _, rfl, rfl, hall⟩, ?_⟩
      rintro m x0 x3 x4 x6 x7 x8 x9 y' yn' yc' qq' i' w wn wc wq j J3 T3 - ⟨rfl, rfl, rfl, rfl, rfl, rfl, rfl, rfl, rfl, rfl, rfl, rfl, rfl, hle3, j, rfl, hj, rfl, rfl, hs3⟩
      unfold engine_Engine_Decide_l8
      refine bcase_dec (fun hg2 => ?_) (fun hg2 => ?_)
      · obtain ⟨t, ht⟩ := get_lt (xs := L) (k := j) (by omega)
        have hrow : RowIn J3 T3 w L.length 4 elT L := (hlo.row elT_len).sub hs3.drop.drop.left
        refine dec_rec (X := plB b7 z.p :: (lo ++ (vdB b4 vd0 none 0 0 :: (faB b3 f :: S)))) ht (by omega) (by omega) hrow (sm_of hV (hLV j t ht)) (fun u hu => sm_of hV (hBV j u hu)) hs3 fun J' T' hl' hs' => ?_
        exact ⟨L.length - (j + 1), by omega, rfl, rfl, rfl, rfl, rfl, rfl, rfl, rfl, rfl, rfl, rfl, rfl, rfl, hle3.trans hl', j + 1, rfl, by omega, rfl, rfl, hs'⟩
      · have hje : j = L.length := by omega
        subst hje
        rw [List.take_length] at hs3 ⊢
        obtain ⟨n1, n2⟩ := hFL.best
        cases hbb : bstF L with
        | none =>
          unfold engine_Engine_Decide_b14 engine_Engine_Decide_b5
          refine bcase_t rfl ⟨l.length - (k + 1), by omega, rfl, rfl, rfl, ea, rfl, rfl, hle3, k + 1, hnext, by omega, rfl, fun j q r hj hq hr => ?_, hs3.drop.drop.right⟩
          by_cases e : j = k
          · subst e
            rw [hzp] at hq
            injection hq with hq
            subst hq
            cases hc : cand f z.p r with
            | none => rfl
            | some x =>
              obtain ⟨t, a⟩ := x
              obtain ⟨g1, g2⟩ := (vm_cand i3 hlv).1 ⟨r, hr, a, hc⟩
              exact absurd ((asks_iff f t).2 g2) (n1 hbb t g1)
          · exact hb j q r (by omega) hq hr
        | some bb =>
          obtain ⟨m1, m2, m3⟩ := n2 bb hbb
          rw [hbb] at hs3
          have hs3 : Sub (tgB b8 bb :: (plB b7 z.p :: (lo ++ (vdB b4 vd0 none 0 0 :: (faB b3 f :: S))))) T3 := hs3
          have hP : PlIn J3 T3 z.p := ((h.pl hz (by omega) hs).le hle3).sub hs3.drop.drop.right.drop.drop
          exact dec_end (z := z) g hle3 hP hz hi hlv hb m1 ((asks_iff f bb).1 m2) (fun u hu hm => m3 u hu ((asks_iff f u).2 hm)) (hs3.re (by intro a; simp only [cnt_cons, cnt_app]; omega))
    · unfold engine_Engine_Decide_b5
      refine ⟨l.length - (k + 1), by omega, rfl, rfl, rfl, ea.symm ▸ rfl, rfl, rfl, hle, k + 1, hnext, by omega, rfl, fun j q r hj hq hr => ?_, hT.skip _⟩
      by_cases e : j = k
      · subst e
        rw [hzp] at hq
        injection hq with hq
        subst hq
        exact cand_dead hlv r
      · exact hb j q r (by omega) hq hr
  · have hke : k = l.length := by omega
    subst hke
    unfold engine_Engine_Decide_b15
    refine StP.among (e := 48) (L := encVd vd0 none 0 0) (L' := encVd (bsV none) none 0 0) (F := faB b3 f :: S) hT (Nat.le_of_ble_eq_true rfl) rfl rfl fun T6 hs6 => ?_
    have dd := vdX (I := J) (v := bsV none) hs6
    exact ⟨_, dd 0 _ rfl, _, Cell.at_ (add_mk _ _ _) (dd 1 _ rfl), _, Cell.at_ (add_mk _ _ _) (dd 2 _ rfl), _, Cell.at_ (add_mk _ _ _) (dd 3 _ rfl), _, Cell.at_ (add_mk _ _ _) (dd 4 _ rfl), _, Cell.at_ (add_mk _ _ _) (dd 5 _ rfl), _, Cell.at_ (add_mk _ _ _) (dd 6 _ rfl), _, Cell.at_ (add_mk _ _ _) (dd 7 _ rfl), _, _, _, Cell.at_ (add_mk _ _ _) (dd 8 _ rfl), none,
      bests_none fun k p r hp hr => hb k p r (by have := lt_get hp; rwa [List.length_map] at this) hp hr, none, 0, 0, [], rfl, OwnR.nil, hs6.drop.drop⟩
end
end Go.Proofs.YtoiilcdaldnjfaaGreatDoor
set_option linter.unusedVariables false
set_option maxRecDepth 8000
set_option maxHeartbeats 2000000
namespace Go.Proofs.YtoiilcdaldnjfaaGreatDoor
open Go.Px
def bolterlaw20_awake_b1 (R : RT) (x0 : Bool) (I : IMem) (S : SH) : Prop :=
  R (.bool x0) I S
def bolterlaw20_awake (R : RT) (I : IMem) (S : SH) : Prop :=
  ∀ b13 : Nat,
  Runs Tryz.prog 25 #[.slice (some ⟨b13, 0, none⟩) 1 1] I ((b13, .cells #[.string ⟨#[114, 112, 122]⟩] 9 (0, 0)) :: S) fun v I1 S1 => ∃ u0 u1, v = .tuple #[.string u0, .bool u1] ∧
  ∀ b18 : Nat,
  Runs Tryz.prog 25 #[.slice (some ⟨b18, 0, none⟩) 2 2] I1 ((b18, .cells #[.string ⟨#[101, 120]⟩, .string ⟨#[114, 112, 122]⟩] 9 (0, 0)) :: S1) fun v' I1' S1' => ∃ u2 u3, v' = .tuple #[.string u2, .bool u3] ∧
  ∀ b23 : Nat,
  Runs Tryz.prog 25 #[.slice (some ⟨b23, 0, none⟩) 1 1] I1' ((b23, .cells #[.string ⟨#[101, 120]⟩] 9 (0, 0)) :: S1') fun v'' I1'' S1'' => ∃ u4 u5, v'' = .tuple #[.string u4, .bool u5] ∧
  ∀ b28 : Nat,
  Runs Tryz.prog 9 #[.slice (some ⟨b28, 0, none⟩) 1 1, .slice none 0 0] I1'' ((b28, .cells #[.string u0] 30 (0, 0)) :: S1'') fun v_r3 I1_r3 S1_r3 => ∃ u6, v_r3 = .pointer u6 ∧
  bcase ((u6 : Option Addr).isNone)
    (R (.bool false) I1_r3 S1_r3)
    (∀ b35 : Nat,
    Runs Tryz.prog 11 #[.pointer u6, .int .i64 0, .slice (some ⟨b35, 0, none⟩) 1 1] I1_r3 ((b35, .cells #[.string u2, .int .u16 5, .int .u32 0, .string ⟨#[]⟩] 84 (0, 0)) :: S1_r3) fun v_r4 I1_r4 S1_r4 => ∃ u7, v_r4 = .bool u7 ∧
    Runs Tryz.prog 13 #[.pointer u6, .int .i64 0, .bool true] I1_r4 S1_r4 fun v_r5 I1_r5 S1_r5 => ∃ u8, v_r5 = .bool u8 ∧
    Runs Tryz.prog 14 #[.pointer u6, .agg #[.string ⟨#[]⟩, .string u4, .slice none 0 0, .slice none 0 0, .slice none 0 0]] I1_r5 S1_r5 fun v_r6 I1_r6 S1_r6 => ∃ u9 ua ub uc ud ue uf ug uh uhn uhc ui, v_r6 = .tuple #[.agg #[.int .i64 u9, .int .i64 ua, .string ub, .string uc, .int .i64 ud, .int .i64 ue, .string uf, .bool ug, .slice uh uhn uhc], .bool ui] ∧
    ∀ b10 : Nat,
    StP ((b10, .cells #[.int .i64 0, .int .i64 0, .string ⟨#[]⟩, .string ⟨#[]⟩, .int .i64 0, .int .i64 0, .string ⟨#[]⟩, .bool false, .slice none 0 0] 48 (0, 0)) :: S1_r6) ⟨b10, 0, none⟩ [.int .i64 u9, .int .i64 ua, .string ub, .string uc, .int .i64 ud, .int .i64 ue, .string uf, .bool ug, .slice uh uhn uhc] fun S1_r7 =>
    bcase u7
      (bcase u8
        (bcase ui
          (∃ uj, Cell I1_r6 S1_r7 ⟨b10, 5, none⟩ (.int .i64 uj) ∧
          bcase (uj == (4 : Int))
            (Runs Tryz.prog 16 #[.pointer u6] I1_r6 S1_r7 fun v_r7 I1_r7 S1_r8 => ∃ uk, v_r7 = .int .i64 uk ∧
            bolterlaw20_awake_b1 R (uk == (1 : Int)) I1_r7 S1_r8)
            (bolterlaw20_awake_b1 R false I1_r6 S1_r7))
          (bolterlaw20_awake_b1 R false I1_r6 S1_r7))
        (bolterlaw20_awake_b1 R false I1_r6 S1_r7))
      (bolterlaw20_awake_b1 R false I1_r6 S1_r7))
theorem bolterlaw20_awake_fn (R : RT) (I : IMem) (S : SH) (h : bolterlaw20_awake R I S) : Runs Tryz.prog 8 #[] I S R := by
  refine Runs.of_wp (c := cd Tryz.f8) Tryz.func8 (by kernel_rfl) (by kernel_rfl) ?_
  refine cO 9 [kB 0] (bolterlaw20_awake_b1 R) h fun _ _ _ _ _ h => ?_
  exact pS h
end Go.Proofs.YtoiilcdaldnjfaaGreatDoor
set_option linter.unusedVariables false
set_option maxRecDepth 8000
set_option maxHeartbeats 2000000
namespace Go.Proofs.YtoiilcdaldnjfaaGreatDoor
open Go.Px
abbrev bolterlaw20_EngineMany_t3 := Int → Int → OA → Nat → Nat → Int → PR
def bolterlaw20_EngineMany_b6 (R : RT) (x4 : Bool) (I : IMem) (S : SH) : Prop :=
  R (.bool x4) I S
def bolterlaw20_EngineMany_b5 (R : RT) (x1 : Int) (x7 : OA) (x8 : Int) (x9 : Bool) (I : IMem) (S : SH) : Prop :=
  Runs Tryz.prog 16 #[.pointer x7] I S fun v I1 S1 => ∃ u0, v = .int .i64 u0 ∧
  bcase (u0 == x8)
    (Runs Tryz.prog 17 #[.pointer x7] I1 S1 fun v' I1' S1' => ∃ u1 u1n u1c, v' = .slice u1 u1n u1c ∧
    bcase ((u1n : Int) == x8)
      (Runs Tryz.prog 18 #[.pointer x7] I1' S1' fun v'' I1'' S1'' => ∃ u2 u2n u2c, v'' = .slice u2 u2n u2c ∧
      bcase ((u2n : Int) == x8)
        (Runs Tryz.prog 13 #[.pointer x7, .int .i64 x1, .bool true] I1'' S1'' fun v_r3 I1_r3 S1_r3 => ∃ u3, v_r3 = .bool u3 ∧
        bcase (u3 == x9)
          (Runs Tryz.prog 11 #[.pointer x7, .int .i64 x1, .slice none 0 0] I1_r3 S1_r3 fun v_r4 I1_r4 S1_r4 => ∃ u4, v_r4 = .bool u4 ∧
          bolterlaw20_EngineMany_b6 R (u4 == x9) I1_r4 S1_r4)
          (bolterlaw20_EngineMany_b6 R false I1_r3 S1_r3))
        (bolterlaw20_EngineMany_b6 R false I1'' S1''))
      (bolterlaw20_EngineMany_b6 R false I1' S1'))
    (bolterlaw20_EngineMany_b6 R false I1 S1)
def bolterlaw20_EngineMany_b4 (R : RT) (x1 : Int) (x5 : OA) (x5n x5c : Nat) (I : IMem) (S : SH) : Prop :=
  Runs Tryz.prog 9 #[.slice x5 x5n x5c, .slice none 0 0] I S fun v I1 S1 => ∃ u0, v = .pointer u0 ∧
  bcase (decide (x1 ≥ (0 : Int)))
    (bolterlaw20_EngineMany_b5 R x1 u0 (if (32 : Int) < (x5n : Int) then (32 : Int) else (x5n : Int)) (decide (x1 < (if (32 : Int) < (x5n : Int) then (32 : Int) else (x5n : Int)))) I1 S1)
    (bolterlaw20_EngineMany_b5 R x1 u0 (if (32 : Int) < (x5n : Int) then (32 : Int) else (x5n : Int)) false I1 S1)
def bolterlaw20_EngineMany_l3 (g3 : bolterlaw20_EngineMany_t3) (R : RT) (x0 x1 : Int) (x5 : OA) (x5n x5c : Nat) (x6 : Int) (I : IMem) (S : SH) : Prop :=
  bcase (decide (x6 < (IntKind.wrap .i64 (x0.tmod (40 : Int)))))
    (Runs Tryz.prog 10 #[.int .i64 x6] I S fun v I1 S1 => ∃ u0, v = .string u0 ∧
    ∀ b22 : Nat,
    AppG 30 1 16 [.string ⟨#[]⟩] (some (.slice 30)) I1 ((b22, .cells #[.string u0] 30 (0, 0)) :: S1) (.slice x5 x5n x5c) (.slice (some ⟨b22, 0, none⟩) 1 1) fun u1 u1n u1c S1' =>
    g3 x0 x1 u1 u1n u1c (IntKind.wrap .i64 (x6 + (1 : Int))) I1 S1')
    (bolterlaw20_EngineMany_b4 R x1 x5 x5n x5c I S)
def bolterlaw20_EngineMany_b2 (R : RT) (x0 x1 : Int) (x5 : OA) (x5n x5c : Nat) (x6 : Int) (I : IMem) (S : SH) : Prop :=
  ∃ (Inv : Nat → bolterlaw20_EngineMany_t3) (m : Nat), Inv m x0 x1 x5 x5n x5c x6 I S ∧
    ∀ (m : Nat) (x0 x1 : Int) (x5 : OA) (x5n x5c : Nat) (x6 : Int) (J : IMem) (T : SH), I.le J → Inv m x0 x1 x5 x5n x5c x6 J T →
      bolterlaw20_EngineMany_l3 (fun x0 x1 x5 x5n x5c x6 I S => ∃ m', m' < m ∧ Inv m' x0 x1 x5 x5n x5c x6 I S) R x0 x1 x5 x5n x5c x6 J T
def bolterlaw20_EngineMany_b1 (R : RT) (x0 x1 : Int) (x5 : OA) (x5n x5c : Nat) (I : IMem) (S : SH) : Prop :=
  bolterlaw20_EngineMany_b2 R x0 x1 x5 x5n x5c 0 I S
def bolterlaw20_EngineMany (R : RT) (u0 u1 : Int) (I : IMem) (S : SH) : Prop :=
  Runs Tryz.prog 8 #[] I S fun v I1 S1 => ∃ u2, v = .bool u2 ∧
  bcase (!u2)
    (R (.bool false) I1 S1)
    (bolterlaw20_EngineMany_b1 R u0 u1 none 0 0 I1 S1)
theorem bolterlaw20_EngineMany_fn (R : RT) (u0 u1 : Int) (I : IMem) (S : SH) (h : bolterlaw20_EngineMany R u0 u1 I S) : Runs Tryz.prog 4 #[.int .u8 u0, .int .i64 u1] I S R := by
  refine Runs.of_wp (c := cd Tryz.f4) Tryz.func4 (by kernel_rfl) (by kernel_rfl) ?_
  refine cO 3 [kI .u8 0, kI .i64 1, kL 5] (bolterlaw20_EngineMany_b1 R) h fun _ _ _ _ _ _ _ _ _ h => ?_
  refine sO [kI .i64 1, kL 5] (bolterlaw20_EngineMany_b4 R) ?_ fun _ _ _ _ _ _ _ _ h => ?_
  · refine cO 1 [kI .u8 0, kI .i64 1, kL 5, kI .i64 6] (bolterlaw20_EngineMany_b2 R) h fun _ _ _ _ _ _ _ _ _ _ h => ?_
    refine bK ?_
    obtain ⟨Vg3, mg3, h, hr⟩ := h
    refine lO [kI .u8 0, kI .i64 1, kL 5, kI .i64 6] Vg3 mg3 h fun mg3 _ I S hle x0 x1 x5 x5n x5c x6 h => ?_
    have h := hr mg3 x0 x1 x5 x5n x5c x6 I S hle h
    exact pS h
  refine cO 3 [kI .i64 1, kP 7, kI .i64 8, kB 9] (bolterlaw20_EngineMany_b5 R) h fun _ _ _ _ _ _ _ _ h => ?_
  refine cO 1 [kB 4] (bolterlaw20_EngineMany_b6 R) h fun _ _ _ _ _ h => ?_
  exact pS h
end Go.Proofs.YtoiilcdaldnjfaaGreatDoor
/- The document's example of an engine; EngineSilent: what is not live, or is told to do nothing. -/
namespace Go.Proofs.YtoiilcdaldnjfaaGreatDoor
open Go.Px
set_option linter.unusedVariables false
set_option linter.unusedSimpArgs false
set_option maxRecDepth 8000

theorem sl_nil {α : Type} {el : α → List Value} {k : Nat} {I : IMem} {S : SH} : RowIn I S none ([] : List α).length k el [] := ⟨rfl, fun i x h => by simp at h⟩
theorem node_cong {p q : Pl} (h1 : p.o = q.o) (h2 : p.zs = q.zs) (h3 : p.over = q.over) (n : ByteArray) : nodeF p n = nodeF q n := by
  unfold nodeF
  rw [h1, h2, h3]
theorem cand_cong {p q : Pl} (h1 : p.o = q.o) (h2 : p.zs = q.zs) (h3 : p.over = q.over) (h4 : p.live = q.live) (f : Fa) (r : Rc) : cand f p r = cand f q r := by
  unfold cand
  rw [node_cong h1 h2 h3, h4]
theorem len_one {α : Type} {l : List α} (h : l.length = 1) : ∃ x, l = [x] := by
  match l, h with
  | [x], _ => exact ⟨x, rfl⟩
theorem ok_faA : FaOK faA := ⟨by decide, by decide, fun x h => (by cases h), fun x h => (by cases h), fun x h => (by cases h), by decide, by decide, by decide⟩
theorem awake20_runs {I : IMem} (g : GL I) (S : SH) : Runs Tryz.prog 8 #[] I S fun v _ T => v = .bool true ∧ Sub S T := by
  refine bolterlaw20_awake_fn _ _ _ ?_
  unfold bolterlaw20_awake
  intro b13
  refine (Make_runs (ls := [rpzL]) (strs_row [rpzL] (by decide)) (by decide)).mono ?_
  rintro v J1 T1 hle1 ⟨rfl, rfl⟩
  rw [mkRpz]
  refine ⟨_, _, rfl, fun b18 => (Make_runs (ls := [exL, rpzL]) (strs_row [exL, rpzL] (by decide)) (by decide)).mono ?_⟩
  rintro v J2 T2 hle2 ⟨rfl, rfl⟩
  rw [mkExr]
  refine ⟨_, _, rfl, fun b23 => (Make_runs (ls := [exL]) (strs_row [exL] (by decide)) (by decide)).mono ?_⟩
  rintro v J3 T3 hle3 ⟨rfl, rfl⟩
  rw [mkEx]
  refine ⟨_, _, rfl, fun b28 => ?_⟩
  have g3 := ((g.le hle1).le hle2).le hle3
  refine (EOf_runs (os := [rpzN]) (ks := []) (c2 := 0) (strs_row [rpzN] (by decide)) sl_nil (by decide)).mono ?_
  rintro v J4 T4 hle4 ⟨b, l, own, rfl, hl, hof, he, hi, hs4⟩
  obtain ⟨z, rfl⟩ := len_one (hl.trans rfl)
  obtain ⟨o1, o2, o3, o4⟩ := hof 0 z rfl
  have o1 : rpzN = z.p.o := Option.some.inj o1
  have o2 : z.p.over = 0 := o2
  refine ⟨_, rfl, bcase_f rfl fun b35 => ?_⟩
  refine (Set_runs (k := 0) (zs := [rcA]) (g3.le hle4) he hi rfl (by show 1 ≤ 1000; decide) (hs4.skip _) (encR_row1 rcA) (List.pairwise_singleton _ _) (by decide)).mono ?_
  rintro v J5 T5 hle5 ⟨rfl, z1, own1, p1, p2, p3, p4, he1, hi1, hs5⟩
  refine ⟨_, rfl, (Live_runs (k := 0) he1 rfl (by show 1 ≤ 1000; decide) hs5 true).mono ?_⟩
  rintro v J6 T6 hle6 ⟨rfl, own2, he2, hs6⟩
  refine ⟨_, rfl, ?_⟩
  have hi2 : EnI [(⟨⟨z1.p.o, z1.p.zn, z1.p.zs, true, z1.p.over⟩, z1.xb, z1.V, z1.c⟩ : Zo)] := hi1.set (k := 0) (z' := ⟨⟨z1.p.o, z1.p.zn, z1.p.zs, true, z1.p.over⟩, z1.xb, z1.V, z1.c⟩) (hi1 0 z1 rfl).1 (hi1 0 z1 rfl).2.1 (hi1 0 z1 rfl).2.2
  have he2 : EngO b [(⟨⟨z1.p.o, z1.p.zn, z1.p.zs, true, z1.p.over⟩, z1.xb, z1.V, z1.c⟩ : Zo)] own2 := he2
  refine (Decide_runs (f := faA) (((g3.le hle4).le hle5).le hle6) he2 hi2 hs6 ⟨ls_nil, ls_nil, ls_nil⟩ ok_faA (by show 1 ≤ 1000; decide)).mono ?_
  rintro v J7 T7 hle7 ⟨st, hb, q, n, c, o, rfl, ho, hs7⟩
  have hca : cand faA ⟨z1.p.o, z1.p.zn, z1.p.zs, true, z1.p.over⟩ rcA = some ((1, exN, ⟨#[]⟩, 0), ⟨4, ⟨#[]⟩, false, []⟩) := by
    rw [cand_cong (p := ⟨z1.p.o, z1.p.zn, z1.p.zs, true, z1.p.over⟩) (q := plA 0) (by show z1.p.o = rpzN; rw [p1, o1]) p4 (by show z1.p.over = 0; rw [p2, o2]) rfl]
    unfold cand
    rw [show nodeF (plA 0) rcA.1 = _ from node_A 0]
    refine if_pos ⟨rfl, by decide, ?_⟩
    unfold matchT
    rw [if_neg (by decide), if_pos rfl]
    exact keq.2 rfl
  obtain ⟨zz, tt, aa, rfl, _⟩ := hb.1 0 _ rcA _ _ rfl (by rw [p4]; exact List.mem_singleton.2 rfl) hca
  obtain ⟨p', r', q1, q2, q3⟩ := hb.2 zz tt aa rfl
  have hzz : zz = 0 := by
    have := lt_get q1
    simp at this
    omega
  subst hzz
  have q1 : (⟨z1.p.o, z1.p.zn, z1.p.zs, true, z1.p.over⟩ : Pl) = p' := Option.some.inj q1
  subst q1
  rw [show (⟨z1.p.o, z1.p.zn, z1.p.zs, true, z1.p.over⟩ : Pl).zs = [rcA] from p4, List.mem_singleton] at q2
  subst q2
  rw [hca] at q3
  injection q3 with q3
  injection q3 with q3 q4
  subst q3 q4
  refine ⟨_, _, _, _, _, _, _, _, _, _, _, _, rfl, fun b10 => StP.all (vs := encVd (bsV (some (0, (1, exN, ⟨#[]⟩, 0), ⟨4, ⟨#[]⟩, false, []⟩))) q n c) rfl rfl ?_⟩
  refine bcase_t rfl (bcase_t rfl (bcase_t rfl ⟨_, Cell.at0 rfl, bcase_t rfl ?_⟩))
  refine (ELen_runs he2 ((hs6.trans hs7.right).skip _)).mono ?_
  rintro v J8 T8 hle8 ⟨rfl, rfl⟩
  exact ⟨_, rfl, rfl, ((hs6.trans hs7.right).right.drop.drop.drop.drop).skip _⟩
/-! ### nothing is said -/
/-! ### how many there are -/
theorem OriginM_runs {k : Nat} (hk : k < 1000) (I : IMem) (S : SH) : Runs Tryz.prog 10 #[.int .i64 (k : Int)] I S fun v _ T => v = .string (orgN (k % 32)) ∧ T = S := by
  have hk2 : k % 32 < 32 := Nat.mod_lt _ (by decide)
  refine Runs.drop (bolterlaw19_Origin_fn _ _ _ _ ?_)
  unfold bolterlaw19_Origin
  intro b10
  have mk : ∀ k, k < 32 → makeN [orgL k] ByteArray.empty = some (orgN k) := by decide +kernel
  have e1 : IntKind.wrap .u8 (IntKind.wrap .i64 ((97 : Int) + ((k : Int).tmod (32 : Int)))) = ((UInt8.ofNat (97 + k % 32)).toNat : Int) := by
    rw [Int.tmod_eq_emod_of_nonneg (by omega), wrap_i64 (by omega) (by omega), wrap_u8 (by omega) (by omega), ofNatU (by omega)]; omega
  rw [e1]
  have hb := BytesAt.list (I := I) (S := S) (g := b10) (n := 2) (l := [122, UInt8.ofNat (97 + k % 32)]) (rest := []) (e := 5) (fz := (0, 0)) rfl
  refine ⟨orgL (k % 32), hb, fun b12 => (Make_runs (ls := [orgL (k % 32)]) (strs_row [orgL (k % 32)] (by show 1 ≤ 100; decide)) (by show 1 ≤ 140737488355328; decide)).mono ?_⟩
  rintro v J T hle ⟨rfl, rfl⟩
  rw [mk _ hk2]
  exact ⟨_, _, rfl, S, ((Sub.refl S).skip _).skip _, rfl, rfl⟩
theorem many_end {os : List ByteArray} {p : Option Addr} {c : Nat} {own S T : SH} {I : IMem} (g : GL I) {k : Int} (ho : OwnR 30 1 elS (.slice p os.length c) os own) (hl : os.length ≤ 40) (hs : Sub (own ++ S) T) :
    bolterlaw20_EngineMany_b4 (fun v _ _ => v = .bool true) k p os.length c I T := by
  unfold bolterlaw20_EngineMany_b4
  refine (EOf_runs (os := os) (ks := []) (c2 := 0) ((ho.row elS_len).sub hs.left) sl_nil (by omega)).mono ?_
  rintro v J1 T1 hle1 ⟨b, l, own1, rfl, hl1, hof, he, hi, hs1⟩
  have hw : (if (32 : Int) < (os.length : Int) then (32 : Int) else (os.length : Int)) = (l.length : Int) := by
    rw [hl1]
    split <;> omega
  rw [hw]
  have hl2 : l.length ≤ 1000 := by omega
  have fin : ∀ is : Bool, (is = true ↔ 0 ≤ k ∧ k < (l.length : Int)) → bolterlaw20_EngineMany_b5 (fun v _ _ => v = .bool true) k (some ⟨b, 0, none⟩) (l.length : Int) is J1 T1 := by
    intro is his
    unfold bolterlaw20_EngineMany_b5
    refine (ELen_runs he hs1).mono ?_
    rintro v J2 T2 hle2 ⟨rfl, rfl⟩
    refine ⟨_, rfl, bcase_t (beq_self_eq_true _) ((ESizes_runs he hi hs1 hl2).mono ?_)⟩
    rintro v J3 T3 hle3 ⟨u, uc, o3, own3, rfl, h3, he3, hs3⟩
    have hs3' : Sub (own3 ++ T) T3 := hs3.right
    refine ⟨_, _, _, rfl, bcase_t (beq_self_eq_true _) ((EPol_runs he3 hs3' hl2).mono ?_)⟩
    rintro v J4 T4 hle4 ⟨u4, uc4, o4, rfl, h4, hs4⟩
    have hs4' : Sub (own3 ++ T) T4 := hs4.right
    refine ⟨_, _, _, rfl, bcase_t (beq_self_eq_true _) ?_⟩
    unfold bolterlaw20_EngineMany_b6
    by_cases hk : 0 ≤ k ∧ k < (l.length : Int)
    · obtain ⟨j, rfl⟩ := Int.eq_ofNat_of_zero_le hk.1
      have hj : j < l.length := by omega
      obtain ⟨z, hz⟩ := get_lt (xs := l) (k := j) hj
      refine (Live_runs he3 hz hl2 hs4' true).mono ?_
      rintro v J5 T5 hle5 ⟨rfl, own5, he5, hs5⟩
      rw [his.2 hk]
      refine ⟨_, rfl, bcase_t rfl ?_⟩
      have hz' : (l.set j ⟨⟨z.p.o, z.p.zn, z.p.zs, true, z.p.over⟩, z.xb, z.V, z.c⟩)[j]? = some ⟨⟨z.p.o, z.p.zn, z.p.zs, true, z.p.over⟩, z.xb, z.V, z.c⟩ := by rw [List.getElem?_set_self hj]
      refine (Set_runs (zs := []) (xp := none) (xc := 0) (((((g.le hle1).le hle2).le hle3).le hle4).le hle5) he5 (hi.set (z' := ⟨⟨z.p.o, z.p.zn, z.p.zs, true, z.p.over⟩, z.xb, z.V, z.c⟩) (hi j z hz).1 (hi j z hz).2.1 (hi j z hz).2.2) hz' (by rw [List.length_set]; exact hl2) hs5 sl_nil List.Pairwise.nil (by decide)).mono ?_
      rintro v J6 T6 hle6 ⟨rfl, _⟩
      exact ⟨_, rfl, rfl⟩
    · have hout : k < 0 ∨ (l.length : Int) ≤ k := by omega
      have hf : is = false := by
        cases is with
        | false => rfl
        | true => exact absurd (his.1 rfl) hk
      subst hf
      refine (Live_out he3 hl2 hs4' hout true).mono ?_
      rintro v J5 T5 hle5 ⟨rfl, rfl⟩
      refine ⟨_, rfl, bcase_t rfl ((Set_out he3 hl2 hs4' hout none 0 0).mono ?_)⟩
      rintro v J6 T6 hle6 ⟨rfl, rfl⟩
      exact ⟨_, rfl, rfl⟩
  refine ⟨_, rfl, bcase_dec (fun h => fin _ ?_) (fun h => fin _ ?_)⟩
  · rw [decide_eq_true_eq]; omega
  · constructor
    · intro e; cases e
    · intro e; omega
theorem engineMany_runs {n k : Int} {I : IMem} {S : SH} (g : GL I) (hn : 0 ≤ n ∧ n ≤ 255) : Runs Tryz.prog 4 #[.int .u8 n, .int .i64 k] I S fun v _ _ => v = .bool true := by
  refine bolterlaw20_EngineMany_fn _ _ _ _ _ ?_
  unfold bolterlaw20_EngineMany
  refine (awake20_runs g _).mono ?_
  rintro v J0 T0 hle0 ⟨rfl, hs0⟩
  refine ⟨_, rfl, bcase_f rfl ?_⟩
  unfold bolterlaw20_EngineMany_b1 bolterlaw20_EngineMany_b2
  have hw : IntKind.wrap .i64 (n.tmod 40) = ((n.toNat % 40 : Nat) : Int) := by
    rw [Int.tmod_eq_emod_of_nonneg hn.1, wrap_i64 (by omega) (by omega)]; omega
  have h40 : n.toNat % 40 < 40 := Nat.mod_lt _ (by decide)
  refine ⟨fun m x0 x1 p pn pc i J T => x0 = n ∧ x1 = k ∧ I.le J ∧ ∃ (j : Nat) (os : List ByteArray) (own : SH), i = (j : Int) ∧ j ≤ n.toNat % 40 ∧ m = n.toNat % 40 - j ∧ os.length = j ∧ OwnR 30 1 elS (.slice p pn pc) os own ∧ Sub (own ++ S) T,
    n.toNat % 40, ⟨rfl, rfl, hle0, 0, [], [], rfl, Nat.zero_le _, rfl, rfl, OwnR.nil, hs0⟩, ?_⟩
  rintro m x0 x1 p pn pc i J T - ⟨rfl, rfl, hle, j, os, own, rfl, hj, rfl, hos, ho, hs⟩
  unfold bolterlaw20_EngineMany_l3
  rw [hw]
  refine bcase_dec (fun hg => ?_) (fun hg => ?_)
  · refine (OriginM_runs (k := j) (by omega) _ _).mono ?_
    rintro v J1 T1 hle1 ⟨rfl, rfl⟩
    refine ⟨_, rfl, fun b22 => AppT1 hs ho (by omega) ?_⟩
    intro p' n' c' own' T2 ho' hs2
    have hs2' : Sub (own' ++ S) T2 := (hs2.re (by intro a; simp only [cnt_cons, cnt_app]; omega))
    exact ⟨_, by omega, rfl, rfl, hle.trans hle1, j + 1, _, own', by rw [wrap_i64 (by omega) (by omega)]; rfl, by omega, rfl, by rw [List.length_append, hos]; rfl, ho', hs2'⟩
  · have := ho.len
    subst this
    exact many_end (g.le hle) ho (by omega) hs
theorem EngineMany_row (W : World) (g : GL (imW W)) (n k : Int) (w0 : (Lit.int .u8 n).wf = true) {p : Prop} (w1 : p) : Runs Tryz.prog 4 #[.int .u8 n, .int .i64 k] (imW W) [] fun v _ _ => v = .bool true := engineMany_runs g (u8_wf w0)
end Go.Proofs.YtoiilcdaldnjfaaGreatDoor
/- The listed variables: the tables and the two errors of strconv; a world where they lie so. -/
namespace Go.Proofs.YtoiilcdaldnjfaaGreatDoor
open Go Go.Px Go.Lib Go.MakeChecks
set_option linter.unusedVariables false
set_option linter.unusedSimpArgs false
set_option maxRecDepth 100000

abbrev LaidL : List (String × DataW Unit) := [("math/bits.deBruijn32tab", Rows.laid_math_bits_deBruijn32tab), ("math/bits.deBruijn64tab", Rows.laid_math_bits_deBruijn64tab), ("internal/strconv.uint64pow10", Rows.laid_internal_strconv_uint64pow10), ("strconv.ErrRange", Rows.laid_strconv_ErrRange), ("strconv.ErrSyntax", Rows.laid_strconv_ErrSyntax)]
theorem ld_at {W : World} {n : String} {cs : Array Value} {g : Nat} (hg : Program.globalNamed Tryz.prog n = some g) (h : W.var? Tryz.prog n = some cs) : ∃ e fz, (imW W).at_ g = some (.cells cs e fz) := by
  simp only [World.var?, hg, Option.bind_some] at h
  split at h
  · rename_i cs' e fz he
    obtain rfl := Option.some.inj h
    exact ⟨e, fz, he⟩
  · cases h
theorem ld_err {W : World} {n : String} {d : DataW Unit} {r : List (String × DataW Unit)} {g : Nat} (h : laidMet Tryz.prog ((n, .iface "*errors.errorString" d) :: r) W)
    (hg : Program.globalNamed Tryz.prog n = some g) (ht : ((Tryz.prog).globals[g]?).map (·.type) = some 98) : ∃ u v, W.var? Tryz.prog n = some #[.iface u v] := by
  obtain ⟨ps, ⟨g0, t0, cs0, f0, p0, q0, hg0, ht0, hv0, hd0, _, e0⟩, _, hrows⟩ := h
  obtain rfl := Option.some.inj (hg.symm.trans hg0)
  obtain rfl := Option.some.inj (ht.symm.trans ht0)
  obtain ⟨l0⟩ := cs0
  obtain ⟨_, u, v, rfl, _⟩ := iface_of_trod (Tryz.underlying98) hd0
  exact ⟨u, v, hv0⟩
abbrev ld64 : List Int := [0, 1, 56, 2, 57, 49, 28, 3, 61, 58, 42, 50, 38, 29, 17, 4, 62, 47, 59, 36, 45, 43, 51, 22, 53, 39, 33, 30, 24, 18, 12, 5, 63, 55, 48, 27, 60, 41, 37, 16, 46, 35, 44, 21, 52, 32, 23, 11, 54, 26, 40, 15, 34, 20, 31, 10, 25, 14, 19, 9, 13, 8, 7, 6]
abbrev ldp : List Int := [1, 10, 100, 1000, 10000, 100000, 1000000, 10000000, 100000000, 1000000000, 10000000000, 100000000000, 1000000000000, 10000000000000, 100000000000000, 1000000000000000, 10000000000000000, 100000000000000000, 1000000000000000000, 10000000000000000000]
theorem GL_of_laid {W : World} (h : laidMet Tryz.prog LaidL W) : GL (imW W) := by
  have h1 : laidMet Tryz.prog (("math/bits.deBruijn64tab", tabData .u8 ld64) :: [("internal/strconv.uint64pow10", Rows.laid_internal_strconv_uint64pow10), ("strconv.ErrRange", Rows.laid_strconv_ErrRange), ("strconv.ErrSyntax", Rows.laid_strconv_ErrSyntax)]) W := h.tail
  have h2 : laidMet Tryz.prog (("internal/strconv.uint64pow10", tabData .u64 ldp) :: [("strconv.ErrRange", Rows.laid_strconv_ErrRange), ("strconv.ErrSyntax", Rows.laid_strconv_ErrSyntax)]) W := h1.tail
  have h3 := h2.tail
  have h4 := h3.tail
  have t1 := tabIs_of_head (P := Tryz.prog) (g := 4) (t := 265) (e := 5) (n := 64) (by kernel_rfl) (by kernel_rfl) (by kernel_rfl) (by kernel_rfl) (by kernel_rfl) (by kernel_rfl) h1
  have t2 := tabIs_of_head (P := Tryz.prog) (g := 0) (t := 253) (e := 225) (n := 20) (by kernel_rfl) (by kernel_rfl) (by kernel_rfl) (by kernel_rfl) (by kernel_rfl) (by kernel_rfl) h2
  obtain ⟨u0, v0, hv0⟩ := ld_err (g := 2) h3 (by kernel_rfl) (by kernel_rfl)
  obtain ⟨u1, v1, hv1⟩ := ld_err (g := 1) h4 (by kernel_rfl) (by kernel_rfl)
  obtain ⟨e1, f1, g1⟩ := ld_at (g := 4) (by kernel_rfl) t1
  obtain ⟨e2, f2, g2⟩ := ld_at (g := 0) (by kernel_rfl) t2
  obtain ⟨e3, f3, g3⟩ := ld_at (g := 2) (by kernel_rfl) hv0
  obtain ⟨e4, f4, g4⟩ := ld_at (g := 1) (by kernel_rfl) hv1
  exact ⟨⟨_, _, _, g2, rfl⟩, ⟨_, _, _, g1, rfl⟩, ⟨_, _, _, _, _, g4, rfl⟩, ⟨_, _, _, _, _, g3, rfl⟩⟩
/-- A world that meets the condition. -/
noncomputable def laidWorld (os : Os) : World := World.laidAll Tryz.prog os LaidL
theorem laidWorld_os (os : Os) : (laidWorld os).os = os := World.laidAll_os _ _ _
theorem laidWorld_met (os : Os) (args : Array Value) : laidMetH Tryz.prog LaidL ((laidWorld os).forCall (fun _ _ => 0) ⟨#[], args, []⟩).memory := by
  rw [laidMetH_plain _ _ _ (by kernel_rfl)]
  exact laidMet_laidAll args (by kernel_rfl) (by kernel_rfl)
theorem handle_of_laid {W : World} (h : laidMetH Tryz.prog LaidL W) : GL (imW W) := by
  rw [laidMetH_plain _ _ _ (by kernel_rfl)] at h
  exact GL_of_laid h
theorem laidWorld_shaped (os : Os) (args : Array Value) : ((laidWorld os).forCall (fun _ _ => 0) ⟨#[], args, []⟩).Shaped Tryz.prog :=
  World.shaped_of_ZipB (by kernel_rfl) (by kernel_rfl)
end Go.Proofs.YtoiilcdaldnjfaaGreatDoor
