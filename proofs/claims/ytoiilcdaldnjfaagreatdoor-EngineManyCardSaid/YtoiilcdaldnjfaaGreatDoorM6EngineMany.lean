/- index.Del, Len. -/
import Derived.Test.YtoiilcdaldnjfaaGreatDoorProg
import Derived.Test.YtoiilcdaldnjfaaGreatDoorM1EngineMany
import Derived.Test.YtoiilcdaldnjfaaGreatDoorM2EngineMany
import Derived.Test.YtoiilcdaldnjfaaGreatDoorM3EngineMany
import Derived.Test.YtoiilcdaldnjfaaGreatDoorM4EngineMany
import Derived.Test.YtoiilcdaldnjfaaGreatDoorM5EngineMany
namespace Go.Proofs.YtoiilcdaldnjfaaGreatDoor
open Go.Px
set_option linter.unusedVariables false
set_option linter.unusedSimpArgs false
set_option maxRecDepth 8000

theorem IDel_runs {xb n c : Nat} {V : Tg → Option Int} {own F S : SH} {I : IMem} (g : GL I) (h : IxS xb V n c own) (hs : Sub (own ++ F) S) (t : Tg) (hc : c ≤ 1152921504606846976) :
    Runs Tryz.prog 55 #[.pointer (some ⟨xb, 0, none⟩), vT t] I S fun w _ T => w = .bool (V t).isSome ∧ ∃ n' c' own', IxS xb (delV V t) n' c' own' ∧
      n' + sNum (!ipK t.1 && (V t).isSome) = n ∧ c' + sNum (V t).isSome = c ∧ Sub (own' ++ F) T := by
  obtain ⟨M, L, hO, hI, rfl⟩ := h
  refine index_Index_Del_fn _ _ _ _ _ _ _ _ ?_
  unfold index_Index_Del
  intro b4
  refine ⟨_, Cell.at0 rfl, _, Cell.at0 rfl, _, Cell.at0 rfl, _, Cell.at0 rfl, (Encode_runs t g _).mono ?_⟩
  rintro w J1 T1 hle1 ⟨rfl, rfl⟩
  obtain ⟨m, hm⟩ := enc_mk t
  rw [hm]
  have hs1 : Sub (own ++ (tbB b4 t :: F)) (tbB b4 t :: S) := mid3.zc hs
  refine ⟨_, _, rfl, bcase_not (bcase_of (fun he => ?_) (fun he => ?_))⟩
  case refine_2 =>
    have hen : encF t = none := by cases h : encF t with
      | none => rfl
      | some m => rw [h] at he; cases he
    have hV := hI.bad t hen
    have hdel : delV V t = V := by
      funext u
      unfold delV
      by_cases e : u = t
      · rw [if_pos e, e, hV]
      · rw [if_neg e]
    rw [hV, hdel]
    exact ⟨rfl, n, n + sumC L, own, ⟨M, L, hO, hI, rfl⟩, by simp [sNum], rfl, hs.skip _⟩
  have hen : encF t ≠ none := by intro e; rw [e] at he; cases he
  have hput : ∀ u, delV V t u = if u = t then none else V u := fun u => rfl
  obtain ⟨c0, c1, c2, c3, c4⟩ := tgX (I := J1) (hs1.right : Sub (tgB b4 t :: F) _)
  unfold index_Index_Del_b1
  refine ⟨_, c0, (Ip_runs _ _ _).mono ?_⟩
  rintro w J2 T2 hle2 ⟨rfl, rfl⟩
  refine ⟨_, rfl, ?_⟩
  obtain ⟨c0, c1, c2, c3, c4⟩ := tgX (I := J2) (hs1.right : Sub (tgB b4 t :: F) _)
  unfold index_Index_Del_b2
  refine bcase_of (fun hip => ?_) (fun hip => ?_)
  · obtain ⟨d0, d1, d2, d3, d4⟩ := tgX (I := J2) (Sub.refl (tgB b4 t :: F))
    have hmay : mayP t.2.2.1 t.2.2.2 := by
      rcases enc_shape hen with h | ⟨h, _⟩
      · exact h.2.2
      · rw [nmK_ip h] at hip; cases hip
    refine ⟨tgB b4 t :: F, (hs1.right).keep (IMem.le.refl J2), _, d0, _, d1, _, d2, _, d4, _, d2, _, d3, (trie_runs t hO hs1).mono ?_⟩
    rintro w J3 T3 hle3 ⟨L', own2, x, rfl, hx, hL', hO2, hs2⟩
    have hsh : ∀ k s, shT L' k s = shT L k s := by
      intro k s
      rcases hL' with rfl | ⟨_, hx0, rfl⟩
      · rfl
      · exact shT_snoc (by rw [hx0]) k s
    have hsum : sumC L' = sumC L := by
      rcases hL' with rfl | ⟨_, hx0, rfl⟩
      · rfl
      · exact sumC_snoc (by rw [hx0])
    have hI' := hI.look hsh
    refine ⟨_, rfl, hs2.right.keep hle3, (Key_runs hmay _ _).mono ?_⟩
    rintro w J4 T4 hle4 ⟨rfl, hs4⟩
    refine ⟨_, rfl, ?_⟩
    obtain ⟨ox, rest, hxO, hxw, hxl, hgo, hcx, hback⟩ := hO2.upd hx
    have hlen : (bitsL t.2.2.1 t.2.2.2.toNat).length ≤ 128 := by
      rw [bitsL_len]
      obtain ⟨⟨h1, h2, h3⟩, _⟩ := hmay
      omega
    generalize hb : bitsL t.2.2.1 t.2.2.2.toNat = bs at hlen
    refine (Runs_fr (R := fun w o => w = .bool (x.t.find bs).isSome ∧ Tr.TriO x.b (if (x.t.find bs).isSome then x.t.del bs else x.t) o) (hgo _ _ (hs2.trans hs4)) (fun F' => (Tr.Del_runs x.b x.t hxw (by omega) (by omega) ox hxO _ hlen _ F').mono ?_)).mono ?_
    · rintro w J T hle ⟨rfl, o, ho, rfl⟩
      exact ⟨o, ⟨rfl, ho⟩, rfl⟩
    · rintro w J5 T5 hle5 ⟨o, ⟨rfl, ho⟩, hs5⟩
      have hfind : x.t.find bs = V t := by
        rw [← hI'.get_p hen hip, hb]
        unfold shT
        rw [hx]; rfl
      have hw' : (if (x.t.find bs).isSome then x.t.del bs else x.t).wf := by
        split
        · exact Tr.Sh.del_wf _ _ hxw
        · exact hxw
      have hl' : (if (x.t.find bs).isSome then x.t.del bs else x.t).len ≤ 128 := by
        split
        · exact Nat.le_trans (Tr.Sh.del_len _ _) hxl
        · exact hxl
      obtain ⟨L2, own3, hO3, hb3, hsh3, hsum3⟩ := hback _ _ ho hw' hl'
      refine ⟨_, rfl, ?_⟩
      unfold index_Index_Del_b3
      refine ⟨by rw [hfind], n, n + sumC L2, own3, ⟨M, L2, hO3, hI'.set_p (o := none) hen hip hput ?_, rfl⟩, ?_, ?_, (hb3 _ _ hs5).re (by intro a; simp only [cnt_cons, cnt_app]; omega)⟩
      · intro k s l
        rw [hsh3, hb]
        by_cases e : k = t.1 ∧ s = (t.2.2.1.size : Int)
        · rw [if_pos e]
          have hxx : shT L' k s = x.t := by rw [e.1, e.2]; unfold shT; rw [hx]; rfl
          rw [hxx]
          by_cases hsm : (x.t.find bs).isSome = true
          · rw [if_pos hsm, Tr.Sh.del_find _ _ hxw (fun e => by rw [e] at hsm; cases hsm)]
            by_cases e2 : l = bs
            · rw [if_pos e2, if_pos ⟨e, e2⟩]
            · rw [if_neg e2, if_neg (fun h => e2 h.2)]
          · rw [if_neg hsm]
            by_cases e2 : l = bs
            · rw [if_pos ⟨e, e2⟩, e2]
              cases h : x.t.find bs with
              | none => rfl
              | some u => rw [h] at hsm; exact absurd rfl hsm
            · rw [if_neg (fun h => e2 h.2)]
        · rw [if_neg e, if_neg (fun h => e h.1)]
      · rw [hip]; simp [sNum]
      · rw [hfind, hsum] at hsum3
        cases hV : V t with
        | none => rw [hV] at hsum3; simp [sNum] at hsum3 ⊢; omega
        | some u =>
          rw [hV] at hsum3
          have := Tr.Sh.del_cnt x.t bs (by rw [hfind, hV]; simp)
          simp [sNum] at hsum3 ⊢; omega
  · have hnm : nmK t.1 := by
      rcases enc_shape hen with h | ⟨h, _⟩
      · rw [h.1] at hip; cases hip
      · exact h
    have hnz := enc_nsz hen
    unfold index_Index_Del_b4
    refine ⟨_, c0, _, c1, (Word_runs hnm _ (by omega) _ _).mono ?_⟩
    rintro w J3 T3 hle3 ⟨rfl, rfl⟩
    refine ⟨_, rfl, ?_⟩
    obtain ⟨xm, tb, o1, rest, hT, hTI, hlv, hgo, hback⟩ := hO.tab
    have hws : (wordB t.1 t.2.1).size ≤ 9223372036854775807 := by
      unfold wordB
      rw [word_enc hnm, ByteArray.size_append]
      show 1 + t.2.1.size ≤ _
      omega
    refine (Runs_fr (R := fun w o => w = .bool (M (wordB t.1 t.2.1)).isSome ∧ ∃ t', Tb.TabO xm xb t' o ∧ Tb.TI 1073741824 t' (M.del (wordB t.1 t.2.1)) ∧ t'.live = (if (M (wordB t.1 t.2.1)).isSome then tb.live - 1 else tb.live)) (hgo _ _ hs1) (fun F' => (Tb.Del_TI hT hTI (Nat.le_refl _) (wordB t.1 t.2.1) hws _ F').mono ?_)).mono ?_
    · rintro w J T hle ⟨rfl, t', o, ho, hti, _, hl, rfl⟩
      exact ⟨o, ⟨rfl, t', ho, hti, hl⟩, rfl⟩
    · rintro w J5 T5 hle5 ⟨o, ⟨rfl, t', ho, hti, hl⟩, hs5⟩
      have hfind : M (wordB t.1 t.2.1) = V t := hI.get_n hen hip
      obtain ⟨own3, hO3, hb3⟩ := hback _ _ _ ho hti
      have hlive : (V t).isSome = true → 1 ≤ tb.live := by
        intro hv
        rcases hTI with ⟨_, _, _, h0⟩ | ⟨_, _, hM, h1, _⟩
        · rw [h0] at hfind
          rw [← hfind] at hv; cases hv
        · obtain ⟨v, hv⟩ := Option.isSome_iff_exists.1 hv
          obtain ⟨i, s, hi, hsl, _, _⟩ := (hM _ _).1 (hfind.trans hv)
          rw [← h1]
          exact List.countP_pos_iff.2 ⟨s, List.mem_of_getElem? hi, hsl⟩
      refine ⟨_, rfl, ?_⟩
      unfold index_Index_Del_b5
      rw [hfind] at hl ⊢
      refine ⟨rfl, t'.live, t'.live + sumC L, own3, ⟨_, L, hO3, hI.set_n (o := none) hen hip hput (fun w => rfl), rfl⟩, ?_, ?_, (hb3 _ _ hs5).re (by intro a; simp only [cnt_cons, cnt_app]; omega)⟩
      · rw [hl, hip]
        cases hV : V t with
        | none => simp [sNum, hlv]
        | some u => have := hlive (by rw [hV]; rfl); simp [sNum]; omega
      · rw [hl]
        cases hV : V t with
        | none => simp [sNum, hlv]
        | some u => have := hlive (by rw [hV]; rfl); simp [sNum]; omega
/-! ### how many there are -/
def remC : Nat → List Te → Array Nat → Nat
  | _, [], _ => 0
  | k, x :: L, s => (if s.contains k = true then 0 else x.t.cnt) + remC (k + 1) L s
theorem remC_all : ∀ (L : List Te) (k : Nat) (s : Array Nat), (∀ i, i < L.length → s.contains (k + i) = true) → remC k L s = 0
  | [], k, s, h => rfl
  | x :: L, k, s, h => by
    unfold remC
    rw [if_pos (show s.contains k = true from h 0 (by simp)), remC_all L (k + 1) s (fun i hi => by have := h (i + 1) (by simp; omega); rwa [show k + (i + 1) = k + 1 + i by omega] at this)]
theorem remC_nil : ∀ (L : List Te) (k : Nat), remC k L #[] = sumC L
  | [], k => rfl
  | x :: L, k => by
    unfold remC
    rw [if_neg (by simp), remC_nil L (k + 1)]
    unfold sumC; simp
theorem has_push (s : Array Nat) (j i : Nat) : (s.push j).contains i = (s.contains i || i == j) := by rw [Bool.eq_iff_iff]; simp [or_comm]
theorem remC_far : ∀ (L : List Te) (k : Nat) (s : Array Nat) (j : Nat), j < k → remC k L (s.push j) = remC k L s
  | [], k, s, j, h => rfl
  | x :: L, k, s, j, h => by
    unfold remC
    rw [remC_far L (k + 1) s j (by omega), has_push, show (k == j) = false by rw [beq_eq_false_iff_ne]; omega, Bool.or_false]
theorem remC_push : ∀ (L : List Te) (k i : Nat) (s : Array Nat) (x : Te), L[i]? = some x → s.contains (k + i) = false → remC k L s = x.t.cnt + remC k L (s.push (k + i))
  | [], k, i, s, x, h, _ => by simp at h
  | y :: L, k, 0, s, x, h, hn => by
    have h : y = x := Option.some.inj h
    subst h
    unfold remC
    rw [show k + 0 = k from rfl] at hn ⊢
    rw [hn, has_push, hn, beq_self_eq_true, remC_far L (k + 1) s k (by omega)]
    simp
  | y :: L, k, i + 1, s, x, h, hn => by
    unfold remC
    have h' : L[i]? = some x := h
    rw [show k + (i + 1) = k + 1 + i by omega] at hn ⊢
    rw [remC_push L (k + 1) i s x h' hn, has_push, show (k == k + 1 + i) = false by rw [beq_eq_false_iff_ne]; omega, Bool.or_false]
    omega
theorem es_mem {L : List Te} {e : MapEntry} (h : e ∈ esOf L) : ∃ i x, L[i]? = some x ∧ e = enTe i x := by
  unfold esOf at h
  rw [List.mem_toArray] at h
  obtain ⟨i, hi, he⟩ := List.mem_iff_getElem.1 h
  rw [List.length_mapIdx] at hi
  rw [List.getElem_mapIdx] at he
  exact ⟨i, L[i], List.getElem?_eq_getElem hi, he.symm⟩
theorem es_find {L : List Te} {i : Nat} {x : Te} (h : L[i]? = some x) : (esOf L).find? (·.born == i) = some (enTe i x) := by
  have key : ∀ (L : List Te) (k i : Nat) (x : Te), L[i]? = some x → (L.mapIdx fun j y => enTe (k + j) y).find? (·.born == k + i) = some (enTe (k + i) x) := by
    intro L
    induction L with
    | nil => intro k i x h; simp at h
    | cons y L ih =>
      intro k i x h
      rw [List.mapIdx_cons, List.find?_cons]
      cases i with
      | zero =>
        have h : y = x := Option.some.inj h
        subst h
        simp
      | succ i =>
        have h : L[i]? = some x := h
        have := ih (k + 1) i x h
        rw [show ((enTe (k + 0) y).born == k + (i + 1)) = false by simp [enTe]]
        rw [show (fun j (y : Te) => enTe (k + (j + 1)) y) = fun j y => enTe (k + 1 + j) y from funext fun j => funext fun y => by rw [show k + (j + 1) = k + 1 + j by omega], show k + (i + 1) = k + 1 + i by omega]
        exact this
  have := key L 0 i x h
  simp only [Nat.zero_add] at this
  unfold esOf
  rw [List.find?_toArray]
  exact this
theorem ILen_runs {xb n c : Nat} {V : Tg → Option Int} {own F S : SH} {I : IMem} (h : IxS xb V n c own) (hs : Sub (own ++ F) S) (hc : c ≤ 1152921504606846976) :
    Runs Tryz.prog 40 #[.pointer (some ⟨xb, 0, none⟩)] I S fun w _ T => w = .int .i64 (c : Int) ∧ Sub (own ++ F) T := by
  obtain ⟨M, L, hO, hI, rfl⟩ := h
  refine index_Index_Len_fn _ _ _ _ ?_
  unfold index_Index_Len
  have hO' := hO
  obtain ⟨xm, tb, o1, o2, hT, hTI, hn, hnd, hL, rfl⟩ := hO'
  have hs' : Sub (o1 ++ ((xm, .map (esOf L) L.length) :: (o2 ++ F))) S := hs.re (by intro a; simp only [cnt_cons, cnt_app]; omega)
  refine (Runs_fr (R := fun w o => w = .int .i64 (n : Int) ∧ o = o1) hs' (fun F' => (Tb.Len_runs xb tb o1 hT _ F').mono ?_)).mono ?_
  · rintro w J T hle ⟨rfl, rfl⟩
    exact ⟨o1, ⟨by rw [hn], rfl⟩, rfl⟩
  rintro w J1 T1 hle1 ⟨o, ⟨rfl, ho⟩, hs1⟩
  rw [ho] at hs1
  refine ⟨_, rfl, ?_⟩
  unfold index_Index_Len_b1
  refine ⟨_, tab_cell hT hs1, ?_⟩
  refine ⟨esOf L, L.length, MpC.of_sub hs1.right, fun b14 => ?_⟩
  unfold index_Index_Len_b2
  refine ⟨fun m x3 x14 J T => x14 = ⟨b14, 0, none⟩ ∧ J1.le J ∧ ∃ seen : Array Nat, m = unsn (esOf L) seen ∧ x3 = ((n + (sumC L - remC 0 L seen) : Nat) : Int) ∧ remC 0 L seen ≤ sumC L ∧ Sub ((b14, .mapIter (some xm) L.length seen L.length) :: (o1 ++ ((xm, .map (esOf L) L.length) :: (o2 ++ F)))) T,
    unsn (esOf L) #[], ⟨rfl, IMem.le.refl J1, #[], rfl, by rw [remC_nil, Nat.sub_self]; rfl, by rw [remC_nil]; exact Nat.le_refl _, hs1.cons _⟩, ?_⟩
  rintro m x3 x14 J T - ⟨rfl, hle, seen, rfl, rfl, hrem, hsT⟩
  unfold index_Index_Len_l3
  have hm : MpC J T xm (esOf L) L.length := MpC.of_sub hsT.drop.right
  obtain ⟨i0, hi0, hset⟩ := hsT.put (b14, Obj.mapIter (some xm) L.length seen L.length)
  refine ⟨i0, xm, L.length, seen, L.length, esOf L, L.length, rfl, hi0, hm, Nat.le_refl _, fun e he => ?_, fun hall => ?_, fun e he hun => ?_⟩
  · obtain ⟨i, x, hx, rfl⟩ := es_mem he
    exact lt_get hx
  · unfold index_Index_Len_b4
    have : remC 0 L seen = 0 := remC_all L 0 seen (fun i hi => by
      rw [Nat.zero_add]
      have hx : L[i]? = some L[i] := List.getElem?_eq_getElem hi
      refine hall (enTe i L[i]) ?_
      unfold esOf
      rw [List.mem_toArray, List.mem_iff_getElem]
      exact ⟨i, by rw [List.length_mapIdx]; exact hi, by rw [List.getElem_mapIdx]⟩)
    rw [this, Nat.sub_zero]
    exact ⟨rfl, hsT.drop.re (by intro a; simp only [cnt_cons, cnt_app]; omega)⟩
  · obtain ⟨i, x, hx, rfl⟩ := es_mem he
    have hun : seen.contains i = false := hun
    have hlt := unsn_lt he hun
    obtain ⟨i1, hi1, hset1⟩ := hsT.put (b14, Obj.mapIter (some xm) L.length (seen.push i) L.length)
    have hii : i1 = i1 := rfl
    have hset2 : Sub ((b14, Obj.mapIter (some xm) L.length (seen.push i) L.length) :: (o1 ++ ((xm, .map (esOf L) L.length) :: (o2 ++ F)))) (T.set i0 (b14, Obj.mapIter (some xm) L.length (seen.push i) L.length)) := by
      obtain ⟨G, hG⟩ := hset
      have hp : T.Perm ((b14, Obj.mapIter (some xm) L.length seen L.length) :: ((o1 ++ ((xm, .map (esOf L) L.length) :: (o2 ++ F))) ++ G)) := by
        have e : T.set i0 (b14, Obj.mapIter (some xm) L.length seen L.length) = T := by
          apply List.ext_getElem?
          intro j
          rw [List.getElem?_set]
          split
          · rename_i e; subst e
            split
            · exact hi0.symm
            · rename_i h; rw [List.getElem?_eq_none (by omega)]
          · rfl
        rw [e] at hG
        exact hG
      have key : ∀ (A : SH) (i : Nat) (x y : Nat × Obj), A[i]? = some x → (y :: A).Perm (x :: A.set i y) := by
        intro A
        induction A with
        | nil => intro i x y h; simp at h
        | cons z A ih =>
          intro i x y h
          cases i with
          | zero => simp at h; subst h; exact List.Perm.swap ..
          | succ i =>
            simp at h
            have := ih i x y h
            exact (List.Perm.swap z y A).trans ((this.cons z).trans (List.Perm.swap x z _))
      refine ⟨G, ?_⟩
      have k1 := key T i0 _ (b14, Obj.mapIter (some xm) L.length (seen.push i) L.length) hi0
      exact List.Perm.cons_inv (k1.symm.trans ((hp.cons _).trans (List.Perm.swap ..)))
    unfold index_Index_Len_b5
    have hm2 : MpC J _ xm (esOf L) L.length := MpC.of_sub hset2.drop.right
    have hmem : (b14, Obj.mapIter (some xm) L.length (seen.push i) L.length) ∈ T.set i0 (b14, Obj.mapIter (some xm) L.length (seen.push i) L.length) := by
      obtain ⟨G, hG⟩ := hset2
      exact hG.mem_iff.2 (by simp)
    refine ⟨xm, L.length, seen.push i, i, esOf L, L.length, enTe i x, rfl, hmem, by simp, hm2, es_find hx, ?_⟩
    unfold index_Index_Len_b6
    -- the trie's own
    have hlook : lookT L x.k x.s = some x := by
      unfold lookT
      obtain ⟨L1, L2, hLL, hl1⟩ : ∃ L1 L2, L = L1 ++ x :: L2 ∧ L1.length = i := ⟨L.take i, L.drop (i + 1), by
        have hil := lt_get hx
        have e : L[i] = x := by rw [List.getElem?_eq_getElem hil] at hx; exact Option.some.inj hx
        rw [← e, List.getElem_cons_drop, List.take_append_drop], by rw [List.length_take]; have := lt_get hx; omega⟩
      rw [hLL, List.find?_append]
      have hno : L1.find? (fun z => z.k == x.k && z.s == x.s) = none := by
        rw [List.find?_eq_none]
        intro z hz hzz
        rw [Bool.and_eq_true, beq_iff_eq, beq_iff_eq] at hzz
        rw [hLL, List.map_append, List.nodup_append] at hnd
        exact hnd.2.2 (z.k, z.s) (List.mem_map.2 ⟨z, hz, rfl⟩) (x.k, x.s) (by simp) (by rw [hzz.1, hzz.2])
      rw [hno]
      simp
    obtain ⟨L1, L2, oA, ox, oB, hLL, _, _, _, hA, hxO, hxw, hxl, hB, rfl⟩ := hL.split hlook
    refine (Runs_fr (R := fun w o => w = .int .i64 (x.t.cnt : Int) ∧ o = ox) (F := (b14, Obj.mapIter (some xm) L.length (seen.push i) L.length) :: (o1 ++ ((xm, .map (esOf L) L.length) :: ((oA ++ oB) ++ F)))) (hset2.re (by intro a; simp only [cnt_cons, cnt_app]; omega)) (fun F' => (Tr.Len_runs x.b x.t ox hxO _ F').mono ?_)).mono ?_
    · rintro w J T hle ⟨rfl, rfl⟩
      exact ⟨ox, ⟨rfl, rfl⟩, rfl⟩
    rintro w J3 T3 hle3 ⟨o, ⟨rfl, ho⟩, hs3⟩
    rw [ho] at hs3
    have hp := remC_push L 0 i seen x hx (by rw [Nat.zero_add]; exact hun)
    rw [Nat.zero_add] at hp
    refine ⟨_, rfl, _, hlt, rfl, hle.trans hle3, seen.push i, rfl, ?_, by omega, hs3.re (by intro a; simp only [cnt_cons, cnt_app]; omega)⟩
    rw [wrap_i64 (by omega) (by omega)]
    omega
end Go.Proofs.YtoiilcdaldnjfaaGreatDoor
/- index.Name, index.Addr; the law's examples. -/
namespace Go.Proofs.YtoiilcdaldnjfaaGreatDoor
open Go.Px
set_option linter.unusedVariables false
set_option linter.unusedSimpArgs false
set_option maxRecDepth 8000

abbrev tgN (k : Int) (n : ByteArray) : Tg := (k, n, ⟨#[]⟩, 0)
theorem IxI.word {V : Tg → Option Int} {M : Tb.KV} {L : List Te} (h : IxI V M L) {k : Int} (hk : nmK k) (n : ByteArray) : M (wordB k n) = V (tgN k n) := by
  by_cases he : encF (tgN k n) = none
  · rw [h.bad _ he]
    cases hM : M (wordB k n) with
    | none => rfl
    | some v =>
      obtain ⟨t, ht, e, hv⟩ := (h.nam _ _).1 hM
      have hen := h.enc hv
      rcases enc_shape hen with h1 | ⟨h1, h2, h3⟩
      · rw [h1.1] at ht; cases ht
      · obtain ⟨e1, e2⟩ := word_inj h1 hk e
        have : t = tgN k n := Prod.ext e1 (Prod.ext e2 (Prod.ext h2 h3))
        rw [this] at hen
        exact absurd he hen
  · exact h.get_n (t := tgN k n) he (nmK_ip hk)
def upV (V : Tg → Option Int) (wild : Int) : Nat → ByteArray × Bool → Option (Int × Tg)
  | 0, _ => none
  | f + 1, p => if p.2 = true then (match V (tgN wild p.1) with | some v => some (v, tgN wild p.1) | none => upV V wild f (parN p.1)) else none
def nameV (V : Tg → Option Int) (exact wild : Int) (n : ByteArray) : Option (Int × Tg) := match V (tgN exact n) with
  | some v => some (v, tgN exact n)
  | none => upV V wild (n.size + 1) (parN n)
abbrev resN (r : Option (Int × Tg)) : Value := .tuple #[.int .i64 (r.getD (0, t0)).1, vT (r.getD (0, t0)).2, .bool r.isSome]
theorem tget {xb n : Nat} {M : Tb.KV} {L : List Te} {own F S : SH} {I : IMem} (hO : IxO xb M n L own) (hs : Sub (own ++ F) S) (w : ByteArray) (hw : w.size ≤ 9223372036854775807) :
    Runs Tryz.prog 99 #[.pointer (some ⟨xb, 0, none⟩), .string w] I S fun v _ T => v = .tuple #[.int .i64 ((M w).getD 0), .bool (M w).isSome] ∧ Sub (own ++ F) T := by
  obtain ⟨xm, tb, o1, rest, hT, hTI, hlv, hgo, hback⟩ := hO.tab
  obtain ⟨G, hG⟩ := hs
  have hs2 : Sub (own ++ (F ++ G)) S := ⟨[], by rw [List.append_nil, ← List.append_assoc]; exact hG⟩
  obtain ⟨xm, tb, o1, o2, hT, hTI, hn, hnd, hL, rfl⟩ := hO
  have hs' : Sub (o1 ++ (((xm, .map (esOf L) L.length) :: o2) ++ F)) S := hs2.re (by intro a; simp only [cnt_cons, cnt_app]; omega)
  refine (Runs_fr (R := fun v o => v = .tuple #[.int .i64 ((M w).getD 0), .bool (M w).isSome] ∧ o = o1) hs' (fun F' => (Tb.Get_TI hT hTI (Nat.le_refl _) w hw _ F').mono ?_)).mono ?_
  · rintro v J T hle ⟨rfl, rfl⟩
    exact ⟨o1, ⟨rfl, rfl⟩, rfl⟩
  · rintro v J T hle ⟨o, ⟨rfl, ho⟩, hs3⟩
    rw [ho] at hs3
    exact ⟨rfl, hs3.re (by intro a; simp only [cnt_cons, cnt_app]; omega)⟩
theorem word_sz {k : Int} (h : nmK k) {n : ByteArray} (hn : n.size ≤ 1000000) : (wordB k n).size ≤ 9223372036854775807 := by
  unfold wordB
  rw [word_enc h, ByteArray.size_append]
  show 1 + n.size ≤ _
  omega
theorem name_hit {xb n c : Nat} {V : Tg → Option Int} {own F T : SH} {b9 : Nat} {x t : Tg} {v : Int} {J : IMem} (hs : Sub (own ++ (tgB b9 x :: F)) T) {R : RT} (hR : ∀ T', Sub (own ++ F) T' → R (.tuple #[.int .i64 v, vT t, .bool true]) J T') :
    StP T ⟨b9, 0, none⟩ [.int .i64 t.1, .string t.2.1, .string t.2.2.1, .int .i64 t.2.2.2] fun S1 => ∃ u0, Cell J S1 ⟨b9, 0, none⟩ (.int .i64 u0) ∧ ∃ u1, Cell J S1 ((⟨b9, 0, none⟩ : Addr).add 1) (.string u1) ∧ ∃ u2, Cell J S1 ((⟨b9, 0, none⟩ : Addr).add 2) (.string u2) ∧ ∃ u3, Cell J S1 ((⟨b9, 0, none⟩ : Addr).add 3) (.int .i64 u3) ∧ R (.tuple #[.int .i64 v, .agg #[.int .i64 u0, .string u1, .string u2, .int .i64 u3], .bool true]) J S1 := by
  refine put_tg (x := x) (t := t) (F := own ++ F) (hs.re (by intro a; simp only [cnt_cons, cnt_app]; omega)) fun T' hT' => ?_
  obtain ⟨c0, c1, c2, _, c3⟩ := tgX (I := J) hT'
  exact ⟨_, c0, _, c1, _, c2, _, c3, hR T' hT'.drop⟩
theorem IName_runs {xb n c : Nat} {V : Tg → Option Int} {own F S : SH} {I : IMem} (h : IxS xb V n c own) (hs : Sub (own ++ F) S) {exact_ wild : Int} (he : nmK exact_) (hw : nmK wild) (nn : ByteArray) (hn : nn.size ≤ 1000000) :
    Runs Tryz.prog 62 #[.pointer (some ⟨xb, 0, none⟩), .int .i64 exact_, .int .i64 wild, .string nn] I S fun v _ T => v = resN (nameV V exact_ wild nn) ∧ Sub (own ++ F) T := by
  obtain ⟨M, L, hO, hI, rfl⟩ := h
  refine index_Index_Name_fn _ _ _ _ _ _ _ ?_
  unfold index_Index_Name index_Index_Name_b1
  intro b9
  have hs1 : Sub (own ++ (tgB b9 t0 :: F)) ((b9, .cells #[.int .i64 0, .string ⟨#[]⟩, .string ⟨#[]⟩, .int .i64 0] 44 (0, 0)) :: S) := mid3.zc hs
  refine (Word_runs he nn hn _ _).mono ?_
  rintro v J1 T1 hle1 ⟨rfl, rfl⟩
  refine ⟨_, rfl, (tget hO hs1 _ (word_sz he hn)).mono ?_⟩
  rintro v J2 T2 hle2 ⟨rfl, hs2⟩
  refine ⟨_, _, rfl, ?_⟩
  unfold index_Index_Name_b2
  have hM := hI.word he nn
  rw [hM]
  cases hV : V (tgN exact_ nn) with
  | some v =>
    refine bcase_t rfl (name_hit (t := tgN exact_ nn) (n := n) (c := 0) (xb := xb) (V := V) (F := F) (own := own) (x := t0) (v := v) (R := fun v _ T => v = resN (nameV V exact_ wild nn) ∧ Sub (own ++ F) T) hs2 (fun T' hT' => ⟨?_, hT'⟩))
    rw [nameV, hV]; rfl
  | none =>
    have hnv : nameV V exact_ wild nn = upV V wild (nn.size + 1) (parN nn) := by rw [nameV, hV]
    rw [hnv]
    refine bcase_f rfl ?_
    unfold index_Index_Name_b3
    refine (Parent_runs nn _ _).mono ?_
    rintro v J3 T3 hle3 ⟨rfl, rfl⟩
    refine ⟨_, _, rfl, ?_⟩
    unfold index_Index_Name_b4
    refine ⟨fun m x0 x2 x9 up ok J T => x0 = some ⟨xb, 0, none⟩ ∧ x2 = wild ∧ x9 = ⟨b9, 0, none⟩ ∧ (ok = true → up.size < m) ∧ m ≤ 1000001 ∧ upV V wild m (up, ok) = upV V wild (nn.size + 1) (parN nn) ∧ Sub (own ++ (tgB b9 t0 :: F)) T,
      nn.size + 1, ⟨rfl, rfl, rfl, fun h => by have := parN_size h; omega, by omega, rfl, hs2⟩, ?_⟩
    rintro m x0 x2 x9 up ok J T - ⟨rfl, rfl, rfl, hup, hm, hres, hsT⟩
    rw [← hres]
    unfold index_Index_Name_l5
    refine bcase_of (fun hok => ?_) (fun hok => ?_)
    · subst hok
      have hlt := hup rfl
      obtain ⟨f, rfl⟩ : ∃ f, m = f + 1 := ⟨m - 1, by omega⟩
      have hun : upV V x2 (f + 1) (up, true) = match V (tgN x2 up) with | some v => some (v, tgN x2 up) | none => upV V x2 f (parN up) := by
        rw [upV]
        exact if_pos rfl
      unfold index_Index_Name_b6
      refine (Word_runs hw up (by omega) _ _).mono ?_
      rintro v J4 T4 hle4 ⟨rfl, rfl⟩
      refine ⟨_, rfl, (tget hO hsT _ (word_sz hw (by omega))).mono ?_⟩
      rintro v J5 T5 hle5 ⟨rfl, hs5⟩
      refine ⟨_, _, rfl, ?_⟩
      unfold index_Index_Name_b7
      rw [hI.word hw up]
      cases hV2 : V (tgN x2 up) with
      | some v =>
        refine bcase_t rfl (name_hit (t := tgN x2 up) (n := n) (c := 0) (xb := xb) (V := V) (F := F) (own := own) (x := t0) (v := v) (R := fun v _ T => v = resN (upV V x2 (f + 1) (up, true)) ∧ Sub (own ++ F) T) hs5 (fun T' hT' => ⟨?_, hT'⟩))
        rw [hun, hV2]; rfl
      | none =>
        refine bcase_f rfl ?_
        unfold index_Index_Name_b8
        refine (Parent_runs up _ _).mono ?_
        rintro v J6 T6 hle6 ⟨rfl, rfl⟩
        refine ⟨_, _, rfl, f, by omega, rfl, rfl, rfl, fun h => by have := parN_size h; omega, by omega, ?_, hs5⟩
        rw [hun, hV2]
    · subst hok
      unfold index_Index_Name_b9
      have hun : upV V x2 m (up, false) = none := by
        cases m with
        | zero => rfl
        | succ f => rfl
      rw [hun]
      refine put_tg (x := t0) (t := t0) (F := own ++ F) (hsT.re (by intro a; simp only [cnt_cons, cnt_app]; omega)) fun T' hT' => ?_
      obtain ⟨c0, c1, c2, _, c3⟩ := tgX (I := J) hT'
      exact ⟨_, c0, _, c1, _, c2, _, c3, rfl, hT'.drop⟩
/-! ### the law's examples -/
theorem V_put {V : Tg → Option Int} {t : Tg} {v : Int} (h : encF t ≠ none) (u : Tg) : putV V t v u = if u = t then some v else V u := by
  unfold putV
  rw [if_pos (by cases he : encF t with | none => exact absurd he h | some m => rfl)]
end Go.Proofs.YtoiilcdaldnjfaaGreatDoor
/- The law's examples. -/
namespace Go.Proofs.YtoiilcdaldnjfaaGreatDoor
open Go.Px
set_option linter.unusedVariables false
set_option linter.unusedSimpArgs false
set_option maxRecDepth 8000

end Go.Proofs.YtoiilcdaldnjfaaGreatDoor
set_option linter.unusedVariables false
set_option maxRecDepth 8000
set_option maxHeartbeats 2000000
namespace Go.Proofs.YtoiilcdaldnjfaaGreatDoor
open Go.Px
abbrev engine_Of_t3 := OA → Nat → Nat → OA → OA → Nat → Nat → Int → Int → PR
def engine_Of_b5 (R : RT) (x5 : OA) (I : IMem) (S : SH) : Prop :=
  R (.pointer x5) I S
def engine_Of_b8 (g3 : engine_Of_t3) (R : RT) (x1 : OA) (x1n x1c : Nat) (x5 x11 : OA) (x11n x11c : Nat) (x12 x13 : Int) (I : IMem) (S : SH) : Prop :=
  g3 x1 x1n x1c x5 x11 x11n x11c x12 (IntKind.wrap .i64 (x13 + (1 : Int))) I S
def engine_Of_b7 (g3 : engine_Of_t3) (R : RT) (x1 : OA) (x1n x1c : Nat) (x5 x11 : OA) (x11n x11c : Nat) (x12 x13 : Int) (I : IMem) (S : SH) : Prop :=
  ptrP x5 fun u0 =>
  ∃ u1 u1n u1c, Cell I S (u0.add 1) (.slice u1 u1n u1c) ∧
  Runs Tryz.prog 26 #[] I S fun v I1 S1 => ∃ u2, v = .pointer u2 ∧
  Keep I S I1 S1 ∧
  ∀ b47 : Nat,
  Keep I S I1 ((b47, .cells #[.pointer u2] 88 (0, 0)) :: S1) ∧
  AppG 88 1 8 [.pointer none] (some (.slice 88)) I1 ((b47, .cells #[.pointer u2] 88 (0, 0)) :: S1) (.slice u1 u1n u1c) (.slice (some ⟨b47, 0, none⟩) 1 1) fun u3 u3n u3c S1' =>
  ptrP x5 fun u4 =>
  StP S1' (u4.add 1) [.slice u3 u3n u3c] fun S1'' =>
  engine_Of_b8 g3 R x1 x1n x1c x5 x11 x11n x11c x12 x13 I1 S1''
def engine_Of_b6 (g3 : engine_Of_t3) (R : RT) (x1 : OA) (x1n x1c : Nat) (x5 : OA) (x8 : Addr) (x11 : OA) (x11n x11c : Nat) (x12 x13 : Int) (I : IMem) (S : SH) : Prop :=
  ptrP x5 fun u0 =>
  ∃ u1 u1n u1c, Cell I S u0 (.slice u1 u1n u1c) ∧
  ∃ u2, Cell I S x8 (.string u2) ∧
  ∃ u3 u3n u3c, Cell I S (x8.add 1) (.slice u3 u3n u3c) ∧
  ∃ u4, Cell I S (x8.add 2) (.bool u4) ∧
  ∃ u5, Cell I S (x8.add 3) (.int .i64 u5) ∧
  ∀ b37 : Nat,
  Keep I S I ((b37, .cells #[.string u2, .slice u3 u3n u3c, .bool u4, .int .i64 u5] 65 (0, 0)) :: S) ∧
  AppG 65 4 56 [.string ⟨#[]⟩, .slice none 0 0, .bool false, .int .i64 0] (some (.slice 65)) I ((b37, .cells #[.string u2, .slice u3 u3n u3c, .bool u4, .int .i64 u5] 65 (0, 0)) :: S) (.slice u1 u1n u1c) (.slice (some ⟨b37, 0, none⟩) 1 1) fun u6 u6n u6c S1 =>
  ptrP x5 fun u7 =>
  StP S1 u7 [.slice u6 u6n u6c] fun S1' =>
  engine_Of_b7 g3 R x1 x1n x1c x5 x11 x11n x11c x12 x13 I S1'
def engine_Of_b4 (g3 : engine_Of_t3) (R : RT) (x1 : OA) (x1n x1c : Nat) (x5 x11 : OA) (x11n x11c : Nat) (x12 x13 : Int) (I : IMem) (S : SH) : Prop :=
  ptrP x11 fun u0 => (0 : Int) ≤ x13 ∧ x13 < (x11n : Int) ∧
  ∃ u1, Cell I S (u0.add (x13.toNat * 1)) (.string u1) ∧
  bcase (x13 == (32 : Int))
    (engine_Of_b5 R x5 I S)
    (∀ b8 : Nat,
    StP ((b8, .cells #[.string ⟨#[]⟩, .slice none 0 0, .bool false, .int .i64 0] 65 (0, 0)) :: S) ⟨b8, 0, none⟩ [.string u1, .slice none 0 0, .bool false, .int .i64 0] fun S1 =>
    bcase (decide (x13 < (x1n : Int)))
      (ptrP x1 fun u2 => (0 : Int) ≤ x13 ∧ x13 < (x1n : Int) ∧
      ∃ u3, Cell I S1 (u2.add (x13.toNat * 1)) (.int .i64 u3) ∧
      StP S1 ⟨b8, 3, none⟩ [.int .i64 u3] fun S1' =>
      engine_Of_b6 g3 R x1 x1n x1c x5 ⟨b8, 0, none⟩ x11 x11n x11c x12 x13 I S1')
      (engine_Of_b6 g3 R x1 x1n x1c x5 ⟨b8, 0, none⟩ x11 x11n x11c x12 x13 I S1))
def engine_Of_l3 (g3 : engine_Of_t3) (R : RT) (x1 : OA) (x1n x1c : Nat) (x5 x11 : OA) (x11n x11c : Nat) (x12 x13 : Int) (I : IMem) (S : SH) : Prop :=
  bcase (decide (x13 < x12))
    (engine_Of_b4 g3 R x1 x1n x1c x5 x11 x11n x11c x12 x13 I S)
    (engine_Of_b5 R x5 I S)
def engine_Of_b2 (R : RT) (x1 : OA) (x1n x1c : Nat) (x5 x11 : OA) (x11n x11c : Nat) (x12 x13 : Int) (I : IMem) (S : SH) : Prop :=
  ∃ (Inv : Nat → engine_Of_t3) (m : Nat), Inv m x1 x1n x1c x5 x11 x11n x11c x12 x13 I S ∧
    ∀ (m : Nat) (x1 : OA) (x1n x1c : Nat) (x5 x11 : OA) (x11n x11c : Nat) (x12 x13 : Int) (J : IMem) (T : SH), I.le J → Inv m x1 x1n x1c x5 x11 x11n x11c x12 x13 J T →
      engine_Of_l3 (fun x1 x1n x1c x5 x11 x11n x11c x12 x13 I S => ∃ m', m' < m ∧ Inv m' x1 x1n x1c x5 x11 x11n x11c x12 x13 I S) R x1 x1n x1c x5 x11 x11n x11c x12 x13 J T
def engine_Of_b1 (R : RT) (x0 : OA) (x0n x0c : Nat) (x1 : OA) (x1n x1c : Nat) (x5 : OA) (I : IMem) (S : SH) : Prop :=
  engine_Of_b2 R x1 x1n x1c x5 x0 x0n x0c (x0n : Int) 0 I S
def engine_Of (R : RT) (u0 : OA) (u0n u0c : Nat) (u1 : OA) (u1n u1c : Nat) (I : IMem) (S : SH) : Prop :=
  ∀ b10 : Nat,
  engine_Of_b1 R u0 u0n u0c u1 u1n u1c (some ⟨b10, 0, none⟩) I ((b10, .cells #[.slice none 0 0, .slice none 0 0] 87 (0, 0)) :: S)
theorem engine_Of_fn (R : RT) (u0 : OA) (u0n u0c : Nat) (u1 : OA) (u1n u1c : Nat) (I : IMem) (S : SH) (h : engine_Of R u0 u0n u0c u1 u1n u1c I S) : Runs Tryz.prog 9 #[.slice u0 u0n u0c, .slice u1 u1n u1c] I S R := by
  refine Runs.of_wp (c := cd Tryz.f9) Tryz.func9 (by kernel_rfl) (by kernel_rfl) ?_
  refine cO 2 [kL 0, kL 1, kP 5] (engine_Of_b1 R) h fun _ _ _ _ _ _ _ _ _ _ _ h => ?_
  refine sO [kP 5] (engine_Of_b5 R) ?_ fun _ _ _ _ _ h => ?_
  · refine cO 1 [kL 1, kP 5, kL 11, kI .i64 12, kI .i64 13] (engine_Of_b2 R) h fun _ _ _ _ _ _ _ _ _ _ _ _ _ h => ?_
    refine bK ?_
    obtain ⟨Vg3, mg3, h, hr⟩ := h
    refine lO [kL 1, kP 5, kL 11, kI .i64 12, kI .i64 13] Vg3 mg3 h fun mg3 _ I S hle x1 x1n x1c x5 x11 x11n x11c x12 x13 h => ?_
    have h := hr mg3 x1 x1n x1c x5 x11 x11n x11c x12 x13 I S hle h
    refine cO 2 [kL 1, kP 5, kL 11, kI .i64 12, kI .i64 13] (engine_Of_b4 (fun x1 x1n x1c x5 x11 x11n x11c x12 x13 I S => ∃ m', m' < mg3 ∧ Vg3 m' x1 x1n x1c x5 x11 x11n x11c x12 x13 I S) R) h fun _ _ _ _ _ _ _ _ _ _ _ _ _ h => ?_
    refine sO [kL 1, kP 5, kL 11, kI .i64 12, kI .i64 13] (engine_Of_b8 (fun x1 x1n x1c x5 x11 x11n x11c x12 x13 I S => ∃ m', m' < mg3 ∧ Vg3 m' x1 x1n x1c x5 x11 x11n x11c x12 x13 I S) R) ?_ fun _ _ _ _ _ _ _ _ _ _ _ _ _ h => ?_
    · refine bK ?_
      refine cO 4 [kL 1, kP 5, kA 8, kL 11, kI .i64 12, kI .i64 13] (engine_Of_b6 (fun x1 x1n x1c x5 x11 x11n x11c x12 x13 I S => ∃ m', m' < mg3 ∧ Vg3 m' x1 x1n x1c x5 x11 x11n x11c x12 x13 I S) R) h fun _ _ _ _ _ _ _ _ _ _ _ _ _ _ h => ?_
      refine sO [kL 1, kP 5, kL 11, kI .i64 12, kI .i64 13] (engine_Of_b7 (fun x1 x1n x1c x5 x11 x11n x11c x12 x13 I S => ∃ m', m' < mg3 ∧ Vg3 m' x1 x1n x1c x5 x11 x11n x11c x12 x13 I S) R) (dR (tk 6 0 (.step 6 (.step 7 (.take 8 (.take 9 (.step 10 .done)))))) [6, 7, 10] h) fun _ _ _ _ _ _ _ _ _ _ _ _ _ h => ?_
      exact dR (tk 5 0 (.step 5 (.step 6 (.step 7 (.take 8 (.take 9 (.step 10 .done))))))) [5, 6, 7, 10] h
    exact pS h
  exact pS h
def engine_Engine_Len (R : RT) (u0 : OA) (I : IMem) (S : SH) : Prop :=
  ptrP u0 fun u1 =>
  ∃ u2 u2n u2c, Cell I S u1 (.slice u2 u2n u2c) ∧
  R (.int .i64 (u2n : Int)) I S
theorem engine_Engine_Len_fn (R : RT) (u0 : OA) (I : IMem) (S : SH) (h : engine_Engine_Len R u0 I S) : Runs Tryz.prog 16 #[.pointer u0] I S R := by
  refine Runs.of_wp (c := cd Tryz.f16) Tryz.func16 (by kernel_rfl) (by kernel_rfl) ?_
  exact pS h
def engine_Engine_Live_b3 (R : RT) (x0 : OA) (x1 : Int) (x2 : Bool) (I : IMem) (S : SH) : Prop :=
  ptrP x0 fun u0 =>
  ∃ u1 u1n u1c, Cell I S u0 (.slice u1 u1n u1c) ∧
  ptrP u1 fun u2 => (0 : Int) ≤ x1 ∧ x1 < (u1n : Int) ∧
  StP S ((u2.add (x1.toNat * 4)).add 2) [.bool x2] fun S1 =>
  R (.bool true) I S1
def engine_Engine_Live_b2 (R : RT) (x0 : OA) (x1 : Int) (x2 x17 : Bool) (I : IMem) (S : SH) : Prop :=
  bcase x17
    (R (.bool false) I S)
    (engine_Engine_Live_b3 R x0 x1 x2 I S)
def engine_Engine_Live_b1 (R : RT) (x0 : OA) (x1 : Int) (x2 : Bool) (I : IMem) (S : SH) : Prop :=
  bcase (decide (x1 < (0 : Int)))
    (engine_Engine_Live_b2 R x0 x1 x2 true I S)
    (ptrP x0 fun u0 =>
    ∃ u1 u1n u1c, Cell I S u0 (.slice u1 u1n u1c) ∧
    engine_Engine_Live_b2 R x0 x1 x2 (decide (x1 ≥ (u1n : Int))) I S)
def engine_Engine_Live (R : RT) (u0 : OA) (u1 : Int) (u2 : Bool) (I : IMem) (S : SH) : Prop :=
  engine_Engine_Live_b1 R u0 u1 u2 I S
theorem engine_Engine_Live_fn (R : RT) (u0 : OA) (u1 : Int) (u2 : Bool) (I : IMem) (S : SH) (h : engine_Engine_Live R u0 u1 u2 I S) : Runs Tryz.prog 13 #[.pointer u0, .int .i64 u1, .bool u2] I S R := by
  refine Runs.of_wp (c := cd Tryz.f13) Tryz.func13 (by kernel_rfl) (by kernel_rfl) ?_
  refine cO 1 [kP 0, kI .i64 1, kB 2] (engine_Engine_Live_b1 R) h fun _ _ _ _ _ _ _ h => ?_
  refine sO [kP 0, kI .i64 1, kB 2] (engine_Engine_Live_b3 R) ?_ fun _ _ _ _ _ _ _ h => ?_
  · refine cO 1 [kP 0, kI .i64 1, kB 2, kB 17] (engine_Engine_Live_b2 R) h fun _ _ _ _ _ _ _ _ h => ?_
    exact pS h
  exact pS h
abbrev engine_Engine_Set_t6 := OA → Int → OA → Nat → Nat → Int → Int → PR
def engine_Engine_Set_b7 (R : RT) (I : IMem) (S : SH) : Prop :=
  R (.bool true) I S
def engine_Engine_Set_l6 (g6 : engine_Engine_Set_t6) (R : RT) (x0 : OA) (x1 : Int) (x45 : OA) (x45n x45c : Nat) (x46 x47 : Int) (I : IMem) (S : SH) : Prop :=
  bcase (decide (x47 < x46))
    (ptrP x45 fun u0 => (0 : Int) ≤ x47 ∧ x47 < (x45n : Int) ∧
    ∃ u1, Cell I S (u0.add (x47.toNat * 4)) (.string u1) ∧
    ∃ u2, Cell I S ((u0.add (x47.toNat * 4)).add 1) (.int .u16 u2) ∧
    ∃ u3, Cell I S ((u0.add (x47.toNat * 4)).add 2) (.int .u32 u3) ∧
    ∃ u4, Cell I S ((u0.add (x47.toNat * 4)).add 3) (.string u4) ∧
    ∀ b11 : Nat,
    StP ((b11, .cells #[.string ⟨#[]⟩, .int .u16 0, .int .u32 0, .string ⟨#[]⟩] 84 (0, 0)) :: S) ⟨b11, 0, none⟩ [.string u1, .int .u16 u2, .int .u32 u3, .string u4] fun S1 =>
    ∃ u5, Cell I S1 ⟨b11, 0, none⟩ (.string u5) ∧
    Runs Tryz.prog 28 #[.pointer x0, .int .i64 x1, .string u5] I S1 fun v I1 S1' => v = .tuple #[] ∧
    g6 x0 x1 x45 x45n x45c x46 (IntKind.wrap .i64 (x47 + (1 : Int))) I1 S1')
    (engine_Engine_Set_b7 R I S)
def engine_Engine_Set_b5 (R : RT) (x0 : OA) (x1 : Int) (x45 : OA) (x45n x45c : Nat) (x46 x47 : Int) (I : IMem) (S : SH) : Prop :=
  ∃ (Inv : Nat → engine_Engine_Set_t6) (m : Nat), Inv m x0 x1 x45 x45n x45c x46 x47 I S ∧
    ∀ (m : Nat) (x0 : OA) (x1 : Int) (x45 : OA) (x45n x45c : Nat) (x46 x47 : Int) (J : IMem) (T : SH), I.le J → Inv m x0 x1 x45 x45n x45c x46 x47 J T →
      engine_Engine_Set_l6 (fun x0 x1 x45 x45n x45c x46 x47 I S => ∃ m', m' < m ∧ Inv m' x0 x1 x45 x45n x45c x46 x47 I S) R x0 x1 x45 x45n x45c x46 x47 J T
def engine_Engine_Set_b4 (R : RT) (x0 : OA) (x1 : Int) (x8 : OA) (x8n x8c : Nat) (x9 : OA) (x9n x9c : Nat) (I : IMem) (S : SH) : Prop :=
  AppG 84 4 40 [.string ⟨#[]⟩, .int .u16 0, .int .u32 0, .string ⟨#[]⟩] (some (.slice 84)) I S (.slice x8 x8n x8c) (.slice x9 x9n x9c) fun u0 u0n u0c S1 =>
  engine_Engine_Set_b5 R x0 x1 u0 u0n u0c (u0n : Int) 0 I S1
def engine_Engine_Set_b3 (R : RT) (x0 : OA) (x1 : Int) (x2 : OA) (x2n x2c : Nat) (I : IMem) (S : SH) : Prop :=
  ptrP x0 fun u0 =>
  ∃ u1 u1n u1c, Cell I S u0 (.slice u1 u1n u1c) ∧
  ptrP u1 fun u2 => (0 : Int) ≤ x1 ∧ x1 < (u1n : Int) ∧
  ∃ u3 u3n u3c, Cell I S ((u2.add (x1.toNat * 4)).add 1) (.slice u3 u3n u3c) ∧
  Runs Tryz.prog 27 #[.slice u3 u3n u3c, .slice x2 x2n x2c] I S fun v I1 S1 => ∃ u4 u4n u4c u5 u5n u5c, v = .tuple #[.slice u4 u4n u4c, .slice u5 u5n u5c] ∧
  AppG 84 4 40 [.string ⟨#[]⟩, .int .u16 0, .int .u32 0, .string ⟨#[]⟩] (some (.slice 84)) I1 S1 (.slice none 0 0) (.slice x2 x2n x2c) fun u6 u6n u6c S1' =>
  StP S1' ((u2.add (x1.toNat * 4)).add 1) [.slice u6 u6n u6c] fun S1'' =>
  engine_Engine_Set_b4 R x0 x1 u4 u4n u4c u5 u5n u5c I1 S1''
def engine_Engine_Set_b2 (R : RT) (x0 : OA) (x1 : Int) (x2 : OA) (x2n x2c : Nat) (x22 : Bool) (I : IMem) (S : SH) : Prop :=
  bcase x22
    (R (.bool false) I S)
    (engine_Engine_Set_b3 R x0 x1 x2 x2n x2c I S)
def engine_Engine_Set_b1 (R : RT) (x0 : OA) (x1 : Int) (x2 : OA) (x2n x2c : Nat) (I : IMem) (S : SH) : Prop :=
  bcase (decide (x1 < (0 : Int)))
    (engine_Engine_Set_b2 R x0 x1 x2 x2n x2c true I S)
    (ptrP x0 fun u0 =>
    ∃ u1 u1n u1c, Cell I S u0 (.slice u1 u1n u1c) ∧
    engine_Engine_Set_b2 R x0 x1 x2 x2n x2c (decide (x1 ≥ (u1n : Int))) I S)
def engine_Engine_Set (R : RT) (u0 : OA) (u1 : Int) (u2 : OA) (u2n u2c : Nat) (I : IMem) (S : SH) : Prop :=
  engine_Engine_Set_b1 R u0 u1 u2 u2n u2c I S
theorem engine_Engine_Set_fn (R : RT) (u0 : OA) (u1 : Int) (u2 : OA) (u2n u2c : Nat) (I : IMem) (S : SH) (h : engine_Engine_Set R u0 u1 u2 u2n u2c I S) : Runs Tryz.prog 11 #[.pointer u0, .int .i64 u1, .slice u2 u2n u2c] I S R := by
  refine Runs.of_wp (c := cd Tryz.f11) Tryz.func11 (by kernel_rfl) (by kernel_rfl) ?_
  refine cO 1 [kP 0, kI .i64 1, kL 2] (engine_Engine_Set_b1 R) h fun _ _ _ _ _ _ _ _ _ h => ?_
  refine sO [kP 0, kI .i64 1, kL 2] (engine_Engine_Set_b3 R) ?_ fun _ _ _ _ _ _ _ _ _ h => ?_
  · refine cO 1 [kP 0, kI .i64 1, kL 2, kB 22] (engine_Engine_Set_b2 R) h fun _ _ _ _ _ _ _ _ _ _ h => ?_
    exact pS h
  refine cO 3 [kP 0, kI .i64 1, kL 8, kL 9] (engine_Engine_Set_b4 R) h fun _ _ _ _ _ _ _ _ _ _ _ _ h => ?_
  refine sO [] (engine_Engine_Set_b7 R) ?_ fun _ _ _ _ h => ?_
  · refine cO 1 [kP 0, kI .i64 1, kL 45, kI .i64 46, kI .i64 47] (engine_Engine_Set_b5 R) h fun _ _ _ _ _ _ _ _ _ _ _ h => ?_
    refine bK ?_
    obtain ⟨Vg6, mg6, h, hr⟩ := h
    refine lO [kP 0, kI .i64 1, kL 45, kI .i64 46, kI .i64 47] Vg6 mg6 h fun mg6 _ I S hle x0 x1 x45 x45n x45c x46 x47 h => ?_
    have h := hr mg6 x0 x1 x45 x45n x45c x46 x47 I S hle h
    exact pS h
  exact pS h
def engine_Engine_touch_b3 (R : RT) (I : IMem) (S : SH) : Prop :=
  R (.tuple #[]) I S
def engine_Engine_touch_b5 (R : RT) (x0 : OA) (x1 : Int) (x12 : Addr) (x56 : Bool) (I : IMem) (S : SH) : Prop :=
  bcase x56
    (ptrP x0 fun u0 =>
    ∃ u1 u1n u1c, Cell I S (u0.add 1) (.slice u1 u1n u1c) ∧
    ptrP u1 fun u2 => (0 : Int) ≤ x1 ∧ x1 < (u1n : Int) ∧
    ∃ u3, Cell I S (u2.add (x1.toNat * 1)) (.pointer u3) ∧
    ∃ u4, Cell I S x12 (.int .i64 u4) ∧
    ∃ u5, Cell I S (x12.add 1) (.string u5) ∧
    ∃ u6, Cell I S (x12.add 2) (.string u6) ∧
    ∃ u7, Cell I S (x12.add 3) (.int .i64 u7) ∧
    Runs Tryz.prog 55 #[.pointer u3, .agg #[.int .i64 u4, .string u5, .string u6, .int .i64 u7]] I S fun v I1 S1 => ∃ u8, v = .bool u8 ∧
    R (.tuple #[]) I1 S1)
    (R (.tuple #[]) I S)
def engine_Engine_touch_b4 (R : RT) (x0 : OA) (x1 : Int) (x2 : ByteArray) (x6 : Addr) (I : IMem) (S : SH) : Prop :=
  ∃ u0, Cell I S x6 (.string u0) ∧
  Runs Tryz.prog 53 #[.string x2, .string u0] I S fun v I1 S1 => ∃ u1 u2, v = .tuple #[.string u1, .bool u2] ∧
  Runs Tryz.prog 54 #[.string u1] I1 S1 fun v' I1' S1' => ∃ u3 u4 u5 u6 u7, v' = .tuple #[.agg #[.int .i64 u3, .string u4, .string u5, .int .i64 u6], .bool u7] ∧
  ∀ b12 : Nat,
  StP ((b12, .cells #[.int .i64 0, .string ⟨#[]⟩, .string ⟨#[]⟩, .int .i64 0] 44 (0, 0)) :: S1') ⟨b12, 0, none⟩ [.int .i64 u3, .string u4, .string u5, .int .i64 u6] fun S1'' =>
  engine_Engine_touch_b5 R x0 x1 ⟨b12, 0, none⟩ u7 I1' S1''
def engine_Engine_touch_b2 (R : RT) (x0 : OA) (x1 : Int) (x2 : ByteArray) (x6 x7 : Addr) (x33 : Bool) (I : IMem) (S : SH) : Prop :=
  bcase x33
    (ptrP x0 fun u0 =>
    ∃ u1 u1n u1c, Cell I S (u0.add 1) (.slice u1 u1n u1c) ∧
    ptrP u1 fun u2 => (0 : Int) ≤ x1 ∧ x1 < (u1n : Int) ∧
    ∃ u3, Cell I S (u2.add (x1.toNat * 1)) (.pointer u3) ∧
    ∃ u4, Cell I S x7 (.int .i64 u4) ∧
    ∃ u5, Cell I S (x7.add 1) (.string u5) ∧
    ∃ u6, Cell I S (x7.add 2) (.string u6) ∧
    ∃ u7, Cell I S (x7.add 3) (.int .i64 u7) ∧
    Runs Tryz.prog 52 #[.pointer u3, .agg #[.int .i64 u4, .string u5, .string u6, .int .i64 u7], .int .i64 x1] I S fun v I1 S1 => ∃ u8, v = .bool u8 ∧
    engine_Engine_touch_b3 R I1 S1)
    (engine_Engine_touch_b4 R x0 x1 x2 x6 I S)
def engine_Engine_touch_b1 (R : RT) (x0 : OA) (x1 : Int) (x2 : ByteArray) (x6 : Addr) (I : IMem) (S : SH) : Prop :=
  ∃ u0, Cell I S x6 (.string u0) ∧
  ∃ u1 u1n u1c, Cell I S (x6.add 1) (.slice u1 u1n u1c) ∧
  ∃ u2, Cell I S (x6.add 2) (.bool u2) ∧
  ∃ u3, Cell I S (x6.add 3) (.int .i64 u3) ∧
  Runs Tryz.prog 37 #[.agg #[.string u0, .slice u1 u1n u1c, .bool u2, .int .i64 u3], .string x2] I S fun v I1 S1 => ∃ u4 u5 u6 u7 u8 u9 ua ub ubn ubc uc, v = .tuple #[.agg #[.int .i64 u4, .string u5, .string u6, .int .i64 u7], .agg #[.int .i64 u8, .string u9, .bool ua, .slice ub ubn ubc], .bool uc] ∧
  ∀ b7 : Nat,
  ∀ b8 : Nat,
  StP ((b8, .cells #[.int .i64 0, .string ⟨#[]⟩, .bool false, .slice none 0 0] 46 (0, 0)) :: ((b7, .cells #[.int .i64 0, .string ⟨#[]⟩, .string ⟨#[]⟩, .int .i64 0] 44 (0, 0)) :: S1)) ⟨b7, 0, none⟩ [.int .i64 u4, .string u5, .string u6, .int .i64 u7] fun S1' =>
  StP S1' ⟨b8, 0, none⟩ [.int .i64 u8, .string u9, .bool ua, .slice ub ubn ubc] fun S1'' =>
  bcase uc
    (∃ ud, Cell I1 S1'' ⟨b8, 0, none⟩ (.int .i64 ud) ∧
    engine_Engine_touch_b2 R x0 x1 x2 x6 ⟨b7, 0, none⟩ (ud != (1 : Int)) I1 S1'')
    (engine_Engine_touch_b2 R x0 x1 x2 x6 ⟨b7, 0, none⟩ false I1 S1'')
def engine_Engine_touch (R : RT) (u0 : OA) (u1 : Int) (u2 : ByteArray) (I : IMem) (S : SH) : Prop :=
  ptrP u0 fun u3 =>
  ∃ u4 u4n u4c, Cell I S u3 (.slice u4 u4n u4c) ∧
  ptrP u4 fun u5 => (0 : Int) ≤ u1 ∧ u1 < (u4n : Int) ∧
  ∃ u6, Cell I S (u5.add (u1.toNat * 4)) (.string u6) ∧
  ∃ u7 u7n u7c, Cell I S ((u5.add (u1.toNat * 4)).add 1) (.slice u7 u7n u7c) ∧
  ∃ u8, Cell I S ((u5.add (u1.toNat * 4)).add 2) (.bool u8) ∧
  ∃ u9, Cell I S ((u5.add (u1.toNat * 4)).add 3) (.int .i64 u9) ∧
  ∀ b6 : Nat,
  StP ((b6, .cells #[.string ⟨#[]⟩, .slice none 0 0, .bool false, .int .i64 0] 65 (0, 0)) :: S) ⟨b6, 0, none⟩ [.string u6, .slice u7 u7n u7c, .bool u8, .int .i64 u9] fun S1 =>
  engine_Engine_touch_b1 R u0 u1 u2 ⟨b6, 0, none⟩ I S1
theorem engine_Engine_touch_fn (R : RT) (u0 : OA) (u1 : Int) (u2 : ByteArray) (I : IMem) (S : SH) (h : engine_Engine_touch R u0 u1 u2 I S) : Runs Tryz.prog 28 #[.pointer u0, .int .i64 u1, .string u2] I S R := by
  refine Runs.of_wp (c := cd Tryz.f28) Tryz.func28 (by kernel_rfl) (by kernel_rfl) ?_
  refine cO 1 [kP 0, kI .i64 1, kS 2, kA 6] (engine_Engine_touch_b1 R) h fun _ _ _ _ _ _ _ _ h => ?_
  refine sO [kP 0, kI .i64 1, kS 2, kA 6] (engine_Engine_touch_b4 R) ?_ fun _ _ _ _ _ _ _ _ h => ?_
  · refine cO 2 [kP 0, kI .i64 1, kS 2, kA 6, kA 7, kB 33] (engine_Engine_touch_b2 R) h fun _ _ _ _ _ _ _ _ _ _ h => ?_
    refine cD h (fun h => ?_) fun h => pS h
    refine sO [] (engine_Engine_touch_b3 R) (dR (tk 9 0 (.step 9 .done)) [9] h) fun _ _ _ _ h => ?_
    exact pS h
  refine cO 3 [kP 0, kI .i64 1, kA 12, kB 56] (engine_Engine_touch_b5 R) h fun _ _ _ _ _ _ _ _ h => ?_
  exact cD h (fun h => dR (tk 8 0 (.step 8 .done)) [8] h) fun h => pS h
abbrev engine_found_t3 := OA → Addr → Addr → Addr → OA → Nat → Nat → Int → Int → PR
abbrev engine_found_t6 := OA → Addr → Addr → Addr → OA → Nat → Nat → Int → Int → PR
abbrev engine_found_t9 := OA → Addr → Addr → OA → Nat → Nat → Int → Int → PR
def engine_found_b10 (R : RT) (x5 : Addr) (I : IMem) (S : SH) : Prop :=
  ∃ u0 u0n u0c, Cell I S x5 (.slice u0 u0n u0c) ∧
  R (.slice u0 u0n u0c) I S
def engine_found_l9 (g9 : engine_found_t9) (R : RT) (x0 : OA) (x5 x6 : Addr) (x65 : OA) (x65n x65c : Nat) (x66 x67 : Int) (I : IMem) (S : SH) : Prop :=
  bcase (decide (x67 < x66))
    (ptrP x65 fun u0 => (0 : Int) ≤ x67 ∧ x67 < (x65n : Int) ∧
    ∃ u1, Cell I S (u0.add (x67.toNat * 1)) (.string u1) ∧
    Runs Tryz.prog 61 #[.pointer x0, .int .i64 6, .string u1] I S fun v I1 S1 => ∃ u2 u3 u4 u5 u6 u7, v = .tuple #[.int .i64 u2, .agg #[.int .i64 u3, .string u4, .string u5, .int .i64 u6], .bool u7] ∧
    Runs Tryz.prog 60 #[.int .i64 u2, .agg #[.int .i64 u3, .string u4, .string u5, .int .i64 u6], .bool u7, .pointer (some x6)] I1 S1 fun v' I1' S1' => v' = .tuple #[] ∧
    g9 x0 x5 x6 x65 x65n x65c x66 (IntKind.wrap .i64 (x67 + (1 : Int))) I1' S1')
    (engine_found_b10 R x5 I S)
def engine_found_b8 (R : RT) (x0 : OA) (x5 x6 : Addr) (x65 : OA) (x65n x65c : Nat) (x66 x67 : Int) (I : IMem) (S : SH) : Prop :=
  ∃ (Inv : Nat → engine_found_t9) (m : Nat), Inv m x0 x5 x6 x65 x65n x65c x66 x67 I S ∧
    ∀ (m : Nat) (x0 : OA) (x5 x6 : Addr) (x65 : OA) (x65n x65c : Nat) (x66 x67 : Int) (J : IMem) (T : SH), I.le J → Inv m x0 x5 x6 x65 x65n x65c x66 x67 J T →
      engine_found_l9 (fun x0 x5 x6 x65 x65n x65c x66 x67 I S => ∃ m', m' < m ∧ Inv m' x0 x5 x6 x65 x65n x65c x66 x67 I S) R x0 x5 x6 x65 x65n x65c x66 x67 J T
def engine_found_b7 (R : RT) (x0 : OA) (x3 x5 x6 : Addr) (I : IMem) (S : SH) : Prop :=
  ∃ u0 u0n u0c, Cell I S (x3.add 4) (.slice u0 u0n u0c) ∧
  engine_found_b8 R x0 x5 x6 u0 u0n u0c (u0n : Int) 0 I S
def engine_found_l6 (g6 : engine_found_t6) (R : RT) (x0 : OA) (x3 x5 x6 : Addr) (x49 : OA) (x49n x49c : Nat) (x50 x51 : Int) (I : IMem) (S : SH) : Prop :=
  bcase (decide (x51 < x50))
    (ptrP x49 fun u0 => (0 : Int) ≤ x51 ∧ x51 < (x49n : Int) ∧
    ∃ u1, Cell I S (u0.add (x51.toNat * 1)) (.string u1) ∧
    Runs Tryz.prog 62 #[.pointer x0, .int .i64 4, .int .i64 5, .string u1] I S fun v I1 S1 => ∃ u2 u3 u4 u5 u6 u7, v = .tuple #[.int .i64 u2, .agg #[.int .i64 u3, .string u4, .string u5, .int .i64 u6], .bool u7] ∧
    Runs Tryz.prog 60 #[.int .i64 u2, .agg #[.int .i64 u3, .string u4, .string u5, .int .i64 u6], .bool u7, .pointer (some x6)] I1 S1 fun v' I1' S1' => v' = .tuple #[] ∧
    g6 x0 x3 x5 x6 x49 x49n x49c x50 (IntKind.wrap .i64 (x51 + (1 : Int))) I1' S1')
    (engine_found_b7 R x0 x3 x5 x6 I S)
def engine_found_b5 (R : RT) (x0 : OA) (x3 x5 x6 : Addr) (x49 : OA) (x49n x49c : Nat) (x50 x51 : Int) (I : IMem) (S : SH) : Prop :=
  ∃ (Inv : Nat → engine_found_t6) (m : Nat), Inv m x0 x3 x5 x6 x49 x49n x49c x50 x51 I S ∧
    ∀ (m : Nat) (x0 : OA) (x3 x5 x6 : Addr) (x49 : OA) (x49n x49c : Nat) (x50 x51 : Int) (J : IMem) (T : SH), I.le J → Inv m x0 x3 x5 x6 x49 x49n x49c x50 x51 J T →
      engine_found_l6 (fun x0 x3 x5 x6 x49 x49n x49c x50 x51 I S => ∃ m', m' < m ∧ Inv m' x0 x3 x5 x6 x49 x49n x49c x50 x51 I S) R x0 x3 x5 x6 x49 x49n x49c x50 x51 J T
def engine_found_b4 (R : RT) (x0 : OA) (x3 x5 x6 : Addr) (I : IMem) (S : SH) : Prop :=
  ∃ u0 u0n u0c, Cell I S (x3.add 3) (.slice u0 u0n u0c) ∧
  engine_found_b5 R x0 x3 x5 x6 u0 u0n u0c (u0n : Int) 0 I S
def engine_found_l3 (g3 : engine_found_t3) (R : RT) (x0 : OA) (x3 x5 x6 : Addr) (x33 : OA) (x33n x33c : Nat) (x34 x35 : Int) (I : IMem) (S : SH) : Prop :=
  bcase (decide (x35 < x34))
    (ptrP x33 fun u0 => (0 : Int) ≤ x35 ∧ x35 < (x33n : Int) ∧
    ∃ u1, Cell I S (u0.add (x35.toNat * 1)) (.string u1) ∧
    Runs Tryz.prog 61 #[.pointer x0, .int .i64 3, .string u1] I S fun v I1 S1 => ∃ u2 u3 u4 u5 u6 u7, v = .tuple #[.int .i64 u2, .agg #[.int .i64 u3, .string u4, .string u5, .int .i64 u6], .bool u7] ∧
    Runs Tryz.prog 60 #[.int .i64 u2, .agg #[.int .i64 u3, .string u4, .string u5, .int .i64 u6], .bool u7, .pointer (some x6)] I1 S1 fun v' I1' S1' => v' = .tuple #[] ∧
    g3 x0 x3 x5 x6 x33 x33n x33c x34 (IntKind.wrap .i64 (x35 + (1 : Int))) I1' S1')
    (engine_found_b4 R x0 x3 x5 x6 I S)
def engine_found_b2 (R : RT) (x0 : OA) (x3 x5 x6 : Addr) (x33 : OA) (x33n x33c : Nat) (x34 x35 : Int) (I : IMem) (S : SH) : Prop :=
  ∃ (Inv : Nat → engine_found_t3) (m : Nat), Inv m x0 x3 x5 x6 x33 x33n x33c x34 x35 I S ∧
    ∀ (m : Nat) (x0 : OA) (x3 x5 x6 : Addr) (x33 : OA) (x33n x33c : Nat) (x34 x35 : Int) (J : IMem) (T : SH), I.le J → Inv m x0 x3 x5 x6 x33 x33n x33c x34 x35 J T →
      engine_found_l3 (fun x0 x3 x5 x6 x33 x33n x33c x34 x35 I S => ∃ m', m' < m ∧ Inv m' x0 x3 x5 x6 x33 x33n x33c x34 x35 I S) R x0 x3 x5 x6 x33 x33n x33c x34 x35 J T
def engine_found_b1 (R : RT) (x0 : OA) (x3 x5 x6 : Addr) (I : IMem) (S : SH) : Prop :=
  ∃ u0 u0n u0c, Cell I S (x3.add 2) (.slice u0 u0n u0c) ∧
  engine_found_b2 R x0 x3 x5 x6 u0 u0n u0c (u0n : Int) 0 I S
def engine_found (R : RT) (u0 : OA) (u1 u2 : ByteArray) (u3 : OA) (u3n u3c : Nat) (u4 : OA) (u4n u4c : Nat) (u5 : OA) (u5n u5c : Nat) (I : IMem) (S : SH) : Prop :=
  ∀ b3 : Nat,
  ∀ b5 : Nat,
  ∃ u6, Cell I ((b5, .cells #[.slice none 0 0] 101 (0, 0)) :: ((b3, .cells #[.string u1, .string u2, .slice u3 u3n u3c, .slice u4 u4n u4c, .slice u5 u5n u5c] 53 (0, 0)) :: S)) ⟨b3, 0, none⟩ (.string u6) ∧
  Runs Tryz.prog 61 #[.pointer u0, .int .i64 0, .string u6] I ((b5, .cells #[.slice none 0 0] 101 (0, 0)) :: ((b3, .cells #[.string u1, .string u2, .slice u3 u3n u3c, .slice u4 u4n u4c, .slice u5 u5n u5c] 53 (0, 0)) :: S)) fun v I1 S1 => ∃ u7 u8 u9 ua ub uc, v = .tuple #[.int .i64 u7, .agg #[.int .i64 u8, .string u9, .string ua, .int .i64 ub], .bool uc] ∧
  Runs Tryz.prog 60 #[.int .i64 u7, .agg #[.int .i64 u8, .string u9, .string ua, .int .i64 ub], .bool uc, .pointer (some ⟨b5, 0, none⟩)] I1 S1 fun v' I1' S1' => v' = .tuple #[] ∧
  ∃ ud, Cell I1' S1' ⟨b3, 1, none⟩ (.string ud) ∧
  Runs Tryz.prog 62 #[.pointer u0, .int .i64 1, .int .i64 2, .string ud] I1' S1' fun v'' I1'' S1'' => ∃ ue uf ug uh ui uj, v'' = .tuple #[.int .i64 ue, .agg #[.int .i64 uf, .string ug, .string uh, .int .i64 ui], .bool uj] ∧
  Runs Tryz.prog 60 #[.int .i64 ue, .agg #[.int .i64 uf, .string ug, .string uh, .int .i64 ui], .bool uj, .pointer (some ⟨b5, 0, none⟩)] I1'' S1'' fun v_r3 I1_r3 S1_r3 => v_r3 = .tuple #[] ∧
  engine_found_b1 R u0 ⟨b3, 0, none⟩ ⟨b5, 0, none⟩ ⟨b5, 0, none⟩ I1_r3 S1_r3
theorem engine_found_fn (R : RT) (u0 : OA) (u1 u2 : ByteArray) (u3 : OA) (u3n u3c : Nat) (u4 : OA) (u4n u4c : Nat) (u5 : OA) (u5n u5c : Nat) (I : IMem) (S : SH) (h : engine_found R u0 u1 u2 u3 u3n u3c u4 u4n u4c u5 u5n u5c I S) : Runs Tryz.prog 31 #[.pointer u0, .agg #[.string u1, .string u2, .slice u3 u3n u3c, .slice u4 u4n u4c, .slice u5 u5n u5c]] I S R := by
  refine Runs.of_wp (c := cd Tryz.f31) Tryz.func31 (by kernel_rfl) (by kernel_rfl) ?_
  refine cO 5 [kP 0, kA 3, kA 5, kFA 60 6] (engine_found_b1 R) h fun _ _ _ _ _ _ _ _ h => ?_
  refine sO [kP 0, kA 3, kA 5, kFA 60 6] (engine_found_b4 R) ?_ fun _ _ _ _ _ _ _ _ h => ?_
  · refine cO 1 [kP 0, kA 3, kA 5, kFA 60 6, kL 33, kI .i64 34, kI .i64 35] (engine_found_b2 R) h fun _ _ _ _ _ _ _ _ _ _ _ _ _ h => ?_
    refine bK ?_
    obtain ⟨Vg3, mg3, h, hr⟩ := h
    refine lO [kP 0, kA 3, kA 5, kFA 60 6, kL 33, kI .i64 34, kI .i64 35] Vg3 mg3 h fun mg3 _ I S hle x0 x3 x5 x6 x33 x33n x33c x34 x35 h => ?_
    have h := hr mg3 x0 x3 x5 x6 x33 x33n x33c x34 x35 I S hle h
    exact pS h
  refine sO [kP 0, kA 3, kA 5, kFA 60 6] (engine_found_b7 R) ?_ fun _ _ _ _ _ _ _ _ h => ?_
  · refine cO 1 [kP 0, kA 3, kA 5, kFA 60 6, kL 49, kI .i64 50, kI .i64 51] (engine_found_b5 R) h fun _ _ _ _ _ _ _ _ _ _ _ _ _ h => ?_
    refine bK ?_
    obtain ⟨Vg6, mg6, h, hr⟩ := h
    refine lO [kP 0, kA 3, kA 5, kFA 60 6, kL 49, kI .i64 50, kI .i64 51] Vg6 mg6 h fun mg6 _ I S hle x0 x3 x5 x6 x49 x49n x49c x50 x51 h => ?_
    have h := hr mg6 x0 x3 x5 x6 x49 x49n x49c x50 x51 I S hle h
    exact pS h
  refine sO [kA 5] (engine_found_b10 R) ?_ fun _ _ _ _ _ h => ?_
  · refine cO 1 [kP 0, kA 5, kFA 60 6, kL 65, kI .i64 66, kI .i64 67] (engine_found_b8 R) h fun _ _ _ _ _ _ _ _ _ _ _ _ h => ?_
    refine bK ?_
    obtain ⟨Vg9, mg9, h, hr⟩ := h
    refine lO [kP 0, kA 5, kFA 60 6, kL 65, kI .i64 66, kI .i64 67] Vg9 mg9 h fun mg9 _ I S hle x0 x5 x6 x65 x65n x65c x66 x67 h => ?_
    have h := hr mg9 x0 x5 x6 x65 x65n x65c x66 x67 I S hle h
    exact pS h
  exact pS h
def engine_found_f1 (R : RT) (u0 u1 : Int) (u2 u3 : ByteArray) (u4 : Int) (u5 : Bool) (u6 : Addr) (I : IMem) (S : SH) : Prop :=
  ∀ b5 : Nat,
  bcase u5
    (∃ u7 u7n u7c, Cell I ((b5, .cells #[.int .i64 u1, .string u2, .string u3, .int .i64 u4] 44 (0, 0)) :: S) u6 (.slice u7 u7n u7c) ∧
    ∃ u8, Cell I ((b5, .cells #[.int .i64 u1, .string u2, .string u3, .int .i64 u4] 44 (0, 0)) :: S) ⟨b5, 0, none⟩ (.int .i64 u8) ∧
    ∃ u9, Cell I ((b5, .cells #[.int .i64 u1, .string u2, .string u3, .int .i64 u4] 44 (0, 0)) :: S) ⟨b5, 1, none⟩ (.string u9) ∧
    ∃ ua, Cell I ((b5, .cells #[.int .i64 u1, .string u2, .string u3, .int .i64 u4] 44 (0, 0)) :: S) ⟨b5, 2, none⟩ (.string ua) ∧
    ∃ ub, Cell I ((b5, .cells #[.int .i64 u1, .string u2, .string u3, .int .i64 u4] 44 (0, 0)) :: S) ⟨b5, 3, none⟩ (.int .i64 ub) ∧
    ∀ b10 : Nat,
    AppG 44 4 48 [.int .i64 0, .string ⟨#[]⟩, .string ⟨#[]⟩, .int .i64 0] (some (.slice 44)) I ((b10, .cells #[.int .i64 u8, .string u9, .string ua, .int .i64 ub] 44 (0, 0)) :: ((b5, .cells #[.int .i64 u1, .string u2, .string u3, .int .i64 u4] 44 (0, 0)) :: S)) (.slice u7 u7n u7c) (.slice (some ⟨b10, 0, none⟩) 1 1) fun uc ucn ucc S1 =>
    StP S1 u6 [.slice uc ucn ucc] fun S1' =>
    R (.tuple #[]) I S1')
    (R (.tuple #[]) I ((b5, .cells #[.int .i64 u1, .string u2, .string u3, .int .i64 u4] 44 (0, 0)) :: S))
theorem engine_found_f1_fn (R : RT) (u0 u1 : Int) (u2 u3 : ByteArray) (u4 : Int) (u5 : Bool) (u6 : Addr) (I : IMem) (S : SH) (h : engine_found_f1 R u0 u1 u2 u3 u4 u5 u6 I S) : Runs Tryz.prog 60 #[.int .i64 u0, .agg #[.int .i64 u1, .string u2, .string u3, .int .i64 u4], .bool u5, .pointer (some u6)] I S R := by
  refine Runs.of_wp (c := cd Tryz.f60) Tryz.func60 (by kernel_rfl) (by kernel_rfl) ?_
  exact pS h
abbrev engine_Engine_Decide_t3 := OA → Addr → Addr → OA → Nat → Nat → Int → Int → PR
def engine_Engine_Decide_b5 (g3 : engine_Engine_Decide_t3) (R : RT) (x0 : OA) (x3 x4 : Addr) (x24 : OA) (x24n x24c : Nat) (x25 x26 : Int) (I : IMem) (S : SH) : Prop :=
  g3 x0 x3 x4 x24 x24n x24c x25 (IntKind.wrap .i64 (x26 + (1 : Int))) I S
abbrev engine_Engine_Decide_t8 := OA → Addr → Addr → Int → Addr → Addr → Bool → OA → Nat → Nat → Int → Int → OA → Nat → Nat → Int → Int → PR
def engine_Engine_Decide_b13 (g3 : engine_Engine_Decide_t3) (g8 : engine_Engine_Decide_t8) (R : RT) (x0 : OA) (x3 x4 : Addr) (x6 : Int) (x7 x8 : Addr) (x9 : Bool) (x24 : OA) (x24n x24c : Nat) (x25 x26 : Int) (x42 : OA) (x42n x42c : Nat) (x43 x44 : Int) (I : IMem) (S : SH) : Prop :=
  g8 x0 x3 x4 x6 x7 x8 x9 x24 x24n x24c x25 x26 x42 x42n x42c x43 (IntKind.wrap .i64 (x44 + (1 : Int))) I S
def engine_Engine_Decide_b12 (g3 : engine_Engine_Decide_t3) (g8 : engine_Engine_Decide_t8) (R : RT) (x0 : OA) (x3 x4 : Addr) (x6 : Int) (x7 x8 : Addr) (x9 : Bool) (x11 : Addr) (x24 : OA) (x24n x24c : Nat) (x25 x26 : Int) (x42 : OA) (x42n x42c : Nat) (x43 x44 : Int) (x70 : Bool) (I : IMem) (S : SH) : Prop :=
  bcase x70
    (∃ u0, Cell I S x11 (.int .i64 u0) ∧
    ∃ u1, Cell I S (x11.add 1) (.string u1) ∧
    ∃ u2, Cell I S (x11.add 2) (.string u2) ∧
    ∃ u3, Cell I S (x11.add 3) (.int .i64 u3) ∧
    StP S x8 [.int .i64 u0, .string u1, .string u2, .int .i64 u3] fun S1 =>
    engine_Engine_Decide_b13 g3 g8 R x0 x3 x4 x6 x7 x8 true x24 x24n x24c x25 x26 x42 x42n x42c x43 x44 I S1)
    (engine_Engine_Decide_b13 g3 g8 R x0 x3 x4 x6 x7 x8 x9 x24 x24n x24c x25 x26 x42 x42n x42c x43 x44 I S)
def engine_Engine_Decide_b11 (g3 : engine_Engine_Decide_t3) (g8 : engine_Engine_Decide_t8) (R : RT) (x0 : OA) (x3 x4 : Addr) (x6 : Int) (x7 x8 : Addr) (x9 : Bool) (x11 : Addr) (x12 x12i x13 x13i : Nat) (x24 : OA) (x24n x24c : Nat) (x25 x26 : Int) (x42 : OA) (x42n x42c : Nat) (x43 x44 : Int) (I : IMem) (S : SH) : Prop :=
  bcase (!x9)
    (engine_Engine_Decide_b12 g3 g8 R x0 x3 x4 x6 x7 x8 x9 x11 x24 x24n x24c x25 x26 x42 x42n x42c x43 x44 true I S)
    (Runs Tryz.prog 33 #[.complex .f64 x12 x12i, .complex .f64 x13 x13i] I S fun v I1 S1 => ∃ u0, v = .bool u0 ∧
    bcase u0
      (engine_Engine_Decide_b12 g3 g8 R x0 x3 x4 x6 x7 x8 x9 x11 x24 x24n x24c x25 x26 x42 x42n x42c x43 x44 true I1 S1)
      (bcase (Op.floatEq .f64 x12 x13 && Op.floatEq .f64 x12i x13i)
        (∃ u1, Cell I1 S1 x11 (.int .i64 u1) ∧
        ∃ u2, Cell I1 S1 (x11.add 1) (.string u2) ∧
        ∃ u3, Cell I1 S1 (x11.add 2) (.string u3) ∧
        ∃ u4, Cell I1 S1 (x11.add 3) (.int .i64 u4) ∧
        ∃ u5, Cell I1 S1 x8 (.int .i64 u5) ∧
        ∃ u6, Cell I1 S1 (x8.add 1) (.string u6) ∧
        ∃ u7, Cell I1 S1 (x8.add 2) (.string u7) ∧
        ∃ u8, Cell I1 S1 (x8.add 3) (.int .i64 u8) ∧
        Runs Tryz.prog 34 #[.agg #[.int .i64 u1, .string u2, .string u3, .int .i64 u4], .agg #[.int .i64 u5, .string u6, .string u7, .int .i64 u8]] I1 S1 fun v' I1' S1' => ∃ u9, v' = .bool u9 ∧
        engine_Engine_Decide_b12 g3 g8 R x0 x3 x4 x6 x7 x8 x9 x11 x24 x24n x24c x25 x26 x42 x42n x42c x43 x44 u9 I1' S1')
        (engine_Engine_Decide_b12 g3 g8 R x0 x3 x4 x6 x7 x8 x9 x11 x24 x24n x24c x25 x26 x42 x42n x42c x43 x44 false I1 S1)))
def engine_Engine_Decide_b10 (g3 : engine_Engine_Decide_t3) (g8 : engine_Engine_Decide_t8) (R : RT) (x0 : OA) (x3 x4 : Addr) (x6 : Int) (x7 x8 : Addr) (x9 : Bool) (x11 : Addr) (x24 : OA) (x24n x24c : Nat) (x25 x26 : Int) (x42 : OA) (x42n x42c : Nat) (x43 x44 : Int) (I : IMem) (S : SH) : Prop :=
  ∃ u0, Cell I S x11 (.int .i64 u0) ∧
  ∃ u1, Cell I S (x11.add 1) (.string u1) ∧
  ∃ u2, Cell I S (x11.add 2) (.string u2) ∧
  ∃ u3, Cell I S (x11.add 3) (.int .i64 u3) ∧
  ∃ u4, Cell I S x8 (.int .i64 u4) ∧
  ∃ u5, Cell I S (x8.add 1) (.string u5) ∧
  ∃ u6, Cell I S (x8.add 2) (.string u6) ∧
  ∃ u7, Cell I S (x8.add 3) (.int .i64 u7) ∧
  Runs Tryz.prog 32 #[.int .i64 x6, .agg #[.int .i64 u0, .string u1, .string u2, .int .i64 u3]] I S fun v I1 S1 => ∃ u8 u8i, v = .complex .f64 u8 u8i ∧
  Keep I S I1 S1 ∧
  Runs Tryz.prog 32 #[.int .i64 x6, .agg #[.int .i64 u4, .string u5, .string u6, .int .i64 u7]] I1 S1 fun v' I1' S1' => ∃ u9 u9i, v' = .complex .f64 u9 u9i ∧
  engine_Engine_Decide_b11 g3 g8 R x0 x3 x4 x6 x7 x8 x9 x11 u8 u8i u9 u9i x24 x24n x24c x25 x26 x42 x42n x42c x43 x44 I1' S1'
def engine_Engine_Decide_b9 (g3 : engine_Engine_Decide_t3) (g8 : engine_Engine_Decide_t8) (R : RT) (x0 : OA) (x3 x4 : Addr) (x6 : Int) (x7 x8 : Addr) (x9 : Bool) (x24 : OA) (x24n x24c : Nat) (x25 x26 : Int) (x42 : OA) (x42n x42c : Nat) (x43 x44 : Int) (I : IMem) (S : SH) : Prop :=
  ptrP x42 fun u0 => (0 : Int) ≤ x44 ∧ x44 < (x42n : Int) ∧
  ∃ u1, Cell I S (u0.add (x44.toNat * 4)) (.int .i64 u1) ∧
  ∃ u2, Cell I S ((u0.add (x44.toNat * 4)).add 1) (.string u2) ∧
  ∃ u3, Cell I S ((u0.add (x44.toNat * 4)).add 2) (.string u3) ∧
  ∃ u4, Cell I S ((u0.add (x44.toNat * 4)).add 3) (.int .i64 u4) ∧
  ∀ b11 : Nat,
  StP ((b11, .cells #[.int .i64 0, .string ⟨#[]⟩, .string ⟨#[]⟩, .int .i64 0] 44 (0, 0)) :: S) ⟨b11, 0, none⟩ [.int .i64 u1, .string u2, .string u3, .int .i64 u4] fun S1 =>
  engine_Engine_Decide_b10 g3 g8 R x0 x3 x4 x6 x7 x8 x9 ⟨b11, 0, none⟩ x24 x24n x24c x25 x26 x42 x42n x42c x43 x44 I S1
def engine_Engine_Decide_b14 (g3 : engine_Engine_Decide_t3) (R : RT) (x0 : OA) (x3 x4 : Addr) (x6 : Int) (x7 x8 : Addr) (x9 : Bool) (x24 : OA) (x24n x24c : Nat) (x25 x26 : Int) (I : IMem) (S : SH) : Prop :=
  bcase (!x9)
    (engine_Engine_Decide_b5 g3 R x0 x3 x4 x24 x24n x24c x25 x26 I S)
    (∃ u0, Cell I S x8 (.int .i64 u0) ∧
    ∃ u1, Cell I S (x8.add 1) (.string u1) ∧
    ∃ u2, Cell I S (x8.add 2) (.string u2) ∧
    ∃ u3, Cell I S (x8.add 3) (.int .i64 u3) ∧
    Runs Tryz.prog 35 #[.agg #[.int .i64 u0, .string u1, .string u2, .int .i64 u3]] I S fun v I1 S1 => ∃ u4 u5, v = .tuple #[.string u4, .bool u5] ∧
    ∃ u6, Cell I1 S1 x7 (.string u6) ∧
    Runs Tryz.prog 36 #[.string u4, .string u6] I1 S1 fun v' I1' S1' => ∃ u7 u8, v' = .tuple #[.string u7, .bool u8] ∧
    ∃ u9, Cell I1' S1' x7 (.string u9) ∧
    ∃ ua uan uac, Cell I1' S1' (x7.add 1) (.slice ua uan uac) ∧
    ∃ ub, Cell I1' S1' (x7.add 2) (.bool ub) ∧
    ∃ uc, Cell I1' S1' (x7.add 3) (.int .i64 uc) ∧
    Runs Tryz.prog 37 #[.agg #[.string u9, .slice ua uan uac, .bool ub, .int .i64 uc], .string u7] I1' S1' fun v'' I1'' S1'' => ∃ ud ue uf ug uh ui uj uk ukn ukc ul, v'' = .tuple #[.agg #[.int .i64 ud, .string ue, .string uf, .int .i64 ug], .agg #[.int .i64 uh, .string ui, .bool uj, .slice uk ukn ukc], .bool ul] ∧
    ∀ b18 : Nat,
    ∀ b19 : Nat,
    StP ((b19, .cells #[.int .i64 0, .string ⟨#[]⟩, .bool false, .slice none 0 0] 46 (0, 0)) :: ((b18, .cells #[.int .i64 0, .string ⟨#[]⟩, .string ⟨#[]⟩, .int .i64 0] 44 (0, 0)) :: S1'')) ⟨b18, 0, none⟩ [.int .i64 ud, .string ue, .string uf, .int .i64 ug] fun S1_r3 =>
    StP S1_r3 ⟨b19, 0, none⟩ [.int .i64 uh, .string ui, .bool uj, .slice uk ukn ukc] fun S1_r4 =>
    ∃ um, Cell I1'' S1_r4 ⟨b18, 0, none⟩ (.int .i64 um) ∧
    ∃ un, Cell I1'' S1_r4 ⟨b18, 1, none⟩ (.string un) ∧
    ∃ uo, Cell I1'' S1_r4 ⟨b18, 2, none⟩ (.string uo) ∧
    ∃ up, Cell I1'' S1_r4 ⟨b18, 3, none⟩ (.int .i64 up) ∧
    ∃ uq, Cell I1'' S1_r4 ⟨b19, 0, none⟩ (.int .i64 uq) ∧
    ∃ ur, Cell I1'' S1_r4 ⟨b19, 1, none⟩ (.string ur) ∧
    ∃ us, Cell I1'' S1_r4 ⟨b19, 2, none⟩ (.bool us) ∧
    ∃ ut utn utc, Cell I1'' S1_r4 ⟨b19, 3, none⟩ (.slice ut utn utc) ∧
    StP S1_r4 x4 [.int .i64 x6, .int .i64 um, .string un, .string uo, .int .i64 up, .int .i64 uq, .string ur, .bool us, .slice ut utn utc] fun S1_r5 =>
    ∃ uu, Cell I1'' S1_r5 x4 (.int .i64 uu) ∧
    ∃ uv, Cell I1'' S1_r5 (x4.add 1) (.int .i64 uv) ∧
    ∃ uw, Cell I1'' S1_r5 (x4.add 2) (.string uw) ∧
    ∃ ux, Cell I1'' S1_r5 (x4.add 3) (.string ux) ∧
    ∃ uy, Cell I1'' S1_r5 (x4.add 4) (.int .i64 uy) ∧
    ∃ uz, Cell I1'' S1_r5 (x4.add 5) (.int .i64 uz) ∧
    ∃ u10, Cell I1'' S1_r5 (x4.add 6) (.string u10) ∧
    ∃ u11, Cell I1'' S1_r5 (x4.add 7) (.bool u11) ∧
    ∃ u12 u12n u12c, Cell I1'' S1_r5 (x4.add 8) (.slice u12 u12n u12c) ∧
    R (.tuple #[.agg #[.int .i64 uu, .int .i64 uv, .string uw, .string ux, .int .i64 uy, .int .i64 uz, .string u10, .bool u11, .slice u12 u12n u12c], .bool true]) I1'' S1_r5)
def engine_Engine_Decide_l8 (g3 : engine_Engine_Decide_t3) (g8 : engine_Engine_Decide_t8) (R : RT) (x0 : OA) (x3 x4 : Addr) (x6 : Int) (x7 x8 : Addr) (x9 : Bool) (x24 : OA) (x24n x24c : Nat) (x25 x26 : Int) (x42 : OA) (x42n x42c : Nat) (x43 x44 : Int) (I : IMem) (S : SH) : Prop :=
  bcase (decide (x44 < x43))
    (engine_Engine_Decide_b9 g3 g8 R x0 x3 x4 x6 x7 x8 x9 x24 x24n x24c x25 x26 x42 x42n x42c x43 x44 I S)
    (engine_Engine_Decide_b14 g3 R x0 x3 x4 x6 x7 x8 x9 x24 x24n x24c x25 x26 I S)
def engine_Engine_Decide_b7 (g3 : engine_Engine_Decide_t3) (R : RT) (x0 : OA) (x3 x4 : Addr) (x6 : Int) (x7 x8 : Addr) (x9 : Bool) (x24 : OA) (x24n x24c : Nat) (x25 x26 : Int) (x42 : OA) (x42n x42c : Nat) (x43 x44 : Int) (I : IMem) (S : SH) : Prop :=
  ∃ (Inv : Nat → engine_Engine_Decide_t8) (m : Nat), Inv m x0 x3 x4 x6 x7 x8 x9 x24 x24n x24c x25 x26 x42 x42n x42c x43 x44 I S ∧
    ∀ (m : Nat) (x0 : OA) (x3 x4 : Addr) (x6 : Int) (x7 x8 : Addr) (x9 : Bool) (x24 : OA) (x24n x24c : Nat) (x25 x26 : Int) (x42 : OA) (x42n x42c : Nat) (x43 x44 : Int) (J : IMem) (T : SH), I.le J → Inv m x0 x3 x4 x6 x7 x8 x9 x24 x24n x24c x25 x26 x42 x42n x42c x43 x44 J T →
      engine_Engine_Decide_l8 g3 (fun x0 x3 x4 x6 x7 x8 x9 x24 x24n x24c x25 x26 x42 x42n x42c x43 x44 I S => ∃ m', m' < m ∧ Inv m' x0 x3 x4 x6 x7 x8 x9 x24 x24n x24c x25 x26 x42 x42n x42c x43 x44 I S) R x0 x3 x4 x6 x7 x8 x9 x24 x24n x24c x25 x26 x42 x42n x42c x43 x44 J T
def engine_Engine_Decide_b6 (g3 : engine_Engine_Decide_t3) (R : RT) (x0 : OA) (x3 x4 : Addr) (x6 : Int) (x7 x8 : Addr) (x9 : Bool) (x24 : OA) (x24n x24c : Nat) (x25 x26 : Int) (I : IMem) (S : SH) : Prop :=
  ptrP x0 fun u0 =>
  ∃ u1 u1n u1c, Cell I S (u0.add 1) (.slice u1 u1n u1c) ∧
  ptrP u1 fun u2 => (0 : Int) ≤ x6 ∧ x6 < (u1n : Int) ∧
  ∃ u3, Cell I S (u2.add (x6.toNat * 1)) (.pointer u3) ∧
  ∃ u4, Cell I S x3 (.string u4) ∧
  ∃ u5, Cell I S (x3.add 1) (.string u5) ∧
  ∃ u6 u6n u6c, Cell I S (x3.add 2) (.slice u6 u6n u6c) ∧
  ∃ u7 u7n u7c, Cell I S (x3.add 3) (.slice u7 u7n u7c) ∧
  ∃ u8 u8n u8c, Cell I S (x3.add 4) (.slice u8 u8n u8c) ∧
  Runs Tryz.prog 31 #[.pointer u3, .agg #[.string u4, .string u5, .slice u6 u6n u6c, .slice u7 u7n u7c, .slice u8 u8n u8c]] I S fun v I1 S1 => ∃ u9 u9n u9c, v = .slice u9 u9n u9c ∧
  engine_Engine_Decide_b7 g3 R x0 x3 x4 x6 x7 x8 x9 x24 x24n x24c x25 x26 u9 u9n u9c (u9n : Int) 0 I1 S1
def engine_Engine_Decide_b4 (g3 : engine_Engine_Decide_t3) (R : RT) (x0 : OA) (x3 x4 : Addr) (x24 : OA) (x24n x24c : Nat) (x25 x26 : Int) (I : IMem) (S : SH) : Prop :=
  ptrP x24 fun u0 => (0 : Int) ≤ x26 ∧ x26 < (x24n : Int) ∧
  ∃ u1, Cell I S (u0.add (x26.toNat * 4)) (.string u1) ∧
  ∃ u2 u2n u2c, Cell I S ((u0.add (x26.toNat * 4)).add 1) (.slice u2 u2n u2c) ∧
  ∃ u3, Cell I S ((u0.add (x26.toNat * 4)).add 2) (.bool u3) ∧
  ∃ u4, Cell I S ((u0.add (x26.toNat * 4)).add 3) (.int .i64 u4) ∧
  ∀ b7 : Nat,
  StP ((b7, .cells #[.string ⟨#[]⟩, .slice none 0 0, .bool false, .int .i64 0] 65 (0, 0)) :: S) ⟨b7, 0, none⟩ [.string u1, .slice u2 u2n u2c, .bool u3, .int .i64 u4] fun S1 =>
  ∃ u5, Cell I S1 ⟨b7, 2, none⟩ (.bool u5) ∧
  bcase (!u5)
    (engine_Engine_Decide_b5 g3 R x0 x3 x4 x24 x24n x24c x25 x26 I S1)
    (∀ b8 : Nat,
    engine_Engine_Decide_b6 g3 R x0 x3 x4 x26 ⟨b7, 0, none⟩ ⟨b8, 0, none⟩ false x24 x24n x24c x25 x26 I ((b8, .cells #[.int .i64 0, .string ⟨#[]⟩, .string ⟨#[]⟩, .int .i64 0] 44 (0, 0)) :: S1))
def engine_Engine_Decide_b15 (R : RT) (x4 : Addr) (I : IMem) (S : SH) : Prop :=
  StP S x4 [.int .i64 0, .int .i64 0, .string ⟨#[]⟩, .string ⟨#[]⟩, .int .i64 0, .int .i64 0, .string ⟨#[]⟩, .bool false, .slice none 0 0] fun S1 =>
  ∃ u0, Cell I S1 x4 (.int .i64 u0) ∧
  ∃ u1, Cell I S1 (x4.add 1) (.int .i64 u1) ∧
  ∃ u2, Cell I S1 (x4.add 2) (.string u2) ∧
  ∃ u3, Cell I S1 (x4.add 3) (.string u3) ∧
  ∃ u4, Cell I S1 (x4.add 4) (.int .i64 u4) ∧
  ∃ u5, Cell I S1 (x4.add 5) (.int .i64 u5) ∧
  ∃ u6, Cell I S1 (x4.add 6) (.string u6) ∧
  ∃ u7, Cell I S1 (x4.add 7) (.bool u7) ∧
  ∃ u8 u8n u8c, Cell I S1 (x4.add 8) (.slice u8 u8n u8c) ∧
  R (.tuple #[.agg #[.int .i64 u0, .int .i64 u1, .string u2, .string u3, .int .i64 u4, .int .i64 u5, .string u6, .bool u7, .slice u8 u8n u8c], .bool false]) I S1
def engine_Engine_Decide_l3 (g3 : engine_Engine_Decide_t3) (R : RT) (x0 : OA) (x3 x4 : Addr) (x24 : OA) (x24n x24c : Nat) (x25 x26 : Int) (I : IMem) (S : SH) : Prop :=
  bcase (decide (x26 < x25))
    (engine_Engine_Decide_b4 g3 R x0 x3 x4 x24 x24n x24c x25 x26 I S)
    (engine_Engine_Decide_b15 R x4 I S)
def engine_Engine_Decide_b2 (R : RT) (x0 : OA) (x3 x4 : Addr) (x24 : OA) (x24n x24c : Nat) (x25 x26 : Int) (I : IMem) (S : SH) : Prop :=
  ∃ (Inv : Nat → engine_Engine_Decide_t3) (m : Nat), Inv m x0 x3 x4 x24 x24n x24c x25 x26 I S ∧
    ∀ (m : Nat) (x0 : OA) (x3 x4 : Addr) (x24 : OA) (x24n x24c : Nat) (x25 x26 : Int) (J : IMem) (T : SH), I.le J → Inv m x0 x3 x4 x24 x24n x24c x25 x26 J T →
      engine_Engine_Decide_l3 (fun x0 x3 x4 x24 x24n x24c x25 x26 I S => ∃ m', m' < m ∧ Inv m' x0 x3 x4 x24 x24n x24c x25 x26 I S) R x0 x3 x4 x24 x24n x24c x25 x26 J T
def engine_Engine_Decide_b1 (R : RT) (x0 : OA) (x3 x4 : Addr) (I : IMem) (S : SH) : Prop :=
  ptrP x0 fun u0 =>
  ∃ u1 u1n u1c, Cell I S u0 (.slice u1 u1n u1c) ∧
  engine_Engine_Decide_b2 R x0 x3 x4 u1 u1n u1c (u1n : Int) 0 I S
def engine_Engine_Decide (R : RT) (u0 : OA) (u1 u2 : ByteArray) (u3 : OA) (u3n u3c : Nat) (u4 : OA) (u4n u4c : Nat) (u5 : OA) (u5n u5c : Nat) (I : IMem) (S : SH) : Prop :=
  ∀ b3 : Nat,
  ∀ b4 : Nat,
  engine_Engine_Decide_b1 R u0 ⟨b3, 0, none⟩ ⟨b4, 0, none⟩ I ((b4, .cells #[.int .i64 0, .int .i64 0, .string ⟨#[]⟩, .string ⟨#[]⟩, .int .i64 0, .int .i64 0, .string ⟨#[]⟩, .bool false, .slice none 0 0] 48 (0, 0)) :: ((b3, .cells #[.string u1, .string u2, .slice u3 u3n u3c, .slice u4 u4n u4c, .slice u5 u5n u5c] 53 (0, 0)) :: S))
theorem engine_Engine_Decide_fn (R : RT) (u0 : OA) (u1 u2 : ByteArray) (u3 : OA) (u3n u3c : Nat) (u4 : OA) (u4n u4c : Nat) (u5 : OA) (u5n u5c : Nat) (I : IMem) (S : SH) (h : engine_Engine_Decide R u0 u1 u2 u3 u3n u3c u4 u4n u4c u5 u5n u5c I S) : Runs Tryz.prog 14 #[.pointer u0, .agg #[.string u1, .string u2, .slice u3 u3n u3c, .slice u4 u4n u4c, .slice u5 u5n u5c]] I S R := by
  refine Runs.of_wp (c := cd Tryz.f14) Tryz.func14 (by kernel_rfl) (by kernel_rfl) ?_
  refine cO 1 [kP 0, kA 3, kA 4] (engine_Engine_Decide_b1 R) h fun _ _ _ _ _ _ _ h => ?_
  refine sO [kA 4] (engine_Engine_Decide_b15 R) ?_ fun _ _ _ _ _ h => ?_
  · refine cO 1 [kP 0, kA 3, kA 4, kL 24, kI .i64 25, kI .i64 26] (engine_Engine_Decide_b2 R) h fun _ _ _ _ _ _ _ _ _ _ _ _ h => ?_
    refine bK ?_
    obtain ⟨Vg3, mg3, h, hr⟩ := h
    refine lO [kP 0, kA 3, kA 4, kL 24, kI .i64 25, kI .i64 26] Vg3 mg3 h fun mg3 _ I S hle x0 x3 x4 x24 x24n x24c x25 x26 h => ?_
    have h := hr mg3 x0 x3 x4 x24 x24n x24c x25 x26 I S hle h
    refine cO 2 [kP 0, kA 3, kA 4, kL 24, kI .i64 25, kI .i64 26] (engine_Engine_Decide_b4 (fun x0 x3 x4 x24 x24n x24c x25 x26 I S => ∃ m', m' < mg3 ∧ Vg3 m' x0 x3 x4 x24 x24n x24c x25 x26 I S) R) h fun _ _ _ _ _ _ _ _ _ _ _ _ h => ?_
    refine sO [kP 0, kA 3, kA 4, kL 24, kI .i64 25, kI .i64 26] (engine_Engine_Decide_b5 (fun x0 x3 x4 x24 x24n x24c x25 x26 I S => ∃ m', m' < mg3 ∧ Vg3 m' x0 x3 x4 x24 x24n x24c x25 x26 I S) R) ?_ fun _ _ _ _ _ _ _ _ _ _ _ _ h => ?_
    · refine bK ?_
      refine cO 4 [kP 0, kA 3, kA 4, kI .i64 6, kA 7, kA 8, kB 9, kL 24, kI .i64 25, kI .i64 26] (engine_Engine_Decide_b6 (fun x0 x3 x4 x24 x24n x24c x25 x26 I S => ∃ m', m' < mg3 ∧ Vg3 m' x0 x3 x4 x24 x24n x24c x25 x26 I S) R) h fun _ _ _ _ _ _ _ _ _ _ _ _ _ _ _ _ h => ?_
      refine sO [kP 0, kA 3, kA 4, kI .i64 6, kA 7, kA 8, kB 9, kL 24, kI .i64 25, kI .i64 26] (engine_Engine_Decide_b14 (fun x0 x3 x4 x24 x24n x24c x25 x26 I S => ∃ m', m' < mg3 ∧ Vg3 m' x0 x3 x4 x24 x24n x24c x25 x26 I S) R) ?_ fun _ _ _ _ _ _ _ _ _ _ _ _ _ _ _ _ h => ?_
      · refine sO [kP 0, kA 3, kA 4, kI .i64 6, kA 7, kA 8, kB 9, kL 24, kI .i64 25, kI .i64 26, kL 42, kI .i64 43, kI .i64 44] (engine_Engine_Decide_b7 (fun x0 x3 x4 x24 x24n x24c x25 x26 I S => ∃ m', m' < mg3 ∧ Vg3 m' x0 x3 x4 x24 x24n x24c x25 x26 I S) R) (dR (tk 8 0 (.take 10 (.step 8 (.take 9 .done)))) [8] h) fun _ _ _ _ _ _ _ _ _ _ _ _ _ _ _ _ _ _ _ _ _ h => ?_
        refine bK ?_
        obtain ⟨Vg8, mg8, h, hr⟩ := h
        refine lO [kP 0, kA 3, kA 4, kI .i64 6, kA 7, kA 8, kB 9, kL 24, kI .i64 25, kI .i64 26, kL 42, kI .i64 43, kI .i64 44] Vg8 mg8 h fun mg8 _ I S hle x0 x3 x4 x6 x7 x8 x9 x24 x24n x24c x25 x26 x42 x42n x42c x43 x44 h => ?_
        have h := hr mg8 x0 x3 x4 x6 x7 x8 x9 x24 x24n x24c x25 x26 x42 x42n x42c x43 x44 I S hle h
        refine cO 2 [kP 0, kA 3, kA 4, kI .i64 6, kA 7, kA 8, kB 9, kL 24, kI .i64 25, kI .i64 26, kL 42, kI .i64 43, kI .i64 44] (engine_Engine_Decide_b9 (fun x0 x3 x4 x24 x24n x24c x25 x26 I S => ∃ m', m' < mg3 ∧ Vg3 m' x0 x3 x4 x24 x24n x24c x25 x26 I S) (fun x0 x3 x4 x6 x7 x8 x9 x24 x24n x24c x25 x26 x42 x42n x42c x43 x44 I S => ∃ m', m' < mg8 ∧ Vg8 m' x0 x3 x4 x6 x7 x8 x9 x24 x24n x24c x25 x26 x42 x42n x42c x43 x44 I S) R) h fun _ _ _ _ _ _ _ _ _ _ _ _ _ _ _ _ _ _ _ _ _ h => ?_
        refine sO [kP 0, kA 3, kA 4, kI .i64 6, kA 7, kA 8, kB 9, kL 24, kI .i64 25, kI .i64 26, kL 42, kI .i64 43, kI .i64 44] (engine_Engine_Decide_b13 (fun x0 x3 x4 x24 x24n x24c x25 x26 I S => ∃ m', m' < mg3 ∧ Vg3 m' x0 x3 x4 x24 x24n x24c x25 x26 I S) (fun x0 x3 x4 x6 x7 x8 x9 x24 x24n x24c x25 x26 x42 x42n x42c x43 x44 I S => ∃ m', m' < mg8 ∧ Vg8 m' x0 x3 x4 x6 x7 x8 x9 x24 x24n x24c x25 x26 x42 x42n x42c x43 x44 I S) R) ?_ fun _ _ _ _ _ _ _ _ _ _ _ _ _ _ _ _ _ _ _ _ _ h => ?_
        · refine bK ?_
          refine cO 1 [kP 0, kA 3, kA 4, kI .i64 6, kA 7, kA 8, kB 9, kA 11, kL 24, kI .i64 25, kI .i64 26, kL 42, kI .i64 43, kI .i64 44] (engine_Engine_Decide_b10 (fun x0 x3 x4 x24 x24n x24c x25 x26 I S => ∃ m', m' < mg3 ∧ Vg3 m' x0 x3 x4 x24 x24n x24c x25 x26 I S) (fun x0 x3 x4 x6 x7 x8 x9 x24 x24n x24c x25 x26 x42 x42n x42c x43 x44 I S => ∃ m', m' < mg8 ∧ Vg8 m' x0 x3 x4 x6 x7 x8 x9 x24 x24n x24c x25 x26 x42 x42n x42c x43 x44 I S) R) h fun _ _ _ _ _ _ _ _ _ _ _ _ _ _ _ _ _ _ _ _ _ _ h => ?_
          refine sO [kP 0, kA 3, kA 4, kI .i64 6, kA 7, kA 8, kB 9, kA 11, kZ 12, kZ 13, kL 24, kI .i64 25, kI .i64 26, kL 42, kI .i64 43, kI .i64 44] (engine_Engine_Decide_b11 (fun x0 x3 x4 x24 x24n x24c x25 x26 I S => ∃ m', m' < mg3 ∧ Vg3 m' x0 x3 x4 x24 x24n x24c x25 x26 I S) (fun x0 x3 x4 x6 x7 x8 x9 x24 x24n x24c x25 x26 x42 x42n x42c x43 x44 I S => ∃ m', m' < mg8 ∧ Vg8 m' x0 x3 x4 x6 x7 x8 x9 x24 x24n x24c x25 x26 x42 x42n x42c x43 x44 I S) R) (dR (.take 0 (.take 1 (.take 3 (.take 4 (.step 2 (.step 5 (.take 6 (.take 7 .done)))))))) [2, 5] h) fun _ _ _ _ _ _ _ _ _ _ _ _ _ _ _ _ _ _ _ _ _ _ _ _ _ _ h => ?_
          refine cO 1 [kP 0, kA 3, kA 4, kI .i64 6, kA 7, kA 8, kB 9, kA 11, kL 24, kI .i64 25, kI .i64 26, kL 42, kI .i64 43, kI .i64 44, kB 70] (engine_Engine_Decide_b12 (fun x0 x3 x4 x24 x24n x24c x25 x26 I S => ∃ m', m' < mg3 ∧ Vg3 m' x0 x3 x4 x24 x24n x24c x25 x26 I S) (fun x0 x3 x4 x6 x7 x8 x9 x24 x24n x24c x25 x26 x42 x42n x42c x43 x44 I S => ∃ m', m' < mg8 ∧ Vg8 m' x0 x3 x4 x6 x7 x8 x9 x24 x24n x24c x25 x26 x42 x42n x42c x43 x44 I S) R) h fun _ _ _ _ _ _ _ _ _ _ _ _ _ _ _ _ _ _ _ _ _ _ _ h => ?_
          exact pS h
        exact pS h
      exact pS h
    exact pS h
  exact pS h
def engine_Engine_Policies (R : RT) (u0 : OA) (I : IMem) (S : SH) : Prop :=
  ptrP u0 fun u1 =>
  ∃ u2 u2n u2c, Cell I S u1 (.slice u2 u2n u2c) ∧
  AppG 65 4 56 [.string ⟨#[]⟩, .slice none 0 0, .bool false, .int .i64 0] (some (.slice 65)) I S (.slice none 0 0) (.slice u2 u2n u2c) fun u3 u3n u3c S1 =>
  R (.slice u3 u3n u3c) I S1
theorem engine_Engine_Policies_fn (R : RT) (u0 : OA) (I : IMem) (S : SH) (h : engine_Engine_Policies R u0 I S) : Runs Tryz.prog 18 #[.pointer u0] I S R := by
  refine Runs.of_wp (c := cd Tryz.f18) Tryz.func18 (by kernel_rfl) (by kernel_rfl) ?_
  exact pS h
abbrev engine_Engine_Sizes_t3 := OA → Nat → Nat → OA → Nat → Nat → Int → Int → PR
def engine_Engine_Sizes_b4 (R : RT) (x3 : OA) (x3n x3c : Nat) (I : IMem) (S : SH) : Prop :=
  R (.slice x3 x3n x3c) I S
def engine_Engine_Sizes_l3 (g3 : engine_Engine_Sizes_t3) (R : RT) (x3 : OA) (x3n x3c : Nat) (x9 : OA) (x9n x9c : Nat) (x10 x11 : Int) (I : IMem) (S : SH) : Prop :=
  bcase (decide (x11 < x10))
    (ptrP x9 fun u0 => (0 : Int) ≤ x11 ∧ x11 < (x9n : Int) ∧
    ∃ u1, Cell I S (u0.add (x11.toNat * 1)) (.pointer u1) ∧
    Runs Tryz.prog 40 #[.pointer u1] I S fun v I1 S1 => ∃ u2, v = .int .i64 u2 ∧
    ∀ b18 : Nat,
    AppG 3 1 8 [.int .i64 0] (some (.slice 3)) I1 ((b18, .cells #[.int .i64 u2] 3 (0, 0)) :: S1) (.slice x3 x3n x3c) (.slice (some ⟨b18, 0, none⟩) 1 1) fun u3 u3n u3c S1' =>
    g3 u3 u3n u3c x9 x9n x9c x10 (IntKind.wrap .i64 (x11 + (1 : Int))) I1 S1')
    (engine_Engine_Sizes_b4 R x3 x3n x3c I S)
def engine_Engine_Sizes_b2 (R : RT) (x3 : OA) (x3n x3c : Nat) (x9 : OA) (x9n x9c : Nat) (x10 x11 : Int) (I : IMem) (S : SH) : Prop :=
  ∃ (Inv : Nat → engine_Engine_Sizes_t3) (m : Nat), Inv m x3 x3n x3c x9 x9n x9c x10 x11 I S ∧
    ∀ (m : Nat) (x3 : OA) (x3n x3c : Nat) (x9 : OA) (x9n x9c : Nat) (x10 x11 : Int) (J : IMem) (T : SH), I.le J → Inv m x3 x3n x3c x9 x9n x9c x10 x11 J T →
      engine_Engine_Sizes_l3 (fun x3 x3n x3c x9 x9n x9c x10 x11 I S => ∃ m', m' < m ∧ Inv m' x3 x3n x3c x9 x9n x9c x10 x11 I S) R x3 x3n x3c x9 x9n x9c x10 x11 J T
def engine_Engine_Sizes_b1 (R : RT) (x0 x3 : OA) (x3n x3c : Nat) (I : IMem) (S : SH) : Prop :=
  ptrP x0 fun u0 =>
  ∃ u1 u1n u1c, Cell I S (u0.add 1) (.slice u1 u1n u1c) ∧
  engine_Engine_Sizes_b2 R x3 x3n x3c u1 u1n u1c (u1n : Int) 0 I S
def engine_Engine_Sizes (R : RT) (u0 : OA) (I : IMem) (S : SH) : Prop :=
  engine_Engine_Sizes_b1 R u0 none 0 0 I S
theorem engine_Engine_Sizes_fn (R : RT) (u0 : OA) (I : IMem) (S : SH) (h : engine_Engine_Sizes R u0 I S) : Runs Tryz.prog 17 #[.pointer u0] I S R := by
  refine Runs.of_wp (c := cd Tryz.f17) Tryz.func17 (by kernel_rfl) (by kernel_rfl) ?_
  refine cO 2 [kP 0, kL 3] (engine_Engine_Sizes_b1 R) h fun _ _ _ _ _ _ _ _ h => ?_
  refine sO [kL 3] (engine_Engine_Sizes_b4 R) ?_ fun _ _ _ _ _ _ _ h => ?_
  · refine cO 1 [kL 3, kL 9, kI .i64 10, kI .i64 11] (engine_Engine_Sizes_b2 R) h fun _ _ _ _ _ _ _ _ _ _ _ _ h => ?_
    refine bK ?_
    obtain ⟨Vg3, mg3, h, hr⟩ := h
    refine lO [kL 3, kL 9, kI .i64 10, kI .i64 11] Vg3 mg3 h fun mg3 _ I S hle x3 x3n x3c x9 x9n x9c x10 x11 h => ?_
    have h := hr mg3 x3 x3n x3c x9 x9n x9c x10 x11 I S hle h
    exact pS h
  exact pS h
end Go.Proofs.YtoiilcdaldnjfaaGreatDoor
/- index.Addr; IndexNone: a trigger that has no name is not put in; nothing is found of what is no address. -/
namespace Go.Proofs.YtoiilcdaldnjfaaGreatDoor
open Go.Px
set_option linter.unusedVariables false
set_option linter.unusedSimpArgs false
set_option maxRecDepth 8000

theorem cut_all (a : ByteArray) : cutB a (8 * a.size) = a := by
  have : a.data.toList.length = a.size := Array.length_toList
  apply ext_list
  show cutL a.data.toList (8 * a.size) = a.data.toList
  rw [cutL, this, Nat.sub_self]; rfl
def addrV (sh : Tr.Sh) (kind : Int) (a : ByteArray) : Option (Int × Tg) := if a.size = 4 ∨ a.size = 16 then (sh.walk (bitsL a (8 * a.size)) 0 none).map (fun p => (p.1, (kind, ⟨#[]⟩, cutB a p.2, (p.2 : Int)))) else none
theorem addr_zero {b7 : Nat} {x : Tg} {F T : SH} {J : IMem} {r : Option (Int × Tg)} (hr : r = none) {Q : Value → SH → Prop} (hs : Sub (tgB b7 x :: F) T) (hQ : ∀ T', Sub F T' → Q (resN r) T') :
    StP T ⟨b7, 0, none⟩ [.int .i64 0, .string ⟨#[]⟩, .string ⟨#[]⟩, .int .i64 0] fun S1 => ∃ u0, Cell J S1 ⟨b7, 0, none⟩ (.int .i64 u0) ∧ ∃ u1, Cell J S1 ((⟨b7, 0, none⟩ : Addr).add 1) (.string u1) ∧ ∃ u2, Cell J S1 ((⟨b7, 0, none⟩ : Addr).add 2) (.string u2) ∧ ∃ u3, Cell J S1 ((⟨b7, 0, none⟩ : Addr).add 3) (.int .i64 u3) ∧ Q (.tuple #[.int .i64 0, .agg #[.int .i64 u0, .string u1, .string u2, .int .i64 u3], .bool false]) S1 := by
  subst hr
  refine put_tg (x := x) (t := t0) hs fun T' hT' => ?_
  obtain ⟨c0, c1, c2, _, c3⟩ := tgX (I := J) hT'
  exact ⟨_, c0, _, c1, _, c2, _, c3, hQ T' hT'.drop⟩
theorem IAddr_runs {xb n c : Nat} {V : Tg → Option Int} {own F S : SH} {I : IMem} (h : IxS xb V n c own) (hs : Sub (own ++ F) S) (kind : Int) (a : ByteArray) (ha : a.size ≤ 140737488355328) :
    Runs Tryz.prog 61 #[.pointer (some ⟨xb, 0, none⟩), .int .i64 kind, .string a] I S fun v _ T => (∃ sh : Tr.Sh, sh.wf ∧ (∀ l u, sh.find l = some u ↔ ∃ t, ipK t.1 = true ∧ t.1 = kind ∧ (t.2.2.1.size : Int) = (a.size : Int) ∧ bitsL t.2.2.1 t.2.2.2.toNat = l ∧ V t = some u) ∧ v = resN (addrV sh kind a)) ∧ Sub (own ++ F) T := by
  obtain ⟨M, L, hO, hI, rfl⟩ := h
  have hO' := hO
  obtain ⟨xm, tb, o1, o2, hT, hTI, hn, hnd, hL, rfl⟩ := hO'
  have hspec : ∀ l u, (shT L kind (a.size : Int)).find l = some u ↔ ∃ t, ipK t.1 = true ∧ t.1 = kind ∧ (t.2.2.1.size : Int) = (a.size : Int) ∧ bitsL t.2.2.1 t.2.2.2.toNat = l ∧ V t = some u := fun l u => hI.pre kind _ l u
  have hwf : (shT L kind (a.size : Int)).wf := by
    unfold shT
    cases hx : lookT L kind (a.size : Int) with
    | none => exact trivial
    | some x =>
      obtain ⟨_, _, _, _, _, _, _, _, _, _, _, hw, _⟩ := hL.split hx
      exact hw
  refine index_Index_Addr_fn _ _ _ _ _ _ ?_
  unfold index_Index_Addr
  intro b7
  have hsB : Sub (tgB b7 t0 :: ((o1 ++ (xm, .map (esOf L) L.length) :: o2) ++ F)) ((b7, .cells #[.int .i64 0, .string ⟨#[]⟩, .string ⟨#[]⟩, .int .i64 0] 44 (0, 0)) :: S) := hs.cons _
  rw [wrap_i64 (by omega) (by omega)]
  refine (Cut_runs _ _ _ _).mono ?_
  rintro v J1 T1 hle1 ⟨rfl, rfl⟩
  have e8 : ((8 : Int) * (a.size : Int)).toNat = 8 * a.size := by omega
  have hcut : ∃ p q b, cutV a (8 * (a.size : Int)) = .tuple #[.agg #[.string p, .int .i64 q], .bool b] ∧ (b = true ↔ a.size = 4 ∨ a.size = 16) ∧ (b = true → p = a ∧ q = 8 * (a.size : Int)) := by
    unfold cutV
    by_cases hc : okC a (8 * (a.size : Int))
    · rw [if_pos hc]
      exact ⟨_, _, true, rfl, ⟨fun _ => hc.1, fun _ => rfl⟩, fun _ => ⟨by rw [e8, cut_all], rfl⟩⟩
    · rw [if_neg hc]
      exact ⟨_, _, false, rfl, ⟨fun h => (by cases h), fun h => absurd ⟨h, by omega, by omega⟩ hc⟩, fun h => (by cases h)⟩
  obtain ⟨p, q, b, hcv, hb, hpq⟩ := hcut
  rw [hcv]
  refine ⟨_, _, _, rfl, fun b9 => StP.all (vs := [.string p, .int .i64 q]) rfl rfl ?_⟩
  have hs2 : Sub (o1 ++ ((xm, .map (esOf L) L.length) :: (o2 ++ (tgB b7 t0 :: (pfB b9 p q :: F))))) (pfB b9 p q :: (b7, .cells #[.int .i64 0, .string ⟨#[]⟩, .string ⟨#[]⟩, .int .i64 0] 44 (0, 0)) :: S) :=
    (hsB.cons (pfB b9 p q)).re (by intro a; simp only [cnt_cons, cnt_app]; omega)
  have hm : MpC J1 _ xm (esOf L) L.length := MpC.of_sub hs2.right
  refine ⟨_, tab_cell hT hs2, ?_⟩
  have done : ∀ {T : SH}, Sub ((o1 ++ (xm, .map (esOf L) L.length) :: o2) ++ (pfB b9 p q :: F)) T → Sub ((o1 ++ (xm, .map (esOf L) L.length) :: o2) ++ F) T := fun h => (h.re (by intro a; simp only [cnt_cons, cnt_app, cnt_nil]; omega) : Sub (((o1 ++ (xm, .map (esOf L) L.length) :: o2) ++ F) ++ [pfB b9 p q]) _).left
  have hs3 : Sub (tgB b7 t0 :: ((o1 ++ (xm, .map (esOf L) L.length) :: o2) ++ (pfB b9 p q :: F))) (pfB b9 p q :: (b7, .cells #[.int .i64 0, .string ⟨#[]⟩, .string ⟨#[]⟩, .int .i64 0] 44 (0, 0)) :: S) := hs2.re (by intro a; simp only [cnt_cons, cnt_app]; omega)
  -- nothing
  have none2 : ∀ (x11 : OA), addrV (shT L kind (a.size : Int)) kind a = none → index_Index_Addr_b2 (fun v _ T => (∃ sh : Tr.Sh, sh.wf ∧ (∀ l u, sh.find l = some u ↔ ∃ t, ipK t.1 = true ∧ t.1 = kind ∧ (t.2.2.1.size : Int) = (a.size : Int) ∧ bitsL t.2.2.1 t.2.2.2.toNat = l ∧ V t = some u) ∧ v = resN (addrV sh kind a)) ∧ Sub ((o1 ++ (xm, .map (esOf L) L.length) :: o2) ++ F) T) kind a ⟨b7, 0, none⟩ ⟨b9, 0, none⟩ x11 true J1 (pfB b9 p q :: (b7, .cells #[.int .i64 0, .string ⟨#[]⟩, .string ⟨#[]⟩, .int .i64 0] 44 (0, 0)) :: S) := by
    intro x11 hr
    unfold index_Index_Addr_b2
    exact bcase_t rfl (addr_zero (x := t0) (r := none) rfl (Q := fun v T => (∃ sh : Tr.Sh, sh.wf ∧ (∀ l u, sh.find l = some u ↔ ∃ t, ipK t.1 = true ∧ t.1 = kind ∧ (t.2.2.1.size : Int) = (a.size : Int) ∧ bitsL t.2.2.1 t.2.2.2.toNat = l ∧ V t = some u) ∧ v = resN (addrV sh kind a)) ∧ Sub ((o1 ++ (xm, .map (esOf L) L.length) :: o2) ++ F) T) hs3 fun T' hT' => ⟨⟨_, hwf, hspec, by rw [hr]⟩, done hT'⟩)
  have bad : b = false → addrV (shT L kind (a.size : Int)) kind a = none := fun h => by
    unfold addrV
    rw [if_neg (fun g => by rw [hb.2 g] at h; cases h)]
  rcases look_at rfl hm (k := kind) (s := (a.size : Int)) with ⟨x, hx, hat⟩ | ⟨hx, hat⟩
  · refine ⟨_, true, hat, ?_⟩
    unfold index_Index_Addr_b1
    refine bcase_not (bcase_of (fun hbt => ?_) (fun hbf => none2 _ (bad hbf)))
    obtain ⟨rfl, rfl⟩ := hpq hbt
    have hsz := hb.1 hbt
    have hshx : shT L kind (p.size : Int) = x.t := by unfold shT; rw [hx]; rfl
    unfold index_Index_Addr_b2 index_Index_Addr_b3
    have hpf : Sub (pfB b9 p (8 * (p.size : Int)) :: (o1 ++ ((xm, .map (esOf L) L.length) :: (o2 ++ (tgB b7 t0 :: F))))) (pfB b9 p (8 * (p.size : Int)) :: (b7, .cells #[.int .i64 0, .string ⟨#[]⟩, .string ⟨#[]⟩, .int .i64 0] 44 (0, 0)) :: S) := hs2.re (by intro a; simp only [cnt_cons, cnt_app]; omega)
    refine bcase_f rfl ⟨_, Cell.among hpf rfl, _, Cell.at_ (add_mk _ _ _) (Cell.among hpf rfl), (Key_runs (a := p) (n := 8 * (p.size : Int)) ⟨⟨hsz, by omega, by omega⟩, by rw [e8, cut_all]⟩ _ _).mono ?_⟩
    rintro v J2 T2 hle2 ⟨rfl, hs4⟩
    rw [e8]
    obtain ⟨L1, L2, oA, ox, oB, hLL, _, _, _, hA, hxO, hxw, hxl, hB, rfl⟩ := hL.split hx
    have hs5 : Sub (ox ++ (o1 ++ ((xm, .map (esOf L) L.length) :: ((oA ++ oB) ++ (tgB b7 t0 :: (pfB b9 p (8 * (p.size : Int)) :: F)))))) T2 := (hs2.trans hs4).re (by intro a; simp only [cnt_cons, cnt_app]; omega)
    refine ⟨_, rfl, (Runs_fr (R := fun w o => w = .tuple (Tr.encL (x.t.walk (bitsL p (8 * p.size)) 0 none)) ∧ o = ox) hs5 (fun F' => (Tr.Longest_runs x.b x.t ox hxO (bitsL p (8 * p.size)) (by rw [bitsL_len]; omega) _ F').mono ?_)).mono ?_⟩
    · rintro w J T hle ⟨rfl, rfl⟩
      exact ⟨ox, ⟨rfl, rfl⟩, rfl⟩
    rintro w J3 T3 hle3 ⟨o, ⟨rfl, ho⟩, hs6⟩
    rw [ho] at hs6
    have hs7 : Sub (tgB b7 t0 :: ((o1 ++ (xm, .map (esOf L) L.length) :: (oA ++ (ox ++ oB))) ++ (pfB b9 p (8 * (p.size : Int)) :: F))) T3 := hs6.re (by intro a; simp only [cnt_cons, cnt_app]; omega)
    have hav : addrV (shT L kind (p.size : Int)) kind p = (x.t.walk (bitsL p (8 * p.size)) 0 none).map (fun q => (q.1, (kind, ⟨#[]⟩, cutB p q.2, (q.2 : Int)))) := by
      unfold addrV
      rw [if_pos hsz, hshx]
    have hIsL := Tr.IsL.of hxw (bitsL p (8 * p.size))
    cases hwk : x.t.walk (bitsL p (8 * p.size)) 0 none with
    | none =>
      rw [hwk] at hav
      have hr : addrV (shT L kind (p.size : Int)) kind p = none := hav
      refine ⟨_, _, _, rfl, bcase_t rfl ?_⟩
      exact addr_zero (x := t0) (r := none) rfl (Q := fun v T => (∃ sh : Tr.Sh, sh.wf ∧ (∀ l u, sh.find l = some u ↔ ∃ t, ipK t.1 = true ∧ t.1 = kind ∧ (t.2.2.1.size : Int) = (p.size : Int) ∧ bitsL t.2.2.1 t.2.2.2.toNat = l ∧ V t = some u) ∧ v = resN (addrV sh kind p)) ∧ Sub ((o1 ++ (xm, .map (esOf L) L.length) :: (oA ++ (ox ++ oB))) ++ F) T) hs7 fun T' hT' => ⟨⟨_, hwf, hspec, by rw [hr]⟩, done hT'⟩
    | some vn =>
      obtain ⟨v, m⟩ := vn
      rw [hwk] at hav hIsL
      have hml : m ≤ 8 * p.size := by have := (hIsL.yes v m rfl).1; rwa [bitsL_len] at this
      refine ⟨_, _, _, rfl, bcase_f rfl ((Cut_runs p (m : Int) _ _).mono ?_)⟩
      rintro w J4 T4 hle4 ⟨rfl, rfl⟩
      have hokm : okC p (m : Int) := ⟨hsz, by omega, by omega⟩
      rw [cutV, if_pos hokm, Int.toNat_natCast]
      refine ⟨_, _, _, rfl, fun b15 => StP.all (vs := [.string (cutB p m), .int .i64 (m : Int)]) rfl rfl ?_⟩
      unfold index_Index_Addr_b4 index_Index_Addr_b5
      refine ⟨_, Cell.at0 rfl, _, Cell.at_ (add_mk _ _ _) (Cell.at0 rfl), ?_⟩
      refine put_tg (x := t0) (t := (kind, ⟨#[]⟩, cutB p m, (m : Int))) (hs7.skip _) fun T' hT' => ?_
      obtain ⟨c0, c1, c2, _, c3⟩ := tgX (I := J4) hT'
      refine ⟨_, c0, _, c1, _, c2, _, c3, ⟨_, hwf, hspec, ?_⟩, done hT'.drop⟩
      rw [hav]; rfl
  · refine ⟨_, false, hat, ?_⟩
    have hr : addrV (shT L kind (a.size : Int)) kind a = none := by
      unfold addrV shT
      rw [hx]
      split <;> rfl
    unfold index_Index_Addr_b1
    exact bcase_not (bcase_of (fun _ => none2 _ hr) (fun _ => none2 _ hr))
end Go.Proofs.YtoiilcdaldnjfaaGreatDoor
/- Deletion out of a row of one's own, and out of a zone. -/
namespace Go.Proofs.YtoiilcdaldnjfaaGreatDoor
open Go.Px
set_option linter.unusedVariables false

theorem any_rec {xs : List Rc} {r : Rc} : (xs.any fun x => recB x r) = true ↔ r ∈ xs := by
  rw [List.any_eq_true]
  exact ⟨fun ⟨x, hx, he⟩ => (recB_iff.1 he) ▸ hx, fun h => ⟨r, h, recB_iff.2 rfl⟩⟩
end Go.Proofs.YtoiilcdaldnjfaaGreatDoor
set_option linter.unusedVariables false
set_option maxRecDepth 8000
set_option maxHeartbeats 2000000
namespace Go.Proofs.YtoiilcdaldnjfaaGreatDoor
open Go.Px
abbrev apply_Between_t3 := OA → Nat → Nat → OA → Nat → Nat → OA → Nat → Nat → OA → Nat → Nat → OA → Nat → Nat → Int → Int → PR
def apply_Between_b4 (g3 : apply_Between_t3) (R : RT) (x0 : OA) (x0n x0c : Nat) (x1 : OA) (x1n x1c : Nat) (x6 : OA) (x6n x6c : Nat) (x7 : OA) (x7n x7c : Nat) (x12 : OA) (x12n x12c : Nat) (x13 x14 : Int) (I : IMem) (S : SH) : Prop :=
  g3 x0 x0n x0c x1 x1n x1c x6 x6n x6c x7 x7n x7c x12 x12n x12c x13 (IntKind.wrap .i64 (x14 + (1 : Int))) I S
abbrev apply_Between_t7 := OA → Nat → Nat → OA → Nat → Nat → OA → Nat → Nat → OA → Nat → Nat → Int → Int → PR
def apply_Between_b8 (g7 : apply_Between_t7) (R : RT) (x0 : OA) (x0n x0c : Nat) (x6 : OA) (x6n x6c : Nat) (x7 : OA) (x7n x7c : Nat) (x27 : OA) (x27n x27c : Nat) (x28 x29 : Int) (I : IMem) (S : SH) : Prop :=
  g7 x0 x0n x0c x6 x6n x6c x7 x7n x7c x27 x27n x27c x28 (IntKind.wrap .i64 (x29 + (1 : Int))) I S
def apply_Between_b9 (R : RT) (x6 : OA) (x6n x6c : Nat) (x7 : OA) (x7n x7c : Nat) (I : IMem) (S : SH) : Prop :=
  R (.tuple #[.slice x6 x6n x6c, .slice x7 x7n x7c]) I S
def apply_Between_l7 (g7 : apply_Between_t7) (R : RT) (x0 : OA) (x0n x0c : Nat) (x6 : OA) (x6n x6c : Nat) (x7 : OA) (x7n x7c : Nat) (x27 : OA) (x27n x27c : Nat) (x28 x29 : Int) (I : IMem) (S : SH) : Prop :=
  bcase (decide (x29 < x28))
    (ptrP x27 fun u0 => (0 : Int) ≤ x29 ∧ x29 < (x27n : Int) ∧
    ∃ u1, Cell I S (u0.add (x29.toNat * 4)) (.string u1) ∧
    ∃ u2, Cell I S ((u0.add (x29.toNat * 4)).add 1) (.int .u16 u2) ∧
    ∃ u3, Cell I S ((u0.add (x29.toNat * 4)).add 2) (.int .u32 u3) ∧
    ∃ u4, Cell I S ((u0.add (x29.toNat * 4)).add 3) (.string u4) ∧
    ∀ b11 : Nat,
    StP ((b11, .cells #[.string ⟨#[]⟩, .int .u16 0, .int .u32 0, .string ⟨#[]⟩] 84 (0, 0)) :: S) ⟨b11, 0, none⟩ [.string u1, .int .u16 u2, .int .u32 u3, .string u4] fun S1 =>
    ∃ u5, Cell I S1 ⟨b11, 0, none⟩ (.string u5) ∧
    ∃ u6, Cell I S1 ⟨b11, 1, none⟩ (.int .u16 u6) ∧
    ∃ u7, Cell I S1 ⟨b11, 2, none⟩ (.int .u32 u7) ∧
    ∃ u8, Cell I S1 ⟨b11, 3, none⟩ (.string u8) ∧
    Runs Tryz.prog 51 #[.slice x0 x0n x0c, .agg #[.string u5, .int .u16 u6, .int .u32 u7, .string u8]] I S1 fun v I1 S1' => ∃ u9, v = .bool u9 ∧
    bcase (!u9)
      (∃ ua, Cell I1 S1' ⟨b11, 0, none⟩ (.string ua) ∧
      ∃ ub, Cell I1 S1' ⟨b11, 1, none⟩ (.int .u16 ub) ∧
      ∃ uc, Cell I1 S1' ⟨b11, 2, none⟩ (.int .u32 uc) ∧
      ∃ ud, Cell I1 S1' ⟨b11, 3, none⟩ (.string ud) ∧
      ∀ b39 : Nat,
      AppG 84 4 40 [.string ⟨#[]⟩, .int .u16 0, .int .u32 0, .string ⟨#[]⟩] (some (.slice 84)) I1 ((b39, .cells #[.string ua, .int .u16 ub, .int .u32 uc, .string ud] 84 (0, 0)) :: S1') (.slice x7 x7n x7c) (.slice (some ⟨b39, 0, none⟩) 1 1) fun ue uen uec S1'' =>
      apply_Between_b8 g7 R x0 x0n x0c x6 x6n x6c ue uen uec x27 x27n x27c x28 x29 I1 S1'')
      (apply_Between_b8 g7 R x0 x0n x0c x6 x6n x6c x7 x7n x7c x27 x27n x27c x28 x29 I1 S1'))
    (apply_Between_b9 R x6 x6n x6c x7 x7n x7c I S)
def apply_Between_b6 (R : RT) (x0 : OA) (x0n x0c : Nat) (x6 : OA) (x6n x6c : Nat) (x7 : OA) (x7n x7c : Nat) (x27 : OA) (x27n x27c : Nat) (x28 x29 : Int) (I : IMem) (S : SH) : Prop :=
  ∃ (Inv : Nat → apply_Between_t7) (m : Nat), Inv m x0 x0n x0c x6 x6n x6c x7 x7n x7c x27 x27n x27c x28 x29 I S ∧
    ∀ (m : Nat) (x0 : OA) (x0n x0c : Nat) (x6 : OA) (x6n x6c : Nat) (x7 : OA) (x7n x7c : Nat) (x27 : OA) (x27n x27c : Nat) (x28 x29 : Int) (J : IMem) (T : SH), I.le J → Inv m x0 x0n x0c x6 x6n x6c x7 x7n x7c x27 x27n x27c x28 x29 J T →
      apply_Between_l7 (fun x0 x0n x0c x6 x6n x6c x7 x7n x7c x27 x27n x27c x28 x29 I S => ∃ m', m' < m ∧ Inv m' x0 x0n x0c x6 x6n x6c x7 x7n x7c x27 x27n x27c x28 x29 I S) R x0 x0n x0c x6 x6n x6c x7 x7n x7c x27 x27n x27c x28 x29 J T
def apply_Between_b5 (R : RT) (x0 : OA) (x0n x0c : Nat) (x1 : OA) (x1n x1c : Nat) (x6 : OA) (x6n x6c : Nat) (x7 : OA) (x7n x7c : Nat) (I : IMem) (S : SH) : Prop :=
  apply_Between_b6 R x0 x0n x0c x6 x6n x6c x7 x7n x7c x1 x1n x1c (x1n : Int) 0 I S
def apply_Between_l3 (g3 : apply_Between_t3) (R : RT) (x0 : OA) (x0n x0c : Nat) (x1 : OA) (x1n x1c : Nat) (x6 : OA) (x6n x6c : Nat) (x7 : OA) (x7n x7c : Nat) (x12 : OA) (x12n x12c : Nat) (x13 x14 : Int) (I : IMem) (S : SH) : Prop :=
  bcase (decide (x14 < x13))
    (ptrP x12 fun u0 => (0 : Int) ≤ x14 ∧ x14 < (x12n : Int) ∧
    ∃ u1, Cell I S (u0.add (x14.toNat * 4)) (.string u1) ∧
    ∃ u2, Cell I S ((u0.add (x14.toNat * 4)).add 1) (.int .u16 u2) ∧
    ∃ u3, Cell I S ((u0.add (x14.toNat * 4)).add 2) (.int .u32 u3) ∧
    ∃ u4, Cell I S ((u0.add (x14.toNat * 4)).add 3) (.string u4) ∧
    ∀ b9 : Nat,
    StP ((b9, .cells #[.string ⟨#[]⟩, .int .u16 0, .int .u32 0, .string ⟨#[]⟩] 84 (0, 0)) :: S) ⟨b9, 0, none⟩ [.string u1, .int .u16 u2, .int .u32 u3, .string u4] fun S1 =>
    ∃ u5, Cell I S1 ⟨b9, 0, none⟩ (.string u5) ∧
    ∃ u6, Cell I S1 ⟨b9, 1, none⟩ (.int .u16 u6) ∧
    ∃ u7, Cell I S1 ⟨b9, 2, none⟩ (.int .u32 u7) ∧
    ∃ u8, Cell I S1 ⟨b9, 3, none⟩ (.string u8) ∧
    Runs Tryz.prog 51 #[.slice x1 x1n x1c, .agg #[.string u5, .int .u16 u6, .int .u32 u7, .string u8]] I S1 fun v I1 S1' => ∃ u9, v = .bool u9 ∧
    bcase (!u9)
      (∃ ua, Cell I1 S1' ⟨b9, 0, none⟩ (.string ua) ∧
      ∃ ub, Cell I1 S1' ⟨b9, 1, none⟩ (.int .u16 ub) ∧
      ∃ uc, Cell I1 S1' ⟨b9, 2, none⟩ (.int .u32 uc) ∧
      ∃ ud, Cell I1 S1' ⟨b9, 3, none⟩ (.string ud) ∧
      ∀ b24 : Nat,
      AppG 84 4 40 [.string ⟨#[]⟩, .int .u16 0, .int .u32 0, .string ⟨#[]⟩] (some (.slice 84)) I1 ((b24, .cells #[.string ua, .int .u16 ub, .int .u32 uc, .string ud] 84 (0, 0)) :: S1') (.slice x6 x6n x6c) (.slice (some ⟨b24, 0, none⟩) 1 1) fun ue uen uec S1'' =>
      apply_Between_b4 g3 R x0 x0n x0c x1 x1n x1c ue uen uec x7 x7n x7c x12 x12n x12c x13 x14 I1 S1'')
      (apply_Between_b4 g3 R x0 x0n x0c x1 x1n x1c x6 x6n x6c x7 x7n x7c x12 x12n x12c x13 x14 I1 S1'))
    (apply_Between_b5 R x0 x0n x0c x1 x1n x1c x6 x6n x6c x7 x7n x7c I S)
def apply_Between_b2 (R : RT) (x0 : OA) (x0n x0c : Nat) (x1 : OA) (x1n x1c : Nat) (x6 : OA) (x6n x6c : Nat) (x7 : OA) (x7n x7c : Nat) (x12 : OA) (x12n x12c : Nat) (x13 x14 : Int) (I : IMem) (S : SH) : Prop :=
  ∃ (Inv : Nat → apply_Between_t3) (m : Nat), Inv m x0 x0n x0c x1 x1n x1c x6 x6n x6c x7 x7n x7c x12 x12n x12c x13 x14 I S ∧
    ∀ (m : Nat) (x0 : OA) (x0n x0c : Nat) (x1 : OA) (x1n x1c : Nat) (x6 : OA) (x6n x6c : Nat) (x7 : OA) (x7n x7c : Nat) (x12 : OA) (x12n x12c : Nat) (x13 x14 : Int) (J : IMem) (T : SH), I.le J → Inv m x0 x0n x0c x1 x1n x1c x6 x6n x6c x7 x7n x7c x12 x12n x12c x13 x14 J T →
      apply_Between_l3 (fun x0 x0n x0c x1 x1n x1c x6 x6n x6c x7 x7n x7c x12 x12n x12c x13 x14 I S => ∃ m', m' < m ∧ Inv m' x0 x0n x0c x1 x1n x1c x6 x6n x6c x7 x7n x7c x12 x12n x12c x13 x14 I S) R x0 x0n x0c x1 x1n x1c x6 x6n x6c x7 x7n x7c x12 x12n x12c x13 x14 J T
def apply_Between_b1 (R : RT) (x0 : OA) (x0n x0c : Nat) (x1 : OA) (x1n x1c : Nat) (x6 : OA) (x6n x6c : Nat) (x7 : OA) (x7n x7c : Nat) (I : IMem) (S : SH) : Prop :=
  apply_Between_b2 R x0 x0n x0c x1 x1n x1c x6 x6n x6c x7 x7n x7c x0 x0n x0c (x0n : Int) 0 I S
def apply_Between (R : RT) (u0 : OA) (u0n u0c : Nat) (u1 : OA) (u1n u1c : Nat) (I : IMem) (S : SH) : Prop :=
  apply_Between_b1 R u0 u0n u0c u1 u1n u1c none 0 0 none 0 0 I S
theorem apply_Between_fn (R : RT) (u0 : OA) (u0n u0c : Nat) (u1 : OA) (u1n u1c : Nat) (I : IMem) (S : SH) (h : apply_Between R u0 u0n u0c u1 u1n u1c I S) : Runs Tryz.prog 27 #[.slice u0 u0n u0c, .slice u1 u1n u1c] I S R := by
  refine Runs.of_wp (c := cd Tryz.f27) Tryz.func27 (by kernel_rfl) (by kernel_rfl) ?_
  refine cO 2 [kL 0, kL 1, kL 6, kL 7] (apply_Between_b1 R) h fun _ _ _ _ _ _ _ _ _ _ _ _ _ _ _ _ h => ?_
  refine sO [kL 0, kL 1, kL 6, kL 7] (apply_Between_b5 R) ?_ fun _ _ _ _ _ _ _ _ _ _ _ _ _ _ _ _ h => ?_
  · refine cO 1 [kL 0, kL 1, kL 6, kL 7, kL 12, kI .i64 13, kI .i64 14] (apply_Between_b2 R) h fun _ _ _ _ _ _ _ _ _ _ _ _ _ _ _ _ _ _ _ _ _ h => ?_
    refine bK ?_
    obtain ⟨Vg3, mg3, h, hr⟩ := h
    refine lO [kL 0, kL 1, kL 6, kL 7, kL 12, kI .i64 13, kI .i64 14] Vg3 mg3 h fun mg3 _ I S hle x0 x0n x0c x1 x1n x1c x6 x6n x6c x7 x7n x7c x12 x12n x12c x13 x14 h => ?_
    have h := hr mg3 x0 x0n x0c x1 x1n x1c x6 x6n x6c x7 x7n x7c x12 x12n x12c x13 x14 I S hle h
    refine cO 3 [kL 0, kL 1, kL 6, kL 7, kL 12, kI .i64 13, kI .i64 14] (apply_Between_b4 (fun x0 x0n x0c x1 x1n x1c x6 x6n x6c x7 x7n x7c x12 x12n x12c x13 x14 I S => ∃ m', m' < mg3 ∧ Vg3 m' x0 x0n x0c x1 x1n x1c x6 x6n x6c x7 x7n x7c x12 x12n x12c x13 x14 I S) R) h fun _ _ _ _ _ _ _ _ _ _ _ _ _ _ _ _ _ _ _ _ _ h => ?_
    exact pS h
  refine sO [kL 6, kL 7] (apply_Between_b9 R) ?_ fun _ _ _ _ _ _ _ _ _ _ h => ?_
  · refine cO 1 [kL 0, kL 6, kL 7, kL 27, kI .i64 28, kI .i64 29] (apply_Between_b6 R) h fun _ _ _ _ _ _ _ _ _ _ _ _ _ _ _ _ _ _ h => ?_
    refine bK ?_
    obtain ⟨Vg7, mg7, h, hr⟩ := h
    refine lO [kL 0, kL 6, kL 7, kL 27, kI .i64 28, kI .i64 29] Vg7 mg7 h fun mg7 _ I S hle x0 x0n x0c x6 x6n x6c x7 x7n x7c x27 x27n x27c x28 x29 h => ?_
    have h := hr mg7 x0 x0n x0c x6 x6n x6c x7 x7n x7c x27 x27n x27c x28 x29 I S hle h
    refine cO 3 [kL 0, kL 6, kL 7, kL 27, kI .i64 28, kI .i64 29] (apply_Between_b8 (fun x0 x0n x0c x6 x6n x6c x7 x7n x7c x27 x27n x27c x28 x29 I S => ∃ m', m' < mg7 ∧ Vg7 m' x0 x0n x0c x6 x6n x6c x7 x7n x7c x27 x27n x27c x28 x29 I S) R) h fun _ _ _ _ _ _ _ _ _ _ _ _ _ _ _ _ _ _ h => ?_
    exact pS h
  exact pS h
end Go.Proofs.YtoiilcdaldnjfaaGreatDoor
/- What goes and what comes between two zones. -/
namespace Go.Proofs.YtoiilcdaldnjfaaGreatDoor
open Go.Px
set_option linter.unusedVariables false
set_option linter.unusedSimpArgs false

def has (zs : List Rc) (r : Rc) : Bool := zs.any fun x => recB x r
theorem has_iff {zs : List Rc} {r : Rc} : has zs r = true ↔ r ∈ zs := any_rec
theorem has_false {zs : List Rc} {r : Rc} : has zs r = false ↔ r ∉ zs := by rw [← has_iff, Bool.not_eq_true]
theorem Has2_runs {zs : List Rc} {a : Option Addr} {c : Nat} {r : Rc} {I : IMem} {S : SH} (hx : RowIn I S a zs.length 4 encR zs) (hl : zs.length ≤ 1000000) (hz : SS zs) :
    Runs Tryz.prog 51 #[.slice a zs.length c, vR r] I S fun v _ T => v = .bool (has zs r) ∧ T = S := by
  refine (ZHas_runs (r := r) hx (by omega) (hz.mono r)).mono ?_
  rintro v J T hle ⟨⟨k, f, rfl, hb, hf⟩, rfl⟩
  refine ⟨?_, rfl⟩
  have : f = has zs r := Bool.eq_iff_iff.2 (by rw [hf, has_iff, mem_at hz hb])
  rw [this]
def lessF (a b : List Rc) : List Rc := a.filter fun x => !has b x
theorem mem_less {a b : List Rc} {x : Rc} : x ∈ lessF a b ↔ x ∈ a ∧ x ∉ b := by
  unfold lessF
  rw [List.mem_filter, Bool.not_eq_true', has_false]
theorem less_len (a b : List Rc) : (lessF a b).length ≤ a.length := List.length_filter_le _ _
theorem less_snoc {xs b : List Rc} {k : Nat} {x : Rc} (h : xs[k]? = some x) : lessF (xs.take (k + 1)) b = lessF (xs.take k) b ++ (if has b x then [] else [x]) := by
  unfold lessF
  rw [take_snoc h, List.filter_append]
  congr 1
  cases hp : has b x <;> simp [List.filter, hp]
theorem Between_runs {us bs : List Rc} {a b : Option Addr} {ca cb : Nat} {I : IMem} {S : SH} (ha : RowIn I S a us.length 4 encR us) (hb : RowIn I S b bs.length 4 encR bs) (hza : SS us) (hzb : SS bs) (hal : us.length ≤ 10000) (hbl : bs.length ≤ 10000) :
    Runs Tryz.prog 27 #[.slice a us.length ca, .slice b bs.length cb] I S fun v _ T => ∃ p n c q m d own1 own2, v = .tuple #[.slice p n c, .slice q m d] ∧ OwnZ (.slice p n c) (lessF us bs) own1 ∧ OwnZ (.slice q m d) (lessF bs us) own2 ∧ Sub (own2 ++ (own1 ++ S)) T := by
  refine apply_Between_fn _ _ _ _ _ _ _ _ _ ?_
  unfold apply_Between apply_Between_b1 apply_Between_b2
  refine ⟨fun m a' an ac b' bn bc g gn gc f fn fc x xn xc q i J T => a' = a ∧ an = us.length ∧ b' = b ∧ bn = bs.length ∧ f = none ∧ fn = 0 ∧ fc = 0 ∧ x = a ∧ xn = us.length ∧ q = (us.length : Int) ∧ I.le J ∧ ∃ (k : Nat) (own : SH), i = (k : Int) ∧ k ≤ us.length ∧ m = us.length - k ∧ OwnZ (.slice g gn gc) (lessF (us.take k) bs) own ∧ Sub (own ++ S) T,
    us.length, ⟨rfl, rfl, rfl, rfl, rfl, rfl, rfl, rfl, rfl, rfl, IMem.le.refl I, 0, [], rfl, Nat.zero_le _, rfl, OwnR.nil, Sub.refl _⟩, ?_⟩
  rintro m a' an ac b' bn bc g gn gc f fn fc x xn xc q i J T - ⟨rfl, rfl, rfl, rfl, rfl, rfl, rfl, rfl, rfl, rfl, hle, k, own, rfl, hk, rfl, ho, hs⟩
  unfold apply_Between_l3 apply_Between_b4
  have hll := less_len (us.take k) bs
  rw [List.length_take] at hll
  refine bcase_dec (fun h => ?_) (fun h => ?_)
  · obtain ⟨r, hr⟩ := get_lt (xs := us) (k := k) (by omega)
    obtain ⟨a1, hae, hc⟩ := ((ha.sub hs.right).le hle).cell hr
    subst hae
    obtain ⟨c0, c1, c2, c3⟩ := CellsR hc
    have hsn := less_snoc (b := bs) hr
    refine ⟨by omega, by omega, _, c0, _, c1, _, c2, _, c3, fun b9 => StP.rec (x := r) ⟨_, Cell.at0 rfl, _, Cell.at0 rfl, _, Cell.at0 rfl, _, Cell.at0 rfl, (Has2_runs (r := r) ((hb.sub (hs.right.skip _)).le hle) (by omega) hzb).mono ?_⟩⟩
    rintro v J2 T2 hle2 ⟨rfl, rfl⟩
    have hnext : IntKind.wrap .i64 ((k : Int) + 1) = ((k + 1 : Nat) : Int) := by rw [wrap_i64 (by omega) (by omega)]; rfl
    refine ⟨_, rfl, bcase_not (bcase_of (fun h2 => ?_) (fun h2 => ?_))⟩
    · rw [h2, if_pos rfl, List.append_nil] at hsn
      exact ⟨us.length - (k + 1), by omega, rfl, rfl, rfl, rfl, rfl, rfl, rfl, rfl, rfl, rfl, hle.trans hle2, k + 1, own, hnext, by omega, rfl, by rw [hsn]; exact ho, hs.skip _⟩
    · rw [h2, if_neg Bool.false_ne_true] at hsn
      refine ⟨_, Cell.at0 rfl, _, Cell.at0 rfl, _, Cell.at0 rfl, _, Cell.at0 rfl, fun b24 => app_r (r := r) (hs.skip _) ho (by omega) ?_⟩
      intro p n c own2 T3 ho2 hs2
      exact ⟨us.length - (k + 1), by omega, rfl, rfl, rfl, rfl, rfl, rfl, rfl, rfl, rfl, rfl, hle.trans hle2, k + 1, own2, hnext, by omega, rfl, by rw [hsn]; exact ho2, hs2⟩
  · have hke : k = us.length := by omega
    subst hke
    rw [List.take_length] at ho
    unfold apply_Between_b5 apply_Between_b6
    refine ⟨fun m a'' an ac b'' bn bc f fn fc y xn xc q i J' T' => a'' = x ∧ an = us.length ∧ b'' = g ∧ bn = gn ∧ bc = gc ∧ y = b' ∧ xn = bs.length ∧ q = (bs.length : Int) ∧ I.le J' ∧ ∃ (k : Nat) (own' : SH), i = (k : Int) ∧ k ≤ bs.length ∧ m = bs.length - k ∧ OwnZ (.slice f fn fc) (lessF (bs.take k) us) own' ∧ Sub (own' ++ (own ++ S)) T',
      bs.length, ⟨rfl, rfl, rfl, rfl, rfl, rfl, rfl, rfl, hle, 0, [], rfl, Nat.zero_le _, rfl, OwnR.nil, hs⟩, ?_⟩
    rintro m a'' an ac b'' bn bc f fn fc x xn xc q i J' T' - ⟨rfl, rfl, rfl, rfl, rfl, rfl, rfl, rfl, hle', k, own', rfl, hk', rfl, ho', hs'⟩
    unfold apply_Between_l7 apply_Between_b8
    have hll := less_len (bs.take k) us
    rw [List.length_take] at hll
    refine bcase_dec (fun h => ?_) (fun h => ?_)
    · obtain ⟨r, hr⟩ := get_lt (xs := bs) (k := k) (by omega)
      obtain ⟨a1, hae, hc⟩ := ((hb.sub hs'.right.right).le hle').cell hr
      subst hae
      obtain ⟨c0, c1, c2, c3⟩ := CellsR hc
      have hsn := less_snoc (b := us) hr
      refine ⟨by omega, by omega, _, c0, _, c1, _, c2, _, c3, fun b9 => StP.rec (x := r) ⟨_, Cell.at0 rfl, _, Cell.at0 rfl, _, Cell.at0 rfl, _, Cell.at0 rfl, (Has2_runs (r := r) ((ha.sub (hs'.right.right.skip _)).le hle') (by omega) hza).mono ?_⟩⟩
      rintro v J2 T2 hle2 ⟨rfl, rfl⟩
      have hnext : IntKind.wrap .i64 ((k : Int) + 1) = ((k + 1 : Nat) : Int) := by rw [wrap_i64 (by omega) (by omega)]; rfl
      refine ⟨_, rfl, bcase_not (bcase_of (fun h2 => ?_) (fun h2 => ?_))⟩
      · rw [h2, if_pos rfl, List.append_nil] at hsn
        exact ⟨bs.length - (k + 1), by omega, rfl, rfl, rfl, rfl, rfl, rfl, rfl, rfl, hle'.trans hle2, k + 1, own', hnext, by omega, rfl, by rw [hsn]; exact ho', hs'.skip _⟩
      · rw [h2, if_neg Bool.false_ne_true] at hsn
        refine ⟨_, Cell.at0 rfl, _, Cell.at0 rfl, _, Cell.at0 rfl, _, Cell.at0 rfl, fun b24 => app_r (r := r) (hs'.skip _) ho' (by omega) ?_⟩
        intro p n c own2 T3 ho2 hs2
        exact ⟨bs.length - (k + 1), by omega, rfl, rfl, rfl, rfl, rfl, rfl, rfl, rfl, hle'.trans hle2, k + 1, own2, hnext, by omega, rfl, by rw [hsn]; exact ho2, hs2⟩
    · have hke : k = bs.length := by omega
      subst hke
      rw [List.take_length] at ho'
      unfold apply_Between_b9
      exact ⟨_, _, _, _, _, _, own, own', rfl, ho, ho', hs'⟩
end Go.Proofs.YtoiilcdaldnjfaaGreatDoor
/- action.Same; what a name of a zone does, as the law says it. -/
namespace Go.Proofs.YtoiilcdaldnjfaaGreatDoor
open Go.Px
set_option linter.unusedVariables false
set_option linter.unusedSimpArgs false

theorem Av.eq {a b : Av} (h0 : a.k = b.k) (h1 : a.t = b.t) (h2 : a.w = b.w) (h3 : a.rs = b.rs) : a = b := by cases a; cases b; simp_all
section
variable {b2 b4 b5 b9 b14 : Nat} {p : Pl} {t : Tg} {a : Av} {q : Option Addr} {n c : Nat} {own F S T : SH} {J : IMem}
end
end Go.Proofs.YtoiilcdaldnjfaaGreatDoor
/- The law's addresses and triggers by numbers: what they are. -/
namespace Go.Proofs.YtoiilcdaldnjfaaGreatDoor
open Go.Px
set_option linter.unusedVariables false
set_option linter.unusedSimpArgs false
set_option maxRecDepth 8000

end Go.Proofs.YtoiilcdaldnjfaaGreatDoor
/- Some bytes that come in. -/
namespace Go.Proofs.YtoiilcdaldnjfaaGreatDoor
open Go.Px
set_option linter.unusedVariables false
set_option linter.unusedSimpArgs false

/-- some bytes, and a list of such -/
structure Sb where
  a : Sl
  ns : List Int
abbrev elSb (x : Sb) : List Value := [.slice x.a.1 x.a.2.1 x.a.2.2]
def SbIn (I : IMem) (S : SH) (x : Sb) : Prop := RowIn I S x.a.1 x.ns.length 1 elI8 x.ns ∧ x.a.2.1 = x.ns.length ∧ x.ns.length ≤ 9223372036854775807 ∧ ∀ v ∈ x.ns, 0 ≤ v ∧ v ≤ 255
theorem SbIn.keep {I J : IMem} {S T : SH} {x : Sb} (hk : Keep I S J T) (h : SbIn I S x) : SbIn J T x := ⟨h.1.keep hk, h.2⟩
end Go.Proofs.YtoiilcdaldnjfaaGreatDoor
/- Facts by numbers. -/
namespace Go.Proofs.YtoiilcdaldnjfaaGreatDoor
open Go.Px
set_option linter.unusedVariables false
set_option linter.unusedSimpArgs false
set_option maxRecDepth 8000

structure Sbs where
  a : Sl
  xs : List Sb
def SbsIn (I : IMem) (S : SH) (x : Sbs) : Prop := RowIn I S x.a.1 x.xs.length 1 elSb x.xs ∧ x.a.2.1 = x.xs.length ∧ x.xs.length ≤ 9223372036854775807 ∧ ∀ y ∈ x.xs, SbIn I S y
theorem SbsIn.keep {I J : IMem} {S T : SH} {x : Sbs} (hk : Keep I S J T) (h : SbsIn I S x) : SbsIn J T x := ⟨h.1.keep hk, h.2.1, h.2.2.1, fun y hy => (h.2.2.2 y hy).keep hk⟩
structure Qr where
  six : Bool
  cl : Sb
  nm : Sb
  an : Sbs
  sv : Sbs
  ho : Sbs
structure QrIn (I : IMem) (S : SH) (q : Qr) : Prop where
  cl : SbIn I S q.cl
  nm : SbIn I S q.nm
  an : SbsIn I S q.an
  sv : SbsIn I S q.sv
  ho : SbsIn I S q.ho
theorem QrIn.keep {I J : IMem} {S T : SH} {q : Qr} (hk : Keep I S J T) (h : QrIn I S q) : QrIn J T q := ⟨h.cl.keep hk, h.nm.keep hk, h.an.keep hk, h.sv.keep hk, h.ho.keep hk⟩
theorem QrIn.sub {I : IMem} {S T : SH} {q : Qr} (hs : Sub S T) (h : QrIn I S q) : QrIn I T q := h.keep (hs.keep (IMem.le.refl I))
theorem QrIn.le {I J : IMem} {S : SH} {q : Qr} (hle : I.le J) (h : QrIn I S q) : QrIn J S q := h.keep ((Sub.refl S).keep hle)

theorem AppT1 {t : TypeId} {xs : List ByteArray} {l : ByteArray} {b : Nat} {v : Value} {S F own : SH} {I : IMem} {K : Option Addr → Nat → Nat → SH → Prop} (hs : Sub (own ++ F) S) (hv : OwnR t 1 elS v xs own) (hl : xs.length ≤ 1000000000)
    (hK : ∀ p n c own' T, OwnR t 1 elS (.slice p n c) (xs ++ [l]) own' → Sub (own' ++ F) T → K p n c T) :
    AppG t 1 16 [.string ⟨#[]⟩] (some (.slice t)) I ((b, .cells #[.string l] t (0, 0)) :: S) v (.slice (some ⟨b, 0, none⟩) 1 1) K := by
  obtain ⟨G, hG⟩ := hs
  refine AppG.own (xs := xs) (ys := [l]) (el := elS) (own := own) (F := (b, .cells #[.string l] t (0, 0)) :: (F ++ G)) (fun _ => rfl) (fun _ => rfl) rfl ((hG.cons _).trans (by rw [List.append_assoc]; exact perm_mid1)) hv ⟨?_, rfl⟩ ?_ ?_ ?_
  · exact Rd.list (L := elS l) rfl (by simp [elS])
  · simp only [List.length_singleton, maxLen]; omega
  · simp only [List.length_singleton]; omega
  · intro p n c own' ho
    exact hK p n c own' _ ho ⟨(b, .cells #[.string l] t (0, 0)) :: G, by rw [List.append_assoc]; exact List.Perm.append_left own' perm_mid1⟩

section
variable {q : Qr} {b1 b2 b3 : Nat} {I : IMem} {S : SH}
end
end Go.Proofs.YtoiilcdaldnjfaaGreatDoor
/- Rules by numbers: their records, and the zone of them. -/
namespace Go.Proofs.YtoiilcdaldnjfaaGreatDoor
open Go.Px
set_option linter.unusedVariables false
set_option linter.unusedSimpArgs false
set_option maxRecDepth 8000

structure Ru where
  kind : Int
  nm : Sb
  six : Bool
  bits : Int
  how : Int
abbrev encRu (r : Ru) : List Value := [.int .u8 r.kind, .slice r.nm.a.1 r.nm.a.2.1 r.nm.a.2.2, .bool r.six, .int .u8 r.bits, .int .u8 r.how]
structure RuIn (I : IMem) (S : SH) (r : Ru) : Prop where
  kind : 0 ≤ r.kind ∧ r.kind ≤ 255
  nm : SbIn I S r.nm
  bits : 0 ≤ r.bits ∧ r.bits ≤ 255
  how : 0 ≤ r.how ∧ r.how ≤ 255
theorem RuIn.keep {I J : IMem} {S T : SH} {r : Ru} (hk : Keep I S J T) (h : RuIn I S r) : RuIn J T r := ⟨h.kind, h.nm.keep hk, h.bits, h.how⟩
theorem RuIn.sub {I : IMem} {S T : SH} {r : Ru} (hs : Sub S T) (h : RuIn I S r) : RuIn I T r := h.keep (hs.keep (IMem.le.refl I))
theorem RuIn.le {I J : IMem} {S : SH} {r : Ru} (hle : I.le J) (h : RuIn I S r) : RuIn J S r := h.keep ((Sub.refl S).keep hle)
/-! ### an origin -/
def orgL (k : Nat) : ByteArray := ⟨#[122, UInt8.ofNat (97 + k)]⟩
def orgN (k : Nat) : ByteArray := ⟨#[2, 122, UInt8.ofNat (97 + k)]⟩
/-! ### a rule's records -/
/-! ### a zone of rules -/
end Go.Proofs.YtoiilcdaldnjfaaGreatDoor
/- Which triggers fit: what the law says, and the code. -/
namespace Go.Proofs.YtoiilcdaldnjfaaGreatDoor
open Go.Px
set_option linter.unusedVariables false
set_option linter.unusedSimpArgs false
set_option maxRecDepth 8000

end Go.Proofs.YtoiilcdaldnjfaaGreatDoor
/- SearchMatches: the row. -/
namespace Go.Proofs.YtoiilcdaldnjfaaGreatDoor
open Go.Px
set_option linter.unusedVariables false
set_option linter.unusedSimpArgs false

end Go.Proofs.YtoiilcdaldnjfaaGreatDoor
/- SearchNode: what a name of a zone does. -/
namespace Go.Proofs.YtoiilcdaldnjfaaGreatDoor
open Go.Px
set_option linter.unusedVariables false
set_option linter.unusedSimpArgs false
set_option maxRecDepth 8000

theorem OwnR.few {α : Type} {el : α → List Value} {sz : Nat} (hsz : 0 < sz) {e : TypeId} {A : Option Addr} {n c : Nat} {xs : List α} {own : SH} (h : OwnR e sz el (.slice A n c) xs own) : xs.length ≤ 9223372036854775807 := by
  have h1 := OwnR.cap hsz h
  rcases h with ⟨hv, rfl, rfl⟩ | ⟨g, cap, rest, hv, rfl, hc, hm⟩
  · exact Nat.zero_le _
  · injection hv with _ _ h3
    unfold maxLen at hm
    omega
end Go.Proofs.YtoiilcdaldnjfaaGreatDoor
/- SearchNode: the row. -/
namespace Go.Proofs.YtoiilcdaldnjfaaGreatDoor
open Go.Px
set_option linter.unusedVariables false
set_option linter.unusedSimpArgs false

end Go.Proofs.YtoiilcdaldnjfaaGreatDoor
/- Triggers are in an order, and so is what goes ahead. -/
namespace Go.Proofs.YtoiilcdaldnjfaaGreatDoor
open Go.Px
set_option linter.unusedVariables false
set_option linter.unusedSimpArgs false

theorem less_def (a b : Tg) : lessT a b = if a.2.1 = b.2.1 then Op.bytesLess a.2.2.1.toList b.2.2.1.toList else Op.bytesLess a.2.1.toList b.2.1.toList := by
  unfold lessT
  by_cases h : a.2.1 = b.2.1
  · rw [if_pos h, show (a.2.1.toList == b.2.1.toList) = true from keq.2 h]; rfl
  · rw [if_neg h, show (a.2.1.toList == b.2.1.toList) = false from Bool.eq_false_iff.2 fun e => h (keq.1 e)]; rfl
theorem less_irr (a : Tg) : lessT a a = false := by rw [less_def, if_pos rfl, bl_irrefl]
theorem less_trans {a b c : Tg} (h : lessT a b = true) (g : lessT b c = true) : lessT a c = true := by
  rw [less_def] at h g ⊢
  by_cases e : a.2.1 = b.2.1
  · rw [if_pos e] at h
    by_cases e2 : b.2.1 = c.2.1
    · rw [if_pos e2] at g
      rw [if_pos (e.trans e2)]; exact bl_trans h g
    · rw [if_neg e2] at g
      rw [if_neg (by rw [e]; exact e2), e]; exact g
  · rw [if_neg e] at h
    by_cases e2 : b.2.1 = c.2.1
    · rw [if_pos e2] at g
      rw [if_neg (by rw [← e2]; exact e), ← e2]; exact h
    · rw [if_neg e2] at g
      have t := bl_trans h g
      rw [if_neg (fun e3 => by rw [e3, bl_irrefl] at t; cases t)]; exact t
theorem less_tot (a b : Tg) : (lessT a b = true ∨ lessT b a = true) ↔ (a.2.1 ≠ b.2.1 ∨ a.2.2.1 ≠ b.2.2.1) := by
  have tl : ∀ {x y : ByteArray}, x.toList = y.toList → x = y := fun h => keq.1 (beq_iff_eq.2 h)
  rw [less_def, less_def]
  by_cases e : a.2.1 = b.2.1
  · rw [if_pos e, if_pos e.symm]
    rcases bl_tri a.2.2.1.toList b.2.2.1.toList with h | h | h
    · refine ⟨fun _ => .inr (fun h2 => ?_), fun _ => .inl h⟩
      rw [h2, bl_irrefl] at h; cases h
    · refine ⟨fun g => ?_, fun g => ?_⟩
      · rw [h, bl_irrefl] at g; rcases g with g | g <;> cases g
      · rcases g with g | g
        · exact absurd e g
        · exact absurd (tl h) g
    · refine ⟨fun _ => .inr (fun h2 => ?_), fun _ => .inr h⟩
      rw [h2, bl_irrefl] at h; cases h
  · rw [if_neg e, if_neg (fun h => e h.symm)]
    refine ⟨fun _ => .inl e, fun _ => ?_⟩
    rcases bl_tri a.2.1.toList b.2.1.toList with h | h | h
    · exact .inl h
    · exact absurd (tl h) e
    · exact .inr h
/-! ### what goes ahead -/
theorem ahead_iff {z z' : Nat} {t t' : Tg} : ahead z z' t t' = true ↔ z < z' ∨ (z = z' ∧ (rkN t < rkN t' ∨ (rkN t = rkN t' ∧ lessT t t' = true))) := by
  unfold ahead rkLt
  by_cases e : z = z'
  · by_cases e2 : rkN t = rkN t'
    · rw [if_pos ⟨e, e2⟩]
      exact ⟨fun h => .inr ⟨e, .inr ⟨e2, h⟩⟩, fun h => by rcases h with h | ⟨_, h | ⟨_, h⟩⟩; omega; omega; exact h⟩
    · rw [if_neg (fun h => e2 h.2), if_pos e, decide_eq_true_eq]
      exact ⟨fun h => .inr ⟨e, .inl h⟩, fun h => by rcases h with h | ⟨_, h | ⟨h, _⟩⟩ <;> omega⟩
  · rw [if_neg (fun h => e h.1), if_neg e, decide_eq_true_eq]
    exact ⟨fun h => .inl h, fun h => by rcases h with h | ⟨h, _⟩ <;> omega⟩
theorem ahead_irr (z : Nat) (t : Tg) : ahead z z t t = false := by
  cases h : ahead z z t t with
  | false => rfl
  | true =>
    rcases ahead_iff.1 h with h | ⟨_, h | ⟨_, h⟩⟩
    · omega
    · omega
    · rw [less_irr] at h; cases h
theorem ahead_trans {x y z : Nat} {a b c : Tg} (h : ahead x y a b = true) (g : ahead y z b c = true) : ahead x z a c = true := by
  rw [ahead_iff] at h g ⊢
  rcases h with h | ⟨e, h⟩
  · rcases g with g | ⟨e, g⟩
    · exact .inl (by omega)
    · exact .inl (by omega)
  · rcases g with g | ⟨e2, g⟩
    · exact .inl (by omega)
    · refine .inr ⟨e.trans e2, ?_⟩
      rcases h with h | ⟨h1, h2⟩
      · rcases g with g | ⟨g1, _⟩ <;> exact .inl (by omega)
      · rcases g with g | ⟨g1, g2⟩
        · exact .inl (by omega)
        · exact .inr ⟨h1.trans g1, less_trans h2 g2⟩
end Go.Proofs.YtoiilcdaldnjfaaGreatDoor
/- The law's Wins. -/
namespace Go.Proofs.YtoiilcdaldnjfaaGreatDoor
open Go.Px
set_option linter.unusedVariables false
set_option linter.unusedSimpArgs false
set_option maxRecDepth 8000

/-- what a record brings that fits -/
noncomputable def cand (f : Fa) (p : Pl) (r : Rc) : Option (Tg × Av) := match nodeF p r.1 with
  | some (t, a) => if p.live = true ∧ a.k ≠ 1 ∧ matchT t f = true then some (t, a) else none
  | none => none
section
variable {b5 b6 b11 : Nat} {f : Fa} {st : Bs} {S T : SH} {I0 J : IMem} {p : Pl} {k : Nat} {q : Option Addr} {cc : Nat}
end
end Go.Proofs.YtoiilcdaldnjfaaGreatDoor
/- The law's Wins: its loops; and what search.Of finds is best. -/
namespace Go.Proofs.YtoiilcdaldnjfaaGreatDoor
open Go.Px
set_option linter.unusedVariables false
set_option linter.unusedSimpArgs false
set_option maxRecDepth 8000

/-! ### what is found is best -/
def BGood (f : Fa) (L : List (Nat × Pl × Rc)) (st : Bs) : Prop := (∀ x ∈ L, ∀ t a, cand f x.2.1 x.2.2 = some (t, a) → ∃ z t' a', st = some (z, t', a') ∧ ahead x.1 z t t' = false) ∧ (∀ z t a, st = some (z, t, a) → ∃ p r, (z, p, r) ∈ L ∧ cand f p r = some (t, a))
theorem step_cand {f : Fa} {k : Nat} {p : Pl} {st : Bs} {r : Rc} (hl : p.live = true) : stepR f k p st r = match cand f p r with | some (t, a) => (if bet k t st = true then some (k, t, a) else st) | none => st := by
  unfold stepR cand
  cases hn : nodeF p r.1 with
  | none => rfl
  | some x =>
    obtain ⟨t, a⟩ := x
    by_cases h : a.k ≠ 1 ∧ matchT t f = true
    · by_cases hb : bet k t st = true
      · simp only [if_pos (show a.k ≠ 1 ∧ matchT t f = true ∧ bet k t st = true from ⟨h.1, h.2, hb⟩), if_pos (show p.live = true ∧ a.k ≠ 1 ∧ matchT t f = true from ⟨hl, h.1, h.2⟩), if_pos hb]
      · simp only [if_neg (fun e : a.k ≠ 1 ∧ matchT t f = true ∧ bet k t st = true => hb e.2.2), if_pos (show p.live = true ∧ a.k ≠ 1 ∧ matchT t f = true from ⟨hl, h.1, h.2⟩), if_neg hb]
    · simp only [if_neg (fun e : a.k ≠ 1 ∧ matchT t f = true ∧ bet k t st = true => h ⟨e.1, e.2.1⟩), if_neg (fun e : p.live = true ∧ a.k ≠ 1 ∧ matchT t f = true => h e.2)]
theorem BGood.skip {f : Fa} {L : List (Nat × Pl × Rc)} {st : Bs} {x : Nat × Pl × Rc} (h : BGood f L st) (hx : cand f x.2.1 x.2.2 = none) : BGood f (L ++ [x]) st := by
  refine ⟨fun y hy t a e => ?_, fun z t a e => ?_⟩
  · rcases List.mem_append.1 hy with hy | hy
    · exact h.1 y hy t a e
    · rw [List.mem_singleton.1 hy, hx] at e; cases e
  · obtain ⟨p, r, hm, hc⟩ := h.2 z t a e
    exact ⟨p, r, List.mem_append_left _ hm, hc⟩
theorem BGood.step {f : Fa} {L : List (Nat × Pl × Rc)} {st : Bs} {k : Nat} {p : Pl} {r : Rc} (h : BGood f L st) (hl : p.live = true) : BGood f (L ++ [(k, p, r)]) (stepR f k p st r) := by
  rw [step_cand hl]
  cases hc : cand f p r with
  | none => exact h.skip hc
  | some x =>
    obtain ⟨t, a⟩ := x
    show BGood f _ (if bet k t st = true then some (k, t, a) else st)
    by_cases hb : bet k t st = true
    · rw [if_pos hb]
      refine ⟨fun y hy t1 a1 e => ?_, fun z t1 a1 e => ?_⟩
      · rcases List.mem_append.1 hy with hy | hy
        · obtain ⟨z, t', a', hst, hah⟩ := h.1 y hy t1 a1 e
          refine ⟨k, t, a, rfl, ?_⟩
          cases hq : ahead y.1 k t1 t with
          | false => rfl
          | true =>
            rw [hst] at hb
            have := ahead_trans hq (show ahead k z t t' = true from hb)
            rw [hah] at this; cases this
        · rw [List.mem_singleton.1 hy] at e ⊢
          rw [show cand f (k, p, r).2.1 (k, p, r).2.2 = some (t, a) from hc] at e
          injection e with e
          injection e with e1 e2
          subst e1 e2
          exact ⟨k, t, a, rfl, ahead_irr k t⟩
      · injection e with e
        injection e with e1 e
        injection e with e2 e3
        subst e1 e2 e3
        exact ⟨p, r, List.mem_append_right _ (List.mem_singleton.2 rfl), hc⟩
    · rw [if_neg hb]
      refine ⟨fun y hy t1 a1 e => ?_, fun z t1 a1 e => ?_⟩
      · rcases List.mem_append.1 hy with hy | hy
        · exact h.1 y hy t1 a1 e
        · rw [List.mem_singleton.1 hy] at e ⊢
          rw [show cand f (k, p, r).2.1 (k, p, r).2.2 = some (t, a) from hc] at e
          injection e with e
          injection e with e1 e2
          subst e1 e2
          cases st with
          | none => exact absurd rfl hb
          | some x =>
            obtain ⟨z, t', a'⟩ := x
            exact ⟨z, t', a', rfl, by simpa [bet] using hb⟩
      · obtain ⟨p', r', hm, hc'⟩ := h.2 z t1 a1 e
        exact ⟨p', r', List.mem_append_left _ hm, hc'⟩
theorem cand_node {f : Fa} {p : Pl} {r : Rc} {t : Tg} {a : Av} (h : cand f p r = some (t, a)) : nodeF p r.1 = some (t, a) := by
  unfold cand at h
  cases hn : nodeF p r.1 with
  | none => rw [hn] at h; cases h
  | some x =>
    rw [hn] at h
    obtain ⟨t1, a1⟩ := x
    have h : (if p.live = true ∧ a1.k ≠ 1 ∧ matchT t1 f = true then some (t1, a1) else none) = some (t, a) := h
    split at h
    · exact h
    · cases h
end Go.Proofs.YtoiilcdaldnjfaaGreatDoor
/- An engine's triggers: which names have which, and what a touch makes of an index. -/
namespace Go.Proofs.YtoiilcdaldnjfaaGreatDoor
open Go.Px
set_option linter.unusedVariables false
set_option linter.unusedSimpArgs false
set_option maxRecDepth 8000

/-! ### how many there may be -/
theorem sub_len {α : Type} [DecidableEq α] : ∀ {l D : List α}, l.Nodup → (∀ x ∈ l, x ∈ D) → l.length ≤ D.length
  | [], D, _, _ => Nat.zero_le _
  | x :: l, D, hn, h => by
    have hx := h x (List.mem_cons_self ..)
    have hn' := List.nodup_cons.1 hn
    have := sub_len (l := l) (D := D.erase x) hn'.2 (fun y hy => by
      have hne : y ≠ x := fun e => hn'.1 (e ▸ hy)
      exact (List.mem_erase_of_ne hne).2 (h y (List.mem_cons_of_mem _ hy)))
    rw [List.length_erase_of_mem hx] at this
    have := List.length_pos_of_mem hx
    rw [List.length_cons]; omega
instance : LawfulBEq ByteArray := { rfl := ba_beq.2 rfl, eq_of_beq := fun h => ba_beq.1 h }
/-- so many triggers have numbers -/
def IxC (V : Tg → Option Int) (c : Nat) : Prop := ∃ D : List Tg, D.Nodup ∧ (∀ t, V t ≠ none ↔ t ∈ D) ∧ D.length = c
theorem IxC.nil : IxC (fun _ => none) 0 := ⟨[], List.nodup_nil, fun t => ⟨fun h => absurd rfl h, fun h => by cases h⟩, rfl⟩
theorem IxC.put {V : Tg → Option Int} {c : Nat} {t : Tg} {v : Int} (h : IxC V c) (he : encF t ≠ none) : IxC (putV V t v) (c + sNum (V t).isNone) := by
  obtain ⟨D, h1, h2, h3⟩ := h
  cases hv : V t with
  | some u =>
    refine ⟨D, h1, fun s => ?_, by simp [sNum, h3]⟩
    rw [V_put he]
    by_cases e : s = t
    · rw [if_pos e, ← h2, e, hv]; simp
    · rw [if_neg e, h2]
  | none =>
    refine ⟨t :: D, List.nodup_cons.2 ⟨fun hm => (h2 t).2 hm hv, h1⟩, fun s => ?_, by simp [sNum, h3]⟩
    rw [V_put he, List.mem_cons]
    by_cases e : s = t
    · rw [if_pos e]; simp [e]
    · rw [if_neg e, h2]; simp [e]
theorem IxC.del {V : Tg → Option Int} {c c' : Nat} {t : Tg} (h : IxC V c) (hc : c' + sNum (V t).isSome = c) : IxC (delV V t) c' := by
  obtain ⟨D, h1, h2, h3⟩ := h
  refine ⟨D.erase t, h1.erase t, fun s => ?_, ?_⟩
  · unfold delV
    by_cases e : s = t
    · rw [if_pos e, e]
      exact ⟨fun h => absurd rfl h, fun h => absurd rfl ((h1.mem_erase_iff).1 h).1⟩
    · rw [if_neg e, h2, List.mem_erase_of_ne e]
  · cases hv : V t with
    | some u =>
      have hm := (h2 t).1 (by rw [hv]; simp)
      rw [List.length_erase_of_mem hm]
      rw [hv] at hc
      simp [sNum] at hc
      omega
    | none =>
      have hm : t ∉ D := fun h => (h2 t).2 h hv
      rw [List.erase_of_not_mem hm]
      rw [hv] at hc
      simp [sNum] at hc
      omega

/-! ### names and triggers -/
noncomputable def trgO (o n : ByteArray) : Option Tg := if (stripN n o).2 = true then decF (stripN n o).1 else none
theorem decE0 : decF ⟨#[]⟩ = none := by rw [decF, labN_empty]; rfl
theorem trg_dec (o n : ByteArray) : decF (stripN n o).1 = trgO o n := by
  unfold trgO
  split
  · rfl
  · rename_i h
    unfold stripN at h ⊢
    split
    · rename_i h2; rw [if_pos h2] at h; exact absurd rfl h
    · exact decE0
theorem strip_spec {n o : ByteArray} (h : (stripN n o).2 = true) : n = (stripN n o).1 ++ o ∧ IsName o ∧ IsName (stripN n o).1 ∧ (stripN n o).1.size + o.size ≤ 254 := by
  have hb : belowB n o = true := by
    unfold stripN at h
    split at h
    · assumption
    · cases h
  obtain ⟨hn, ho, x, hx, e⟩ := below_iff.1 hb
  have hs : x.size + o.size ≤ 254 := by
    obtain ⟨_, _, _, hs⟩ := hn
    rw [e, ByteArray.size_append] at hs; exact hs
  have := strip_app hx ho hs
  rw [← e] at this
  rw [this]
  exact ⟨e, ho, hx, hs⟩
theorem trg_spec {o n : ByteArray} {t : Tg} (h : trgO o n = some t) : ∃ r, encF t = some r ∧ n = r ++ o ∧ IsName o ∧ IsName r ∧ r.size + o.size ≤ 254 := by
  unfold trgO at h
  split at h
  · rename_i hs
    obtain ⟨h1, h2, h3, h4⟩ := strip_spec hs
    exact ⟨_, dec_enc h, h1, h2, h3, h4⟩
  · cases h
theorem trg_inj {o n m : ByteArray} {t : Tg} (h : trgO o n = some t) (g : trgO o m = some t) : n = m := by
  obtain ⟨r, h1, h2, _⟩ := trg_spec h
  obtain ⟨r', g1, g2, _⟩ := trg_spec g
  rw [h1] at g1
  injection g1 with e
  rw [h2, g2, e]
theorem trg_enc {o n : ByteArray} {t : Tg} (h : trgO o n = some t) : encF t ≠ none := by
  obtain ⟨r, h1, _⟩ := trg_spec h
  rw [h1]; exact Option.some_ne_none _
/-- a name does something -/
def actP (p : Pl) (n : ByteArray) : Prop := ∃ a, actF (p.zs.filter (ofN n)) = some a ∧ (overF a p.over).k ≠ 1
theorem node_none {p : Pl} {n : ByteArray} (h : trgO p.o n = none) : nodeF p n = none := by
  unfold trgO at h
  unfold nodeF
  split
  · rename_i hs
    rw [if_pos hs] at h
    rw [h]
  · rfl
theorem node_of {p : Pl} {n : ByteArray} {t : Tg} (h : trgO p.o n = some t) : nodeF p n = (actF (p.zs.filter (ofN n))).map fun a => (t, overF a p.over) := by
  unfold trgO at h
  unfold nodeF
  split at h
  · rename_i hs
    rw [if_pos hs, h]
    cases actF (p.zs.filter (ofN n)) <;> rfl
  · cases h
theorem node_trg {p : Pl} {n : ByteArray} {t : Tg} {a : Av} (h : nodeF p n = some (t, a)) : trgO p.o n = some t := by
  cases hc : trgO p.o n with
  | none => rw [node_none hc] at h; cases h
  | some u =>
    rw [node_of hc] at h
    obtain ⟨x, _, e⟩ := Option.map_eq_some_iff.1 h
    injection e with e1 e2
    rw [e1]
theorem node_act {p : Pl} {n : ByteArray} {t : Tg} : (∃ a, nodeF p n = some (t, a) ∧ a.k ≠ 1) ↔ trgO p.o n = some t ∧ actP p n := by
  constructor
  · rintro ⟨a, h, hk⟩
    have ht := node_trg h
    rw [node_of ht] at h
    obtain ⟨x, hx, e⟩ := Option.map_eq_some_iff.1 h
    injection e with e1 e2
    exact ⟨ht, x, hx, by rw [e2]; exact hk⟩
  · rintro ⟨ht, a, ha, hk⟩
    exact ⟨overF a p.over, by rw [node_of ht, ha]; rfl, hk⟩
theorem ofN_iff {n : ByteArray} {r : Rc} : ofN n r = true ↔ r.1 = n := keq
theorem act_mem {p : Pl} {n : ByteArray} (h : actP p n) : ∃ r ∈ p.zs, r.1 = n := by
  obtain ⟨a, ha, _⟩ := h
  cases hf : p.zs.filter (ofN n) with
  | nil => rw [hf] at ha; cases ha
  | cons r rs =>
    have : r ∈ p.zs.filter (ofN n) := by rw [hf]; exact List.mem_cons_self ..
    obtain ⟨h1, h2⟩ := List.mem_filter.1 this
    exact ⟨r, h1, ofN_iff.1 h2⟩
/-! ### what an index has -/
def VM (o : ByteArray) (k : Int) (A : ByteArray → Prop) (V : Tg → Option Int) : Prop := ∀ t v, V t = some v ↔ v = k ∧ ∃ n, trgO o n = some t ∧ A n
theorem VM.congr {o : ByteArray} {k : Int} {A B : ByteArray → Prop} {V : Tg → Option Int} (h : VM o k A V) (e : ∀ n, A n ↔ B n) : VM o k B V := fun t v => by
  rw [h t v]
  exact ⟨fun ⟨h1, n, h2, h3⟩ => ⟨h1, n, h2, (e n).1 h3⟩, fun ⟨h1, n, h2, h3⟩ => ⟨h1, n, h2, (e n).2 h3⟩⟩
theorem VM.none {o : ByteArray} {k : Int} {A : ByteArray → Prop} (e : ∀ n, ¬ A n) : VM o k A fun _ => none := fun t v => ⟨fun h => (by cases h), fun ⟨_, n, _, h⟩ => absurd h (e n)⟩
theorem VM.some {o : ByteArray} {k : Int} {A : ByteArray → Prop} {V : Tg → Option Int} (h : VM o k A V) {t : Tg} : V t ≠ Option.none ↔ ∃ n, trgO o n = some t ∧ A n := by
  cases hv : V t with
  | none =>
    refine ⟨fun g => absurd rfl g, fun g => ?_⟩
    have := (h t k).2 ⟨rfl, g⟩
    rw [hv] at this; cases this
  | some v => exact ⟨fun _ => ((h t v).1 hv).2, fun _ => Option.some_ne_none _⟩
theorem VM.put {o : ByteArray} {k : Int} {A : ByteArray → Prop} {V : Tg → Option Int} {n : ByteArray} {t : Tg} (h : VM o k A V) (ht : trgO o n = Option.some t) : VM o k (fun m => m = n ∨ A m) (putV V t k) := fun u v => by
  rw [V_put (trg_enc ht)]
  by_cases e : u = t
  · rw [if_pos e]
    constructor
    · intro g
      injection g with g
      exact ⟨g.symm, n, by rw [e]; exact ht, .inl rfl⟩
    · rintro ⟨rfl, _⟩; rfl
  · rw [if_neg e, h u v]
    constructor
    · rintro ⟨h1, m, h2, h3⟩; exact ⟨h1, m, h2, .inr h3⟩
    · rintro ⟨h1, m, h2, h3⟩
      rcases h3 with h3 | h3
      · subst h3
        rw [ht] at h2
        injection h2 with h2
        exact absurd h2.symm e
      · exact ⟨h1, m, h2, h3⟩
theorem VM.del {o : ByteArray} {k : Int} {A : ByteArray → Prop} {V : Tg → Option Int} {n : ByteArray} {t : Tg} (h : VM o k A V) (ht : trgO o n = Option.some t) : VM o k (fun m => m ≠ n ∧ A m) (delV V t) := fun u v => by
  unfold delV
  by_cases e : u = t
  · rw [if_pos e]
    constructor
    · intro g; cases g
    · rintro ⟨_, m, h2, h3, _⟩
      rw [e] at h2
      exact absurd (trg_inj h2 ht) h3
  · rw [if_neg e, h u v]
    constructor
    · rintro ⟨h1, m, h2, h3⟩
      refine ⟨h1, m, h2, fun e2 => ?_, h3⟩
      rw [e2, ht] at h2
      injection h2 with h2
      exact e h2.symm
    · rintro ⟨h1, m, h2, h3⟩; exact ⟨h1, m, h2, h3.2⟩
theorem VM.miss {o : ByteArray} {k : Int} {A : ByteArray → Prop} {V : Tg → Option Int} {n : ByteArray} (h : VM o k A V) (ht : trgO o n = Option.none) : VM o k (fun m => m ≠ n ∧ A m) V := fun u v => by
  rw [h u v]
  constructor
  · rintro ⟨h1, m, h2, h3⟩
    refine ⟨h1, m, h2, fun e2 => ?_, h3⟩
    rw [e2, ht] at h2; cases h2
  · rintro ⟨h1, m, h2, h3⟩; exact ⟨h1, m, h2, h3.2⟩
theorem VM.miss' {o : ByteArray} {k : Int} {A : ByteArray → Prop} {V : Tg → Option Int} {n : ByteArray} (h : VM o k A V) (B : Prop) (ht : trgO o n = Option.none) : VM o k (fun m => (m = n ∧ B) ∨ (m ≠ n ∧ A m)) V := fun u v => by
  rw [h.miss ht u v]
  constructor
  · rintro ⟨h1, m, h2, h3⟩; exact ⟨h1, m, h2, .inr h3⟩
  · rintro ⟨h1, m, h2, h3⟩
    rcases h3 with h3 | h3
    · rw [h3.1, ht] at h2; cases h2
    · exact ⟨h1, m, h2, h3⟩
/-- no more than there are records -/
theorem VM.few {p : Pl} {k : Int} {V : Tg → Option Int} {c : Nat} (h : VM p.o k (actP p) V) (hc : IxC V c) : c ≤ p.zs.length := by
  obtain ⟨D, h1, h2, h3⟩ := hc
  rw [← h3]
  have := sub_len (D := p.zs.filterMap fun r => trgO p.o r.1) h1 fun t ht => by
    obtain ⟨n, hn, ha⟩ := h.some.1 ((h2 t).2 ht)
    obtain ⟨r, hr, e⟩ := act_mem ha
    exact List.mem_filterMap.2 ⟨r, hr, by rw [e]; exact hn⟩
  exact Nat.le_trans this (List.length_filterMap_le _ _)
/-- names whose records are as they were do what they did -/
theorem act_same {p q : Pl} {n : ByteArray} (ho : p.over = q.over) (hp : SS p.zs) (hq : SS q.zs) (h1 : ∀ r ∈ lessF p.zs q.zs, r.1 ≠ n) (h2 : ∀ r ∈ lessF q.zs p.zs, r.1 ≠ n) : actP p n ↔ actP q n := by
  have e : p.zs.filter (ofN n) = q.zs.filter (ofN n) := SS.ext (hp.sublist List.filter_sublist) (hq.sublist List.filter_sublist) fun r => by
    rw [List.mem_filter, List.mem_filter]
    constructor
    · rintro ⟨g1, g2⟩
      refine ⟨Classical.byContradiction fun g => h1 r (mem_less.2 ⟨g1, g⟩) (ofN_iff.1 g2), g2⟩
    · rintro ⟨g1, g2⟩
      refine ⟨Classical.byContradiction fun g => h2 r (mem_less.2 ⟨g1, g⟩) (ofN_iff.1 g2), g2⟩
  unfold actP
  rw [e, ho]
end Go.Proofs.YtoiilcdaldnjfaaGreatDoor
/- What an index finds is as good as what it has. -/
namespace Go.Proofs.YtoiilcdaldnjfaaGreatDoor
open Go.Px
set_option linter.unusedVariables false
set_option linter.unusedSimpArgs false
set_option maxRecDepth 8000

/-- the triggers of a list are had, and fit; and none that is had, and fits, stands ahead of all of them -/
def FL (V : Tg → Option Int) (P : Tg → Prop) (L : List Tg) : Prop := (∀ t ∈ L, V t ≠ none ∧ P t) ∧ ∀ u, V u ≠ none → P u → ∃ t ∈ L, ahead 0 0 u t = false
theorem FL.nil {V : Tg → Option Int} : FL V (fun _ => False) [] := ⟨fun t h => (by cases h), fun u _ h => h.elim⟩
theorem FL.congr {V : Tg → Option Int} {P Q : Tg → Prop} {L : List Tg} (h : FL V P L) (e : ∀ t, V t ≠ none → (P t ↔ Q t)) : FL V Q L :=
  ⟨fun t ht => ⟨(h.1 t ht).1, (e t (h.1 t ht).1).1 (h.1 t ht).2⟩, fun u hu hq => h.2 u hu ((e u hu).2 hq)⟩
theorem FL.add {V : Tg → Option Int} {P Q : Tg → Prop} {L M : List Tg} (h : FL V P L) (g : FL V Q M) : FL V (fun t => P t ∨ Q t) (L ++ M) := by
  refine ⟨fun t ht => ?_, fun u hu hq => ?_⟩
  · rcases List.mem_append.1 ht with ht | ht
    · exact ⟨(h.1 t ht).1, .inl (h.1 t ht).2⟩
    · exact ⟨(g.1 t ht).1, .inr (g.1 t ht).2⟩
  · rcases hq with hq | hq
    · obtain ⟨t, ht, e⟩ := h.2 u hu hq
      exact ⟨t, List.mem_append_left _ ht, e⟩
    · obtain ⟨t, ht, e⟩ := g.2 u hu hq
      exact ⟨t, List.mem_append_right _ ht, e⟩
def rL (r : Option (Int × Tg)) : List Tg := (r.map (·.2)).toList
theorem lenT_b {t : Tg} (h : t.2.2.1.size ≠ 0) : lenT t = t.2.2.2 := by
  unfold lenT
  rw [if_pos]
  rw [strNe]
  intro e
  rw [e] at h; exact h rfl
theorem rk_lt {a b : Tg} (h : rkN b < rkN a) : ahead 0 0 a b = false := by
  rw [← Bool.not_eq_true, ahead_iff]
  rintro (h | ⟨_, h | ⟨h, _⟩⟩) <;> omega
/-- by an address -/
theorem FL.addr {V : Tg → Option Int} {sh : Tr.Sh} {K : Int} {a : ByteArray} (hV : ∀ t, encF t = none → V t = none) (hw : sh.wf) (hK : ipK K = true)
    (hs : ∀ l u, sh.find l = some u ↔ ∃ t, ipK t.1 = true ∧ t.1 = K ∧ (t.2.2.1.size : Int) = (a.size : Int) ∧ bitsL t.2.2.1 t.2.2.2.toNat = l ∧ V t = some u) :
    FL V (fun t => t.1 = K ∧ hasT t a = true) (rL (addrV sh K a)) := by
  have hI := Tr.IsL.of hw (bitsL a (8 * a.size))
  have shape : ∀ t, V t ≠ none → t.1 = K → t.2.1 = ⟨#[]⟩ ∧ mayP t.2.2.1 t.2.2.2 := fun t h e => by
    have he : encF t ≠ none := fun e2 => h (hV t e2)
    rcases enc_shape he with g | ⟨g, _⟩
    · exact g.2
    · have := nmK_ip g
      rw [e, hK] at this; cases this
  have cut : ∀ t, V t ≠ none → t.1 = K → ((t.2.2.1.size = a.size ∧ (bitsL a (8 * a.size)).take t.2.2.2.toNat = bitsL t.2.2.1 t.2.2.2.toNat) ↔ hasT t a = true) := fun t h e => by
    obtain ⟨_, hm⟩ := shape t h e
    obtain ⟨⟨hz, h0, h8⟩, hc⟩ := hm
    unfold hasT hasB
    rw [Bool.and_eq_true, Bool.and_eq_true, decide_eq_true_eq, ba_beq, mayB_iff]
    constructor
    · rintro ⟨g1, g2⟩
      refine ⟨⟨by rw [← g1]; exact hz, h0, by rw [← g1]; exact h8⟩, ⟨⟨hz, h0, h8⟩, hc⟩, ?_⟩
      exact (cut_iff hc g1 (by omega)).2 g2
    · rintro ⟨⟨g1, g2, g3⟩, _, g4⟩
      have hsz : t.2.2.1.size = a.size := by rw [← g4]; exact cutB_size a _
      exact ⟨hsz, (cut_iff hc hsz (by omega)).1 g4⟩
  refine ⟨fun t ht => ?_, fun u hu hq => ?_⟩
  · unfold rL at ht
    rw [Option.mem_toList, Option.map_eq_some_iff] at ht
    obtain ⟨⟨v, t'⟩, hr, rfl⟩ := ht
    unfold addrV at hr
    split at hr
    · rename_i hz
      rw [Option.map_eq_some_iff] at hr
      obtain ⟨⟨v', m⟩, hwk, e⟩ := hr
      obtain ⟨hm, hf, _⟩ := hI.yes v' m hwk
      rw [bitsL_len] at hm
      obtain ⟨x, x1, x2, x3, x4, x5⟩ := (hs _ _).1 hf
      have hx : V x ≠ none := by rw [x5]; exact Option.some_ne_none _
      obtain ⟨sx1, sx2⟩ := shape x hx x2
      have hn : x.2.2.2.toNat = m := by
        have := congrArg List.length x4
        rw [bitsL_len, List.length_take, bitsL_len] at this
        omega
      have h0 := sx2.1.2.1
      have hsz : x.2.2.1.size = a.size := by omega
      have hh : hasT x a = true := (cut x hx x2).1 ⟨hsz, by rw [hn, ← x4, hn]⟩
      have hcut : cutB a m = x.2.2.1 := by
        rw [← hn]
        exact (cut_iff sx2.2 hsz (by omega)).2 (by rw [x4, hn])
      injection e with e1 e2
      have : t' = x := by
        rw [← e2]
        refine Prod.ext x2.symm (Prod.ext sx1.symm (Prod.ext hcut ?_))
        show (m : Int) = x.2.2.2
        omega
      rw [this]
      exact ⟨hx, x2, hh⟩
    · cases hr
  · obtain ⟨q1, q2⟩ := hq
    obtain ⟨s1, s2⟩ := shape u hu q1
    obtain ⟨c1, c2⟩ := (cut u hu q1).2 q2
    obtain ⟨⟨hz, h0, h8⟩, hc⟩ := s2
    have hza : a.size = 4 ∨ a.size = 16 := by rw [← c1]; exact hz
    have hf : sh.find ((bitsL a (8 * a.size)).take u.2.2.2.toNat) ≠ none := by
      cases hv : V u with
      | none => exact absurd hv hu
      | some v =>
        rw [(hs _ v).2 ⟨u, by rw [q1]; exact hK, q1, by rw [c1], c2.symm, hv⟩]
        exact Option.some_ne_none _
    unfold rL addrV
    rw [if_pos hza]
    cases hwk : sh.walk (bitsL a (8 * a.size)) 0 none with
    | none => exact absurd (hI.no hwk _ (by rw [bitsL_len]; omega)) hf
    | some p =>
      obtain ⟨v, m⟩ := p
      obtain ⟨y1, y2, y3⟩ := hI.yes v m hwk
      rw [bitsL_len] at y1
      have hle : u.2.2.2.toNat ≤ m := by
        rcases Nat.lt_or_ge m u.2.2.2.toNat with g | g
        · exact absurd (y3 _ g (by rw [bitsL_len]; omega)) hf
        · exact g
      refine ⟨_, List.mem_singleton.2 rfl, ?_⟩
      by_cases e : u.2.2.2.toNat = m
      · have : ((K, ⟨#[]⟩, cutB a m, (m : Int)) : Tg) = u := by
          rw [← e]
          refine Prod.ext q1.symm (Prod.ext s1.symm (Prod.ext ?_ ?_))
          · exact (cut_iff hc c1 (by omega)).2 c2
          · show ((u.2.2.2.toNat : Nat) : Int) = u.2.2.2
            omega
        show ahead 0 0 u (K, ⟨#[]⟩, cutB a m, (m : Int)) = false
        rw [this]
        exact ahead_irr 0 u
      · refine rk_lt ?_
        have e1 : lenT u = u.2.2.2 := lenT_b (by omega)
        have e2 : lenT (K, ⟨#[]⟩, cutB a m, (m : Int)) = (m : Int) := lenT_b (by show (cutB a m).size ≠ 0; rw [cutB_size]; omega)
        unfold rkN
        rw [e1, e2, q1]
        show (K * 256 + 255 - (m : Int)).toNat < _
        have hk := ipK_iff.1 hK
        omega
/-! ### by a name -/
theorem nm_inj {a b : List ByteArray} (ha : ∀ l ∈ a, IsLab l) (hb : ∀ l ∈ b, IsLab l) (hs : (nm a).size ≤ 254) (e : nm a = nm b) : a = b := by
  have h1 := labN_nm ha hs
  rw [e, labN_nm hb (by rw [← e]; exact hs)] at h1
  exact (Option.some.inj h1).symm
theorem upV_spec (V : Tg → Option Int) (W : Int) : ∀ (ls : List ByteArray) (f : Nat), (∀ l ∈ ls, IsLab l) → (nm ls).size ≤ 254 → ls.length < f →
    (∀ v t, upV V W f (nm ls, true) = some (v, t) → ∃ d, d ≤ ls.length ∧ t = tgN W (nm (ls.drop d)) ∧ V t = some v ∧ ∀ d', d' < d → V (tgN W (nm (ls.drop d'))) = none) ∧
      (upV V W f (nm ls, true) = none → ∀ d, d ≤ ls.length → V (tgN W (nm (ls.drop d))) = none)
  | ls, 0, _, _, h => absurd h (Nat.not_lt_zero _)
  | ls, f + 1, hl, hs, hf => by
    unfold upV
    rw [if_pos rfl]
    cases hv : V (tgN W (nm ls)) with
    | some v =>
      refine ⟨fun v' t e => ?_, fun e => (by cases e)⟩
      injection e with e
      injection e with e1 e2
      subst e1 e2
      exact ⟨0, Nat.zero_le _, rfl, hv, fun d' h => absurd h (Nat.not_lt_zero _)⟩
    | none =>
      dsimp only
      cases ls with
      | nil =>
        have hp : parN (nm []) = (⟨#[]⟩, false) := rfl
        rw [hp]
        have hu : upV V W f (⟨#[]⟩, false) = none := by cases f <;> rfl
        rw [hu]
        refine ⟨fun v t e => (by cases e), fun _ d hd => ?_⟩
        have : d = 0 := by simpa using hd
        subst this
        exact hv
      | cons l ls =>
        rw [parN_nm hl hs]
        have hz := nm_cons_size l ls
        obtain ⟨h1, h2⟩ := upV_spec V W ls f (fun x hx => hl x (List.mem_cons_of_mem _ hx)) (by omega) (by rw [List.length_cons] at hf; omega)
        refine ⟨fun v t e => ?_, fun e d hd => ?_⟩
        · obtain ⟨d, d1, d2, d3, d4⟩ := h1 v t e
          refine ⟨d + 1, by rw [List.length_cons]; omega, d2, d3, fun d' hd => ?_⟩
          cases d' with
          | zero => exact hv
          | succ d' => exact d4 d' (by omega)
        · cases d with
          | zero => exact hv
          | succ d => exact h2 e d (by rw [List.length_cons] at hd; omega)
theorem rkN_n {k : Int} {n : ByteArray} (h : 0 ≤ k) : (rkN (tgN k n) : Int) = k * 256 + 255 - cntN n := by
  have hl : lenT (tgN k n) = (cntN n : Int) := by
    unfold lenT
    dsimp only
    rw [show ((⟨#[]⟩ : ByteArray).toList == (⟨#[]⟩ : ByteArray).toList) = true from keq.2 rfl]
    rfl
  unfold rkN
  rw [hl]
  have := cnt_le n
  show (((k * 256 + 255 - (cntN n : Int)).toNat : Nat) : Int) = _
  omega
theorem under_iff {t : Tg} {n : ByteArray} : underT t n = true ↔ n ≠ t.2.1 ∧ belowB n t.2.1 = true := by
  unfold underT
  by_cases h : n = t.2.1
  · rw [show (!(n.toList == t.2.1.toList)) = false from strNe'.2 h]
    exact ⟨fun h => (by cases h), fun g => absurd h g.1⟩
  · rw [show (!(n.toList == t.2.1.toList)) = true from strNe.2 h]
    exact ⟨fun g => ⟨h, g⟩, fun g => g.2⟩
theorem FL.name {V : Tg → Option Int} {E W : Int} {n : ByteArray} (hV : ∀ t, encF t = none → V t = none) (hE : nmK E) (hW : W = E + 1) (hW2 : nmK W) :
    FL V (fun t => (t.1 = E ∧ n = t.2.1) ∨ (t.1 = W ∧ underT t n = true)) (rL (nameV V E W n)) := by
  have shape : ∀ t, V t ≠ none → nmK t.1 → t = tgN t.1 t.2.1 := fun t h e => by
    have he : encF t ≠ none := fun e2 => h (hV t e2)
    rcases enc_shape he with ⟨g, _⟩ | ⟨_, g1, g2⟩
    · rw [nmK_ip e] at g; cases g
    · exact Prod.ext rfl (Prod.ext rfl (Prod.ext g1 g2))
  have hE0 : 0 ≤ E := by unfold nmK at hE; omega
  unfold nameV
  cases hv : V (tgN E n) with
  | some v =>
    dsimp only [rL, Option.map_some, Option.toList_some]
    refine ⟨fun t ht => ?_, fun u hu hq => ⟨_, List.mem_singleton.2 rfl, ?_⟩⟩
    · rw [List.mem_singleton.1 ht]
      exact ⟨by rw [hv]; exact Option.some_ne_none _, .inl ⟨rfl, rfl⟩⟩
    · rcases hq with ⟨q1, q2⟩ | ⟨q1, q2⟩
      · have := shape u hu (by rw [q1]; exact hE)
        rw [q1, ← q2] at this
        rw [this]
        exact ahead_irr 0 _
      · have := shape u hu (by rw [q1]; exact hW2)
        refine rk_lt ?_
        have e1 := rkN_n (k := E) (n := n) hE0
        have e2 := rkN_n (k := W) (n := u.2.1) (by omega)
        rw [q1] at this
        rw [← this] at e2
        have := cnt_le u.2.1
        omega
  | none =>
    dsimp only
    have noE : ∀ u, V u ≠ none → ¬ (u.1 = E ∧ n = u.2.1) := by
      rintro u hu ⟨q1, q2⟩
      have := shape u hu (by rw [q1]; exact hE)
      rw [q1, ← q2] at this
      rw [this] at hu
      exact hu hv
    by_cases hn : IsName n
    · obtain ⟨ls, rfl, hl, hs⟩ := hn
      cases ls with
      | nil =>
        have hp : parN (nm []) = (⟨#[]⟩, false) := rfl
        rw [hp]
        have hu : upV V W ((nm []).size + 1) (⟨#[]⟩, false) = none := rfl
        rw [hu]
        refine ⟨fun t ht => (by cases ht), fun u hu hq => ?_⟩
        rcases hq with hq | ⟨q1, q2⟩
        · exact absurd hq (noE u hu)
        · obtain ⟨g1, g2⟩ := under_iff.1 q2
          obtain ⟨_, _, x, hx, e⟩ := below_iff.1 g2
          have := congrArg ByteArray.size e
          rw [ByteArray.size_append] at this
          have h0 : (nm []).size = 0 := rfl
          refine absurd ?_ g1
          have hz : u.2.1.size = 0 := by omega
          exact bext (by rw [List.eq_nil_of_length_eq_zero (show u.2.1.data.toList.length = 0 from hz)]; rfl)
      | cons l ls =>
        rw [parN_nm hl hs]
        have hz := nm_cons_size l ls
        have hl' : ∀ x ∈ ls, IsLab x := fun x hx => hl x (List.mem_cons_of_mem _ hx)
        have hwl := wire_len (l :: ls)
        rw [← nm_size] at hwl
        rw [List.length_cons] at hwl
        obtain ⟨h1, h2⟩ := upV_spec V W ls ((nm (l :: ls)).size + 1) hl' (by omega) (by omega)
        have cntD : ∀ d, d ≤ ls.length → cntN (nm (ls.drop d)) = ls.length - d := fun d hd => by
          unfold cntN
          have hsz : (nm (ls.drop d)).size ≤ 254 := by
            have := nm_app (ls.take d) (ls.drop d)
            rw [List.take_append_drop] at this
            have := congrArg ByteArray.size this
            rw [ByteArray.size_append] at this
            omega
          rw [labN_nm (fun x hx => hl' x (List.mem_of_mem_drop hx)) hsz]
          simp
        have und : ∀ d, d ≤ ls.length → underT (tgN W (nm (ls.drop d))) (nm (l :: ls)) = true := fun d hd => by
          rw [under_iff]
          have e : l :: ls = (l :: ls.take d) ++ ls.drop d := by rw [List.cons_append, List.take_append_drop]
          refine ⟨fun g => ?_, ?_⟩
          · have g2 := congrArg cntN (show nm (l :: ls) = nm (ls.drop d) from g)
            rw [cntD d hd] at g2
            unfold cntN at g2
            rw [labN_nm hl hs] at g2
            simp at g2
            omega
          · show belowB (nm (l :: ls)) (nm (ls.drop d)) = true
            rw [e]
            exact belowB_nm (by rw [← e]; exact hl) (by rw [← e]; exact hs)
        have par : ∀ u, V u ≠ none → u.1 = W → underT u (nm (l :: ls)) = true → ∃ d, d ≤ ls.length ∧ u = tgN W (nm (ls.drop d)) := fun u hu q1 q2 => by
          obtain ⟨g1, g2⟩ := under_iff.1 q2
          obtain ⟨_, ho, x, hx, e⟩ := below_iff.1 g2
          obtain ⟨a, rfl, ha, _⟩ := hx
          obtain ⟨b, hb1, hb, _⟩ := ho
          rw [hb1, nm_app] at e
          have e2 := nm_inj hl (fun y hy => (List.mem_append.1 hy).elim (ha y) (hb y)) hs e
          cases a with
          | nil =>
            refine absurd ?_ g1
            rw [hb1, e2]; rfl
          | cons y a =>
            rw [List.cons_append] at e2
            injection e2 with e3 e4
            refine ⟨a.length, by rw [e4, List.length_append]; omega, ?_⟩
            have := shape u hu (by rw [q1]; exact hW2)
            rw [this, q1, hb1, e4, List.drop_left]
        refine ⟨fun t ht => ?_, fun u hu hq => ?_⟩
        · unfold rL at ht
          rw [Option.mem_toList, Option.map_eq_some_iff] at ht
          obtain ⟨⟨v, t'⟩, hr, rfl⟩ := ht
          obtain ⟨d, d1, d2, d3, _⟩ := h1 v t' hr
          refine ⟨by rw [d3]; exact Option.some_ne_none _, .inr ?_⟩
          dsimp only
          rw [d2]
          exact ⟨rfl, und d d1⟩
        · rcases hq with hq | ⟨q1, q2⟩
          · exact absurd hq (noE u hu)
          · obtain ⟨d, d1, d2⟩ := par u hu q1 q2
            cases hr : upV V W ((nm (l :: ls)).size + 1) (nm ls, true) with
            | none =>
              have := h2 hr d d1
              rw [← d2] at this
              exact absurd this hu
            | some p =>
              obtain ⟨v, t⟩ := p
              obtain ⟨d', e1, e2, e3, e4⟩ := h1 v t hr
              refine ⟨t, List.mem_singleton.2 rfl, ?_⟩
              have hle : d' ≤ d := by
                rcases Nat.lt_or_ge d d' with g | g
                · have := e4 d g
                  rw [← d2] at this
                  exact absurd this hu
                · exact g
              by_cases e : d' = d
              · rw [d2, e2, e]; exact ahead_irr 0 _
              · refine rk_lt ?_
                have r1 := rkN_n (k := W) (n := nm (ls.drop d)) (by omega)
                have r2 := rkN_n (k := W) (n := nm (ls.drop d')) (by omega)
                rw [← d2, cntD d d1] at r1
                rw [← e2, cntD d' e1] at r2
                omega
    · have hp : (parN n).2 = false := by
        unfold parN
        split
        · rfl
        · split
          · rename_i h
            exact absurd (isName_iff.2 h) hn
          · rfl
      have hu : upV V W (n.size + 1) (parN n) = none := by
        unfold upV
        rw [hp]; rfl
      rw [hu]
      refine ⟨fun t ht => (by cases ht), fun u hu hq => ?_⟩
      rcases hq with hq | ⟨q1, q2⟩
      · exact absurd hq (noE u hu)
      · exact absurd (below_iff.1 (under_iff.1 q2).2).1 hn
/-- what stands behind one that stands behind another one -/
theorem ahead_neg {a b c : Tg} (h : ahead 0 0 a b = false) (g : ahead 0 0 b c = false) : ahead 0 0 a c = false := by
  rw [← Bool.not_eq_true, ahead_iff] at h g ⊢
  rintro (k | ⟨_, k⟩)
  · omega
  have h' : ¬ (rkN a < rkN b ∨ rkN a = rkN b ∧ lessT a b = true) := fun e => h (.inr ⟨rfl, e⟩)
  have g' : ¬ (rkN b < rkN c ∨ rkN b = rkN c ∧ lessT b c = true) := fun e => g (.inr ⟨rfl, e⟩)
  rcases k with k | ⟨k1, k2⟩
  · omega
  · have e1 : rkN a = rkN b := by omega
    have e2 : rkN b = rkN c := by omega
    have l1 : lessT a b ≠ true := fun e => h' (.inr ⟨e1, e⟩)
    have l2 : lessT b c ≠ true := fun e => g' (.inr ⟨e2, e⟩)
    by_cases e : a.2.1 ≠ b.2.1 ∨ a.2.2.1 ≠ b.2.2.1
    · rcases (less_tot a b).2 e with e | e
      · exact l1 e
      · exact l2 (less_trans e k2)
    · have ea : a.2.1 = b.2.1 := Classical.byContradiction fun x => e (.inl x)
      have eb : a.2.2.1 = b.2.2.1 := Classical.byContradiction fun x => e (.inr x)
      rw [less_def] at k2 l2
      rw [ea, eb] at k2
      exact l2 k2
end Go.Proofs.YtoiilcdaldnjfaaGreatDoor
/- Policies by numbers. -/
namespace Go.Proofs.YtoiilcdaldnjfaaGreatDoor
open Go.Px
set_option linter.unusedVariables false
set_option linter.unusedSimpArgs false
set_option maxRecDepth 8000

/-- a list of rules, and a list of such -/
structure Rus where
  a : Sl
  rs : List Ru
def RusIn (I : IMem) (S : SH) (x : Rus) : Prop := RowIn I S x.a.1 x.rs.length 5 encRu x.rs ∧ x.a.2.1 = x.rs.length ∧ x.rs.length ≤ 9223372036854775807 ∧ ∀ r ∈ x.rs, RuIn I S r
theorem RusIn.keep {I J : IMem} {S T : SH} {x : Rus} (hk : Keep I S J T) (h : RusIn I S x) : RusIn J T x := ⟨h.1.keep hk, h.2.1, h.2.2.1, fun r hr => (h.2.2.2 r hr).keep hk⟩
theorem encPl_len (p : Pl) : (encPl p).length = 4 := rfl
theorem encPl_one (p : Pl) : (encPl p).all one = true := rfl
abbrev OwnP (v : Value) (xs : List Pl) (own : SH) : Prop := OwnR 65 4 encPl v xs own
abbrev zP : List Value := [.string ⟨#[]⟩, .slice none 0 0, .bool false, .int .i64 0]
theorem app_p {xs : List Pl} {p : Pl} {b : Nat} {v : Value} {S F own : SH} {I : IMem} {K : Option Addr → Nat → Nat → SH → Prop} (hs : Sub (own ++ F) S) (hv : OwnP v xs own) (hl : xs.length ≤ 100000000)
    (hK : ∀ q n c own' T, OwnP (.slice q n c) (xs ++ [p]) own' → Sub (own' ++ F) T → K q n c T) :
    AppG 65 4 56 zP (some (.slice 65)) I ((b, .cells #[.string p.o, .slice p.zn.1 p.zn.2.1 p.zn.2.2, .bool p.live, .int .i64 p.over] 65 (0, 0)) :: S) v (.slice (some ⟨b, 0, none⟩) 1 1) K := by
  obtain ⟨G, hG⟩ := hs.skip (plB b p)
  exact AppG.own (xs := xs) (ys := [p]) (el := encPl) encPl_len encPl_one rfl (by rw [List.append_assoc] at hG; exact hG) hv ⟨Rd.list (L := encPl p) rfl (by simp [encPl]), rfl⟩ (by simp only [List.length_singleton, maxLen]; omega) (by simp only [List.length_singleton]; omega)
    fun p n c own' h => hK p n c own' _ h ⟨G, by rw [List.append_assoc]⟩
theorem plX {I : IMem} {S F : SH} {b : Nat} {p : Pl} (hs : Sub (plB b p :: F) S) : Cell I S ⟨b, 0, none⟩ (.string p.o) ∧ Cell I S ((⟨b, 0, none⟩ : Addr).add 1) (.slice p.zn.1 p.zn.2.1 p.zn.2.2) ∧ Cell I S ((⟨b, 0, none⟩ : Addr).add 2) (.bool p.live) ∧ Cell I S ((⟨b, 0, none⟩ : Addr).add 3) (.int .i64 p.over) :=
  ⟨Cell.among hs rfl, Cell.at_ (add_mk _ _ _) (Cell.among hs rfl), Cell.at_ (add_mk _ _ _) (Cell.among hs rfl), Cell.at_ (add_mk _ _ _) (Cell.among hs rfl)⟩
end Go.Proofs.YtoiilcdaldnjfaaGreatDoor
/- An engine in memory. -/
namespace Go.Proofs.YtoiilcdaldnjfaaGreatDoor
open Go.Px
set_option linter.unusedVariables false
set_option linter.unusedSimpArgs false
set_option maxRecDepth 8000

theorem splice {β : Type} (A X R vs : List β) {o j : Nat} (ho : o = A.length + j) (hj : j + vs.length ≤ X.length) : (A ++ (X ++ R)).take o ++ vs ++ (A ++ (X ++ R)).drop (o + vs.length) = A ++ ((X.take j ++ vs ++ X.drop (j + vs.length)) ++ R) := by
  subst ho
  have h1 : (A ++ (X ++ R)).take (A.length + j) = A ++ X.take j := by
    rw [List.take_append, List.take_of_length_le (by omega), Nat.add_sub_cancel_left, List.take_append, show j - X.length = 0 by omega, List.take_zero, List.append_nil]
  have h2 : (A ++ (X ++ R)).drop (A.length + j + vs.length) = X.drop (j + vs.length) ++ R := by
    rw [List.drop_append, List.drop_of_length_le (by omega), List.nil_append, show A.length + j + vs.length - A.length = j + vs.length by omega, List.drop_append, show j + vs.length - X.length = 0 by omega, List.drop_zero]
  rw [h1, h2]
  simp only [List.append_assoc]
theorem flat_len {α β : Type} {el : α → List β} {sz : Nat} (he : ∀ x, (el x).length = sz) (xs : List α) : (xs.flatMap el).length = xs.length * sz := by
  induction xs with
  | nil => simp
  | cons x xs ih => rw [List.flatMap_cons, List.length_append, he, ih, List.length_cons, Nat.succ_mul]; omega
theorem OwnR.put {α : Type} {el : α → List Value} {sz : Nat} (he : ∀ x, (el x).length = sz) {e : TypeId} {a : Option Addr} {a0 : Addr} {n c : Nat} {xs : List α} {own F S : SH} {k j : Nat} {x x' : α} {vs : List Value} {K : SH → Prop}
    (hv : OwnR e sz el (.slice a n c) xs own) (hk : xs[k]? = some x) (hs : Sub (own ++ F) S) (ha : a = some a0) (hvs : vs.all one = true) (he' : el x' = (el x).take j ++ vs ++ (el x).drop (j + vs.length)) (hj : j + vs.length ≤ sz)
    (hK : ∀ own' T, OwnR e sz el (.slice a n c) (xs.set k x') own' → Sub (own' ++ F) T → K T) : StP S ((a0.add (k * sz)).add j) vs K := by
  have hkl := lt_get hk
  rcases hv with ⟨hv, rfl, _⟩ | ⟨g, cap, rest, hv, rfl, hc, hm⟩
  · simp at hk
  · injection hv with e1 e2 e3
    rw [ha] at e1
    injection e1 with e1
    subst e1 e3
    have hxs : xs = xs.take k ++ x :: xs.drop (k + 1) := by
      conv => lhs; rw [← List.take_append_drop k xs]
      rw [drop_get hk]
    have hset : xs.set k x' = xs.take k ++ x' :: xs.drop (k + 1) := by rw [List.set_eq_take_append_cons_drop, if_pos hkl]
    have hL : xs.flatMap el ++ rest = (xs.take k).flatMap el ++ (el x ++ ((xs.drop (k + 1)).flatMap el ++ rest)) := by
      conv => lhs; rw [hxs]
      rw [List.flatMap_append, List.flatMap_cons]
      simp only [List.append_assoc]
    have hlen := flat_len he xs
    have hA : ((xs.take k).flatMap el).length = k * sz := by rw [flat_len he, List.length_take, Nat.min_eq_left (by omega)]
    refine StP.at_ (a' := ⟨g, k * sz + j, none⟩) (by rw [add_mk, add_mk, Nat.zero_add]) (StP.among (L := xs.flatMap el ++ rest) (L' := (xs.set k x').flatMap el ++ rest) hs ?_ hvs ?_ fun T hT => hK _ T (.inr ⟨g, c, rest, ?_, rfl, ?_, hm⟩) hT)
    · rw [List.length_append, hlen]
      have : (k + 1) * sz ≤ xs.length * sz := Nat.mul_le_mul_right sz (by omega)
      rw [Nat.succ_mul] at this
      omega
    · rw [hL, splice ((xs.take k).flatMap el) (el x) ((xs.drop (k + 1)).flatMap el ++ rest) vs (j := j) (by rw [hA]) (by rw [he]; exact hj), ← he', hset, List.flatMap_append, List.flatMap_cons]
      simp only [List.append_assoc]
    · rw [ha, List.length_set, e2]
    · rw [List.length_set]; exact hc
theorem map_set_same {α β : Type} {f : α → β} {l : List α} {k : Nat} {z z' : α} (h : l[k]? = some z) (e : f z' = f z) : (l.set k z').map f = l.map f := by
  apply List.ext_getElem?
  intro i
  rw [List.getElem?_map, List.getElem?_map, List.getElem?_set]
  split
  · rename_i hi
    subst hi
    rw [if_pos (lt_get h), h, Option.map_some, Option.map_some, e]
  · rfl
theorem map_set_of {α β : Type} {f : α → β} {l : List α} {k : Nat} {z' : α} : (l.set k z').map f = (l.map f).set k (f z') := List.map_set

/-- a zone: its policy, its index's block, what the index has, and how many -/
structure Zo where
  p : Pl
  xb : Nat
  V : Tg → Option Int
  c : Nat
def ZoO (z : Zo) (o : SH) : Prop := ∃ o1 o2 n, OwnZ (.slice z.p.zn.1 z.p.zn.2.1 z.p.zn.2.2) z.p.zs o1 ∧ IxS z.xb z.V n z.c o2 ∧ IxC z.V z.c ∧ o = o1 ++ o2
def ZosO : List Zo → SH → Prop
  | [], o => o = []
  | z :: l, o => ∃ o1 o2, ZoO z o1 ∧ ZosO l o2 ∧ o = o1 ++ o2
theorem ZosO.snoc : ∀ {l : List Zo} {o o' : SH} {z : Zo}, ZosO l o → ZoO z o' → ∃ o2, ZosO (l ++ [z]) o2 ∧ ∀ F T, Sub (o' ++ (o ++ F)) T → Sub (o2 ++ F) T
  | [], o, o', z, h, g => by
    have h : o = [] := h
    subst h
    exact ⟨o' ++ [], ⟨o', [], g, rfl, rfl⟩, fun F T hs => hs.re (by intro a; simp only [cnt_cons, cnt_app, cnt_nil]; omega)⟩
  | y :: l, o, o', z, h, g => by
    obtain ⟨o1, o2, h1, h2, rfl⟩ := h
    obtain ⟨o3, h3, h4⟩ := ZosO.snoc h2 g
    refine ⟨o1 ++ o3, ⟨o1, o3, h1, h3, rfl⟩, fun F T hs => ?_⟩
    have := h4 (o1 ++ F) T (hs.re (by intro a; simp only [cnt_cons, cnt_app, cnt_nil]; omega))
    exact this.re (by intro a; simp only [cnt_cons, cnt_app, cnt_nil]; omega)
theorem ZosO.at_ : ∀ {l : List Zo} {o : SH} {k : Nat} {z : Zo}, ZosO l o → l[k]? = some z → ∃ o1 rest, ZoO z o1 ∧ (∀ F T, Sub (o ++ F) T → Sub (o1 ++ (rest ++ F)) T) ∧
      ∀ z' o1', ZoO z' o1' → ∃ o', ZosO (l.set k z') o' ∧ ∀ F T, Sub (o1' ++ (rest ++ F)) T → Sub (o' ++ F) T
  | [], o, k, z, _, h => by simp at h
  | y :: l, o, 0, z, h, hk => by
    obtain ⟨o1, o2, h1, h2, rfl⟩ := h
    have hk : y = z := Option.some.inj hk
    subst hk
    exact ⟨o1, o2, h1, fun F T hs => hs.re (by intro a; simp only [cnt_app]; omega), fun z' o1' g => ⟨o1' ++ o2, ⟨o1', o2, g, h2, rfl⟩, fun F T hs => hs.re (by intro a; simp only [cnt_app]; omega)⟩⟩
  | y :: l, o, k + 1, z, h, hk => by
    obtain ⟨o1, o2, h1, h2, rfl⟩ := h
    obtain ⟨o3, rest, g1, g2, g3⟩ := ZosO.at_ (k := k) h2 hk
    refine ⟨o3, o1 ++ rest, g1, fun F T hs => ?_, fun z' o1' g => ?_⟩
    · exact (g2 (o1 ++ F) T (hs.re (by intro a; simp only [cnt_app]; omega))).re (by intro a; simp only [cnt_app]; omega)
    · obtain ⟨o', e1, e2⟩ := g3 z' o1' g
      refine ⟨o1 ++ o', ⟨o1, o', h1, e1, rfl⟩, fun F T hs => ?_⟩
      exact (e2 (o1 ++ F) T (hs.re (by intro a; simp only [cnt_app]; omega))).re (by intro a; simp only [cnt_app]; omega)
def elX (b : Nat) : List Value := [.pointer (some ⟨b, 0, none⟩)]
theorem elX_len (b : Nat) : (elX b).length = 1 := rfl
theorem elX_one (b : Nat) : (elX b).all one = true := rfl
abbrev enB (b : Nat) (q : Option Addr) (n c : Nat) (p : Option Addr) (m d : Nat) : Nat × Obj := (b, .cells #[.slice q n c, .slice p m d] 87 (0, 0))
/-- an engine of zones -/
def EngO (b : Nat) (l : List Zo) (own : SH) : Prop := ∃ q c p d o1 o2 o3, OwnP (.slice q l.length c) (l.map Zo.p) o1 ∧ OwnR 88 1 elX (.slice p l.length d) (l.map Zo.xb) o2 ∧ ZosO l o3 ∧ own = enB b q l.length c p l.length d :: (o1 ++ (o2 ++ o3))
end Go.Proofs.YtoiilcdaldnjfaaGreatDoor
/- A touch: a zone's index comes to fit a name's records. -/
namespace Go.Proofs.YtoiilcdaldnjfaaGreatDoor
open Go.Px
set_option linter.unusedVariables false
set_option linter.unusedSimpArgs false
set_option maxRecDepth 8000

theorem set_self {α : Type} {l : List α} {k : Nat} {z : α} (h : l[k]? = some z) : l.set k z = l := by
  apply List.ext_getElem?
  intro i
  rw [List.getElem?_set]
  split
  · rename_i hi
    subst hi
    rw [if_pos (lt_get h), h]
  · rfl
theorem zo_pl {z : Zo} {o o1 F S : SH} {I : IMem} (h : OwnZ (.slice z.p.zn.1 z.p.zn.2.1 z.p.zn.2.2) z.p.zs o) (hs : Sub (o ++ F) S) (hl : z.p.zs.length ≤ 10000) : PlIn I S z.p := by
  have hn : z.p.zn.2.1 = z.p.zs.length := h.len
  have := h.row encR_len (I := I)
  rw [hn] at this
  exact ⟨this.sub hs.left, hn, hl⟩
section
variable {b k : Nat} {l : List Zo} {z : Zo} {own F S : SH} {I : IMem}
theorem EngO.pl (h : EngO b l own) (hz : l[k]? = some z) (hl : z.p.zs.length ≤ 10000) (hs : Sub (own ++ F) S) : PlIn I S z.p := by
  obtain ⟨q, c, p, d, o1, o2, o3, h1, h2, h3, rfl⟩ := h
  obtain ⟨ox, rest, ⟨oz, oi, n, e1, e2, e3, rfl⟩, g2, g3⟩ := h3.at_ hz
  have := g2 (enB b q l.length c p l.length d :: (o1 ++ (o2 ++ F))) S (hs.re (by intro a; simp only [cnt_cons, cnt_app]; omega))
  exact zo_pl (o1 := o1) e1 (this.re (by intro a; simp only [cnt_cons, cnt_app]; omega) : Sub (oz ++ (oi ++ (rest ++ (enB b q l.length c p l.length d :: (o1 ++ (o2 ++ F)))))) S) hl
theorem EngO.idx (h : EngO b l own) (hz : l[k]? = some z) : ∃ ox rest n, IxS z.xb z.V n z.c ox ∧ IxC z.V z.c ∧ (∀ F T, Sub (own ++ F) T → Sub (ox ++ (rest ++ F)) T) ∧
      ∀ V' n' c' ox', IxS z.xb V' n' c' ox' → IxC V' c' → ∃ own', EngO b (l.set k ⟨z.p, z.xb, V', c'⟩) own' ∧ ∀ F T, Sub (ox' ++ (rest ++ F)) T → Sub (own' ++ F) T := by
  obtain ⟨q, c, p, d, o1, o2, o3, h1, h2, h3, rfl⟩ := h
  obtain ⟨ox, rest, ⟨oz, oi, n, e1, e2, e3, rfl⟩, g2, g3⟩ := h3.at_ hz
  refine ⟨oi, oz ++ (rest ++ (enB b q l.length c p l.length d :: (o1 ++ o2))), n, e2, e3, fun F T hs => ?_, fun V' n' c' ox' g e => ?_⟩
  · exact (g2 (enB b q l.length c p l.length d :: (o1 ++ (o2 ++ F))) T (hs.re (by intro a; simp only [cnt_cons, cnt_app]; omega))).re (by intro a; simp only [cnt_cons, cnt_app]; omega)
  · obtain ⟨o', k1, k2⟩ := g3 ⟨z.p, z.xb, V', c'⟩ (oz ++ ox') ⟨oz, ox', n', e1, g, e, rfl⟩
    refine ⟨_, ⟨q, c, p, d, o1, o2, o', ?_, ?_, k1, rfl⟩, fun F T hs => ?_⟩
    · rw [map_set_same (f := Zo.p) (z' := ⟨z.p, z.xb, V', c'⟩) hz rfl, List.length_set]; exact h1
    · rw [map_set_same (f := Zo.xb) (z' := ⟨z.p, z.xb, V', c'⟩) hz rfl, List.length_set]; exact h2
    · rw [List.length_set]
      exact (k2 (enB b q l.length c p l.length d :: (o1 ++ (o2 ++ F))) T (hs.re (by intro a; simp only [cnt_cons, cnt_app]; omega))).re (by intro a; simp only [cnt_cons, cnt_app]; omega)
theorem EngO.read (h : EngO b l own) (hs : Sub (own ++ F) S) : ∃ q c p d, Cell I S ⟨b, 0, none⟩ (.slice q l.length c) ∧ Cell I S ((⟨b, 0, none⟩ : Addr).add 1) (.slice p l.length d) ∧ RowIn I S q l.length 4 encPl (l.map Zo.p) ∧ RowIn I S p l.length 1 elX (l.map Zo.xb) := by
  obtain ⟨q, c, p, d, o1, o2, o3, h1, h2, h3, rfl⟩ := h
  rw [List.cons_append] at hs
  refine ⟨q, c, p, d, Cell.among hs rfl, Cell.at_ (add_mk _ _ _) (Cell.among hs rfl), ?_, ?_⟩
  · exact (h1.row encPl_len).sub (hs.drop.re (by intro a; simp only [cnt_cons, cnt_app]; omega) : Sub (o1 ++ (o2 ++ (o3 ++ F))) S).left
  · exact (h2.row elX_len).sub (hs.drop.re (by intro a; simp only [cnt_cons, cnt_app]; omega) : Sub (o2 ++ (o1 ++ (o3 ++ F))) S).left
theorem EngO.ptr {p : Option Addr} (hx : RowIn I S p l.length 1 elX (l.map Zo.xb)) (hz : l[k]? = some z) : ∃ a, p = some a ∧ Cell I S (a.add (k * 1)) (.pointer (some ⟨z.xb, 0, none⟩)) := by
  have hk : (l.map Zo.xb)[k]? = some z.xb := by rw [List.getElem?_map, hz]; rfl
  obtain ⟨a, ha, hc⟩ := hx.cell hk
  exact ⟨a, ha, by simpa [Addr.add] using hc 0 _ rfl⟩
/-- what a touch of a name leads to -/
def TouR (b k : Nat) (l : List Zo) (z : Zo) (n : ByteArray) (F : SH) : RT := fun v _ T => v = .tuple #[] ∧ ∃ V' c' own', EngO b (l.set k ⟨z.p, z.xb, V', c'⟩) own' ∧ c' ≤ z.c + 1 ∧
  (∀ A, VM z.p.o k A z.V → VM z.p.o k (fun m => (m = n ∧ actP z.p n) ∨ (m ≠ n ∧ A m)) V') ∧ Sub (own' ++ F) T
theorem touch_put {b6 b7 : Nat} {n : ByteArray} {t : Tg} {G : SH} (g : GL I) (h : EngO b l own) (hz : l[k]? = some z) (hc : z.c ≤ 1000000) (ht : trgO z.p.o n = some t) (ha : actP z.p n) (hs : Sub (tgB b7 t :: (G ++ (own ++ F))) S) :
    engine_Engine_touch_b2 (TouR b k l z n F) (some ⟨b, 0, none⟩) (k : Int) n ⟨b6, 0, none⟩ ⟨b7, 0, none⟩ true I S := by
  unfold engine_Engine_touch_b2
  have hs1 : Sub (own ++ (tgB b7 t :: (G ++ F))) S := hs.re (by intro a; simp only [cnt_cons, cnt_app]; omega)
  obtain ⟨q, c, p, d, c1, c2, r1, r2⟩ := h.read (I := I) hs1
  obtain ⟨a, rfl, hp⟩ := EngO.ptr r2 hz
  obtain ⟨t0', t1, t2, _, t3⟩ := tgX (I := I) hs
  have hkl := lt_get hz
  refine bcase_t rfl ⟨_, _, _, c2, by omega, by omega, _, hp, _, t0', _, t1, _, t2, _, t3, ?_⟩
  obtain ⟨ox, rest, n', i1, i2, i3, i4⟩ := h.idx hz
  have hn : n' ≤ z.c := by obtain ⟨M, L, _, _, e⟩ := i1; omega
  refine (IPut_runs g i1 (i3 _ _ hs1) t (k : Int) (by omega) (by omega)).mono ?_
  rintro v J T hle ⟨rfl, n2, c2', ox', j1, j2, j3, j4⟩
  refine ⟨_, rfl, rfl, ?_⟩
  have he := trg_enc ht
  have hi : (encF t).isSome = true := by cases hx : encF t with | none => exact absurd hx he | some _ => rfl
  rw [hi, Bool.true_and] at j3
  subst j3
  obtain ⟨own', k1, k2⟩ := i4 _ _ _ _ j1 (i2.put he)
  refine ⟨_, _, own', k1, ?_, fun A hA => ?_, (k2 _ _ j4).re (by intro a; simp only [cnt_cons, cnt_app]; omega) |> fun (x : Sub (own' ++ F ++ (tgB b7 t :: G)) T) => x.left⟩
  · show z.c + sNum (z.V t).isNone ≤ z.c + 1
    unfold sNum
    split <;> omega
  · refine (hA.put ht).congr fun m => ?_
    constructor
    · rintro (e | e)
      · exact .inl ⟨e, ha⟩
      · by_cases e2 : m = n
        · exact .inl ⟨e2, ha⟩
        · exact .inr ⟨e2, e⟩
    · rintro (⟨e, _⟩ | ⟨_, e⟩)
      · exact .inl e
      · exact .inr e
theorem touch_del {b6 b7 : Nat} {n : ByteArray} {G : SH} (g : GL I) (h : EngO b l own) (hz : l[k]? = some z) (hc : z.c ≤ 1000000) (ha : trgO z.p.o n = none ∨ ¬ actP z.p n) (hs : Sub (plB b6 z.p :: (G ++ (own ++ F))) S) :
    engine_Engine_touch_b2 (TouR b k l z n F) (some ⟨b, 0, none⟩) (k : Int) n ⟨b6, 0, none⟩ ⟨b7, 0, none⟩ false I S := by
  unfold engine_Engine_touch_b2 engine_Engine_touch_b4
  refine bcase_f rfl ⟨_, (plX (I := I) hs).1, (Strip_runs _ _ _ _).mono ?_⟩
  rintro v J1 T1 hle1 ⟨rfl, rfl⟩
  refine ⟨_, _, rfl, (Decode_runs _ (g.le hle1) _).mono ?_⟩
  rintro v J2 T2 hle2 ⟨rfl, rfl⟩
  rw [trg_dec]
  have hres : ∃ t b, resT (trgO z.p.o n) = .tuple #[vT t, .bool b] ∧ (trgO z.p.o n = if b = true then some t else none) := by
    cases trgO z.p.o n with
    | none => exact ⟨t0, false, rfl, rfl⟩
    | some t => exact ⟨t, true, rfl, rfl⟩
  obtain ⟨t, bb, e, ht⟩ := hres
  rw [e]
  refine ⟨_, _, _, _, _, rfl, fun b12 => put_tg (x := t0) (t := t) (F := T2) (Sub.refl _) fun T3 hT3 => ?_⟩
  unfold engine_Engine_touch_b5
  have hall : Sub (own ++ (tgB b12 t :: (plB b6 z.p :: (G ++ F)))) T3 := (((hs.cons (tgB b12 t)).trans hT3)).re (by intro a; simp only [cnt_cons, cnt_app]; omega)
  cases bb with
  | false =>
    rw [if_neg Bool.false_ne_true] at ht
    refine bcase_f rfl ⟨rfl, z.V, z.c, own, ?_, by omega, fun A hA => hA.miss' _ ht, (hall.re (by intro a; simp only [cnt_cons, cnt_app]; omega) : Sub ((own ++ F) ++ (tgB b12 t :: (plB b6 z.p :: G))) T3).left⟩
    rw [show (⟨z.p, z.xb, z.V, z.c⟩ : Zo) = z from rfl, set_self hz]; exact h
  | true =>
    rw [if_pos rfl] at ht
    obtain ⟨q, c, p, d, c1, c2, r1, r2⟩ := h.read (I := J2) hall
    obtain ⟨a, rfl, hp⟩ := EngO.ptr r2 hz
    obtain ⟨t0', t1, t2, _, t3⟩ := tgX (I := J2) hT3
    have hkl := lt_get hz
    refine bcase_t rfl ⟨_, _, _, c2, by omega, by omega, _, hp, _, t0', _, t1, _, t2, _, t3, ?_⟩
    obtain ⟨ox, rest, n', i1, i2, i3, i4⟩ := h.idx hz
    refine (IDel_runs ((g.le hle1).le hle2) i1 (i3 _ _ hall) t (by omega)).mono ?_
    rintro v J T hle ⟨rfl, n2, c2', ox', j1, j2, j3, j4⟩
    refine ⟨_, rfl, rfl, ?_⟩
    obtain ⟨own', k1, k2⟩ := i4 _ _ _ _ j1 (i2.del j3)
    refine ⟨_, _, own', k1, by omega, fun A hA => ?_, ((k2 _ _ j4).re (by intro a; simp only [cnt_cons, cnt_app]; omega) : Sub ((own' ++ F) ++ (tgB b12 t :: (plB b6 z.p :: G))) T).left⟩
    refine (hA.del ht).congr fun m => ⟨fun e => .inr e, fun e => ?_⟩
    rcases e with ⟨_, e⟩ | e
    · exact absurd e (ha.resolve_left (by rw [ht]; exact Option.some_ne_none _))
    · exact e
theorem touch_runs (g : GL I) (h : EngO b l own) (hz : l[k]? = some z) (hl : l.length ≤ 1000) (hs : Sub (own ++ F) S) (hc : z.c ≤ 1000000) (hf : z.p.zs.length ≤ 10000) (n : ByteArray) :
    Runs Tryz.prog 28 #[.pointer (some ⟨b, 0, none⟩), .int .i64 (k : Int), .string n] I S (TouR b k l z n F) := by
  refine engine_Engine_touch_fn _ _ _ _ _ _ ?_
  unfold engine_Engine_touch
  obtain ⟨q, c, p, d, c1, c2, r1, r2⟩ := h.read (I := I) hs
  have hk : (l.map Zo.p)[k]? = some z.p := by rw [List.getElem?_map, hz]; rfl
  obtain ⟨a, rfl, hcl⟩ := r1.cell hk
  have hkl := lt_get hz
  have e0 : Cell I S (a.add (k * 4)) (.string z.p.o) := by simpa [Addr.add] using hcl 0 _ rfl
  refine ⟨_, _, _, c1, by omega, by omega, _, e0, _, _, _, hcl 1 _ rfl, _, hcl 2 _ rfl, _, hcl 3 _ rfl, fun b6 => StP.all (vs := encPl z.p) rfl rfl ?_⟩
  unfold engine_Engine_touch_b1
  have hP : PlIn I ((b6, .cells (encPl z.p).toArray 65 (0, 0)) :: S) z.p := (h.pl hz hf hs).sub ((Sub.refl S).skip _)
  refine ⟨_, Cell.at0 rfl, _, _, _, Cell.at0 rfl, _, Cell.at0 rfl, _, Cell.at0 rfl, (Node_runs z.p n g hP).mono ?_⟩
  rintro v J T hle ⟨p2, n2, c2', own2, rfl, ho2, hs2⟩
  have hs3 : Sub (plB b6 z.p :: (own ++ F)) T := (hs.cons _).trans hs2.right
  refine ⟨_, _, _, _, _, _, _, _, _, _, _, rfl, fun b7 b8 => put_tg (x := t0) (t := ((nodeF z.p n).getD (t0, av0)).1) (F := acB b8 acZ :: (plB b6 z.p :: (own ++ F))) (((hs3.cons (tgB b7 t0)).cons (acB b8 acZ)).re (by intro a; simp only [cnt_cons, cnt_app]; omega)) fun T3 hT3 => put_av (L := acZ) (a := ((nodeF z.p n).getD (t0, av0)).2) (p := p2) (n := n2) (c := c2') (F := tgB b7 ((nodeF z.p n).getD (t0, av0)).1 :: (plB b6 z.p :: (own ++ F))) rfl (hT3.re (by intro a; simp only [cnt_cons, cnt_app]; omega)) fun T4 hT4 => ?_⟩
  have hd := (avX (I := J) hT4).1
  cases hn : nodeF z.p n with
  | none =>
    refine bcase_f rfl (touch_del (G := [acB b8 (encAv ((nodeF z.p n).getD (t0, av0)).2 p2 n2 c2'), tgB b7 ((nodeF z.p n).getD (t0, av0)).1]) (g.le hle) h hz hc ?_ (hT4.re (by intro a; simp only [cnt_cons, cnt_app, cnt_nil]; omega)))
    cases ht : trgO z.p.o n with
    | none => exact .inl rfl
    | some t =>
      refine .inr fun ha => ?_
      obtain ⟨x, hx, _⟩ := ha
      rw [node_of ht, hx] at hn; cases hn
  | some x =>
    obtain ⟨t, av⟩ := x
    rw [hn] at hd hT4
    have hd : Cell J T4 ⟨b8, 0, none⟩ (.int .i64 av.k) := hd
    have hT4 : Sub (acB b8 (encAv av p2 n2 c2') :: (tgB b7 t :: (plB b6 z.p :: (own ++ F)))) T4 := hT4
    refine bcase_t rfl ⟨_, hd, ?_⟩
    by_cases hk1 : av.k = 1
    · rw [show (av.k != 1) = false by rw [hk1]; rfl]
      refine touch_del (G := [acB b8 (encAv av p2 n2 c2'), tgB b7 t]) (g.le hle) h hz hc (.inr fun ha => ?_) (hT4.re (by intro a; simp only [cnt_cons, cnt_app, cnt_nil]; omega))
      obtain ⟨a', ha', hka⟩ := node_act.2 ⟨node_trg hn, ha⟩
      rw [hn] at ha'
      injection ha' with e
      injection e with e1 e2
      rw [← e2] at hka
      exact hka hk1
    · rw [show (av.k != 1) = true from bne_iff_ne.2 hk1]
      have := node_act.1 ⟨av, hn, hk1⟩
      exact touch_put (G := [acB b8 (encAv av p2 n2 c2'), plB b6 z.p]) (g.le hle) h hz hc this.1 this.2 (hT4.re (by intro a; simp only [cnt_cons, cnt_app, cnt_nil]; omega))
end
end Go.Proofs.YtoiilcdaldnjfaaGreatDoor
/- SearchWins: the policy that wins. -/
namespace Go.Proofs.YtoiilcdaldnjfaaGreatDoor
open Go.Px
set_option linter.unusedVariables false
set_option linter.unusedSimpArgs false
set_option maxRecDepth 8000

end Go.Proofs.YtoiilcdaldnjfaaGreatDoor
/- SearchZones: its steps, and its plain law. -/
namespace Go.Proofs.YtoiilcdaldnjfaaGreatDoor
open Go.Px
set_option linter.unusedVariables false
set_option linter.unusedSimpArgs false
set_option maxRecDepth 8000

/-! ### the same verdict -/
end Go.Proofs.YtoiilcdaldnjfaaGreatDoor
/- An engine: its zones are live or not, and have records. -/
namespace Go.Proofs.YtoiilcdaldnjfaaGreatDoor
open Go.Px
set_option linter.unusedVariables false
set_option linter.unusedSimpArgs false
set_option maxRecDepth 8000

/-- all zones' indexes fit their records -/
def EnI (l : List Zo) : Prop := ∀ (k : Nat) (z : Zo), l[k]? = some z → SS z.p.zs ∧ z.p.zs.length ≤ 1000 ∧ VM z.p.o (k : Int) (actP z.p) z.V
theorem EnI.set {l : List Zo} {k : Nat} {z' : Zo} (h : EnI l) (h1 : SS z'.p.zs) (h2 : z'.p.zs.length ≤ 1000) (h3 : VM z'.p.o (k : Int) (actP z'.p) z'.V) : EnI (l.set k z') := fun j z hj => by
  rw [List.getElem?_set] at hj
  split at hj
  · split at hj
    · rename_i e _
      subst e
      injection hj with hj
      subst hj
      exact ⟨h1, h2, h3⟩
    · cases hj
  · exact h j z hj
section
variable {b k : Nat} {l : List Zo} {z : Zo} {own F S : SH} {I : IMem}
theorem EngO.few (h : EngO b l own) (hi : EnI l) (hz : l[k]? = some z) : z.c ≤ z.p.zs.length := by
  obtain ⟨ox, rest, n, _, hc, _⟩ := h.idx hz
  exact (hi k z hz).2.2.few hc
theorem eng_put {q : Option Addr} {a0 : Addr} {c d : Nat} {p : Option Addr} {o1 o2 o3 G : SH} {K : SH → Prop} {p' : Pl} {j : Nat} {vs : List Value}
    (h1 : OwnP (.slice q l.length c) (l.map Zo.p) o1) (h2 : OwnR 88 1 elX (.slice p l.length d) (l.map Zo.xb) o2) (h3 : ZosO l o3) (hz : l[k]? = some z) (hq : q = some a0)
    (hs : Sub (enB b q l.length c p l.length d :: (o1 ++ (o2 ++ (o3 ++ (G ++ F))))) S) (hvs : vs.all one = true) (he : encPl p' = (encPl z.p).take j ++ vs ++ (encPl z.p).drop (j + vs.length)) (hj : j + vs.length ≤ 4)
    (hG : ∀ ox, ZoO z ox → ∃ ox', ZoO ⟨p', z.xb, z.V, z.c⟩ ox' ∧ ∀ F T, Sub (ox ++ (G ++ F)) T → Sub (ox' ++ F) T)
    (hK : ∀ own' T, EngO b (l.set k ⟨p', z.xb, z.V, z.c⟩) own' → Sub (own' ++ F) T → K T) : StP S ((a0.add (k * 4)).add j) vs K := by
  have hk : (l.map Zo.p)[k]? = some z.p := by rw [List.getElem?_map, hz]; rfl
  refine OwnR.put (F := enB b q l.length c p l.length d :: (o2 ++ (o3 ++ (G ++ F)))) encPl_len h1 hk (hs.re (by intro a; simp only [cnt_cons, cnt_app]; omega)) hq hvs he hj fun o1' T ho hT => ?_
  obtain ⟨ox, rest, g1, g2, g3⟩ := h3.at_ hz
  obtain ⟨ox', e1, e2⟩ := hG ox g1
  obtain ⟨o3', e3, e4⟩ := g3 _ ox' e1
  have hT1 := g2 (o1' ++ (enB b q l.length c p l.length d :: (o2 ++ (G ++ F)))) T (hT.re (by intro a; simp only [cnt_cons, cnt_app]; omega))
  have hT2 := e2 (rest ++ (o1' ++ (enB b q l.length c p l.length d :: (o2 ++ F)))) T (hT1.re (by intro a; simp only [cnt_cons, cnt_app]; omega))
  have hT3 := e4 (o1' ++ (enB b q l.length c p l.length d :: (o2 ++ F))) T hT2
  refine hK (enB b q (l.set k ⟨p', z.xb, z.V, z.c⟩).length c p (l.set k ⟨p', z.xb, z.V, z.c⟩).length d :: (o1' ++ (o2 ++ o3'))) T ⟨q, c, p, d, o1', o2, o3', ?_, ?_, e3, rfl⟩ ?_
  · rw [map_set_of, List.length_set]; exact ho
  · rw [map_set_same (f := Zo.xb) (z' := ⟨p', z.xb, z.V, z.c⟩) hz rfl, List.length_set]; exact h2
  · rw [List.length_set]; exact hT3.re (by intro a; simp only [cnt_cons, cnt_app]; omega)
theorem Live_runs (h : EngO b l own) (hz : l[k]? = some z) (hl : l.length ≤ 1000) (hs : Sub (own ++ F) S) (is : Bool) : Runs Tryz.prog 13 #[.pointer (some ⟨b, 0, none⟩), .int .i64 (k : Int), .bool is] I S fun v _ T =>
    v = .bool true ∧ ∃ own', EngO b (l.set k ⟨⟨z.p.o, z.p.zn, z.p.zs, is, z.p.over⟩, z.xb, z.V, z.c⟩) own' ∧ Sub (own' ++ F) T := by
  refine engine_Engine_Live_fn _ _ _ _ _ _ ?_
  unfold engine_Engine_Live engine_Engine_Live_b1
  obtain ⟨q, c, p, d, o1, o2, o3, h1, h2, h3, rfl⟩ := h
  have hkl := lt_get hz
  have hk : (l.map Zo.p)[k]? = some z.p := by rw [List.getElem?_map, hz]; rfl
  have hs1 : Sub (enB b q l.length c p l.length d :: (o1 ++ (o2 ++ (o3 ++ ([] ++ F))))) S := hs.re (by intro a; simp only [List.cons_append, cnt_cons, cnt_app, cnt_nil]; omega)
  have c1 : Cell I S ⟨b, 0, none⟩ (.slice q l.length c) := Cell.among hs1 rfl
  obtain ⟨a, rfl, _⟩ := ((h1.row encPl_len).sub hs1.drop.left).cell (I := I) hk
  refine bcase_f (decide_eq_false (by omega)) ⟨_, _, _, c1, ?_⟩
  unfold engine_Engine_Live_b2 engine_Engine_Live_b3
  refine bcase_f (decide_eq_false (by omega)) ⟨_, _, _, c1, by omega, by omega, ?_⟩
  exact eng_put (p' := ⟨z.p.o, z.p.zn, z.p.zs, is, z.p.over⟩) (j := 2) (vs := [.bool is]) (G := []) h1 h2 h3 hz rfl hs1 rfl rfl (Nat.le_of_ble_eq_true rfl) (fun ox ⟨oa, ob, n, g1, g2, g3, e⟩ => ⟨ox, ⟨oa, ob, n, g1, g2, g3, e⟩, fun F T h => h⟩) fun own' T e1 e2 => ⟨rfl, own', e1, e2⟩
theorem Live_out (h : EngO b l own) (hl : l.length ≤ 1000) (hs : Sub (own ++ F) S) {k : Int} (hk : k < 0 ∨ (l.length : Int) ≤ k) (is : Bool) : Runs Tryz.prog 13 #[.pointer (some ⟨b, 0, none⟩), .int .i64 k, .bool is] I S fun v _ T => v = .bool false ∧ T = S := by
  refine engine_Engine_Live_fn _ _ _ _ _ _ ?_
  unfold engine_Engine_Live engine_Engine_Live_b1
  obtain ⟨q, c, p, d, c1, c2, r1, r2⟩ := h.read (I := I) hs
  unfold engine_Engine_Live_b2
  refine bcase_dec (fun g => bcase_t rfl ⟨rfl, rfl⟩) (fun g => ⟨_, _, _, c1, bcase_t (decide_eq_true (by omega)) ⟨rfl, rfl⟩⟩)
theorem app0 {zs : List Rc} {xp : Option Addr} {xc : Nat} {X T : SH} {J : IMem} {K : Option Addr → Nat → Nat → SH → Prop} (hrow : RowIn J T xp zs.length 4 encR zs) (hl : zs.length ≤ 10000) (hs : Sub X T)
    (hK : ∀ u c own T', OwnZ (.slice u zs.length c) zs own → Sub (own ++ X) T' → K u zs.length c T') : AppG 84 4 40 zR (some (.slice 84)) J T (.slice none 0 0) (.slice xp zs.length xc) K := by
  obtain ⟨G, hG⟩ := hs
  refine AppG.own (xs := []) (ys := zs) (el := encR) (own := []) (F := X ++ G) encR_len encR_one rfl (by simpa using hG) OwnR.nil ⟨RowIn.rd encR_len (by decide) hrow, flatMap_one encR_one _⟩ (by simp only [List.length_nil, maxLen]; omega) (by simp only [List.length_nil]; omega) ?_
  intro u n c own ho
  have := ho.len
  subst this
  exact hK u c own _ ho ⟨G, by rw [List.append_assoc]⟩
theorem app_zz {xs ys : List Rc} {v : Value} {own own2 X T : SH} {yp : Option Addr} {yc : Nat} {J : IMem} {K : Option Addr → Nat → Nat → SH → Prop} (hs : Sub (own ++ (own2 ++ X)) T) (hv : OwnZ v xs own) (hw : OwnZ (.slice yp ys.length yc) ys own2) (hl : xs.length ≤ 10000) (hl2 : ys.length ≤ 10000)
    (hK : ∀ u c own' T', OwnZ (.slice u (xs ++ ys).length c) (xs ++ ys) own' → Sub (own' ++ X) T' → K u (xs ++ ys).length c T') : AppG 84 4 40 zR (some (.slice 84)) J T v (.slice yp ys.length yc) K := by
  have hrow : RowIn J T yp ys.length 4 encR ys := (hw.row encR_len).sub hs.right.left
  obtain ⟨G, hG⟩ := hs
  refine AppG.own (xs := xs) (ys := ys) (el := encR) (own := own) (F := (own2 ++ X) ++ G) encR_len encR_one rfl (by rw [← List.append_assoc]; exact hG) hv ⟨RowIn.rd encR_len (by decide) hrow, flatMap_one encR_one _⟩ (by simp only [maxLen]; omega) (by omega) ?_
  intro u n c own' ho
  have := ho.len
  subst this
  exact hK u c own' _ ho ((Sub.refl (own' ++ ((own2 ++ X) ++ G))).re (by intro a; simp only [cnt_app]; omega) : Sub ((own' ++ X) ++ (own2 ++ G)) (own' ++ ((own2 ++ X) ++ G))).left
/-- what becomes of a zone that is told to have records -/
def SetR (b k : Nat) (l : List Zo) (z : Zo) (zs : List Rc) (F : SH) : RT := fun v _ T => v = .bool true ∧ ∃ z' own', z'.p.o = z.p.o ∧ z'.p.over = z.p.over ∧ z'.p.live = z.p.live ∧ z'.p.zs = zs ∧ EngO b (l.set k z') own' ∧ EnI (l.set k z') ∧ Sub (own' ++ F) T
/-- names that are told -/
def mixA (p p' : Pl) (L : List Rc) (m : ByteArray) : Prop := ((∃ r ∈ L, r.1 = m) ∧ actP p' m) ∨ ((∀ r ∈ L, r.1 ≠ m) ∧ actP p m)
theorem set_loop {p : Pl} {z' : Zo} {L : List Rc} {y0 : Option Addr} {yc : Nat} {ownL T : SH} {J : IMem} (g : GL I) (hle : I.le J) (hz : l[k]? = some z) (hl : l.length ≤ 1000) (he : EngO b (l.set k z') own) (hs : Sub (own ++ (ownL ++ F)) T) (hL : OwnZ (.slice y0 L.length yc) L ownL)
    (hi : EnI l) (hc : z'.c ≤ 10000) (hLl : L.length ≤ 10000) (hzl : z'.p.zs.length ≤ 1000) (hss : SS z'.p.zs) (hV : VM z'.p.o (k : Int) (actP p) z'.V) (hov : p.over = z'.p.over) (hps : SS p.zs) (hLe : L = lessF p.zs z'.p.zs ++ lessF z'.p.zs p.zs) (hzo : z'.p.o = z.p.o) (hzv : z'.p.over = z.p.over) (hzi : z'.p.live = z.p.live) :
    engine_Engine_Set_b5 (SetR b k l z z'.p.zs F) (some ⟨b, 0, none⟩) (k : Int) y0 L.length yc (L.length : Int) 0 J T := by
  have hkl := lt_get hz
  unfold engine_Engine_Set_b5
  refine ⟨fun m x0 x1 y yn yc q i J T => x0 = some ⟨b, 0, none⟩ ∧ x1 = (k : Int) ∧ y = y0 ∧ yn = L.length ∧ q = (L.length : Int) ∧ I.le J ∧ ∃ (j : Nat) (V' : Tg → Option Int) (c' : Nat) (own' : SH), i = (j : Int) ∧ j ≤ L.length ∧ m = L.length - j ∧ EngO b (l.set k ⟨z'.p, z'.xb, V', c'⟩) own' ∧ c' ≤ z'.c + j ∧ VM z'.p.o (k : Int) (mixA p z'.p (L.take j)) V' ∧ Sub (own' ++ (ownL ++ F)) T,
    L.length, ⟨rfl, rfl, rfl, rfl, rfl, hle, 0, z'.V, z'.c, own, rfl, Nat.zero_le _, rfl, he, Nat.le_refl _, hV.congr fun m => ?_, hs⟩, ?_⟩
  · unfold mixA
    constructor
    · exact fun e => .inr ⟨fun r hr => (by cases hr), e⟩
    · rintro (⟨⟨r, hr, _⟩, _⟩ | ⟨_, e⟩)
      · cases hr
      · exact e
  clear hs he hle
  rintro m x0 x1 y yn yc q i J T - ⟨rfl, rfl, rfl, rfl, rfl, hle, j, V', c', own', rfl, hj, rfl, he, hc', hV', hs⟩
  unfold engine_Engine_Set_l6
  refine bcase_dec (fun hg => ?_) (fun hg => ?_)
  · obtain ⟨r, hr⟩ := get_lt (xs := L) (k := j) (by omega)
    obtain ⟨a, rfl, hcl⟩ := ((hL.row encR_len).sub hs.right.left).cell (I := J) hr
    obtain ⟨c0, c1, c2, c3⟩ := CellsR hcl
    refine ⟨by omega, by omega, _, c0, _, c1, _, c2, _, c3, fun b11 => StP.rec (x := r) ⟨_, Cell.at0 rfl, ?_⟩⟩
    have hz' : (l.set k ⟨z'.p, z'.xb, V', c'⟩)[k]? = some ⟨z'.p, z'.xb, V', c'⟩ := by rw [List.getElem?_set_self hkl]
    refine (touch_runs (F := ownL ++ F) (g.le hle) he hz' (by rw [List.length_set]; exact hl) (hs.skip _) (by show c' ≤ 1000000; omega) (by show z'.p.zs.length ≤ 10000; omega) r.1).mono ?_
    rintro v J1 T1 hle1 ⟨rfl, V2, c2, own2, he2, hc2, hV2, hs2⟩
    rw [List.set_set] at he2
    have hnext : IntKind.wrap .i64 ((j : Int) + 1) = ((j + 1 : Nat) : Int) := by rw [wrap_i64 (by omega) (by omega)]; rfl
    refine ⟨rfl, L.length - (j + 1), by omega, rfl, rfl, rfl, rfl, rfl, hle.trans hle1, j + 1, V2, c2, own2, hnext, by omega, rfl, he2, (by have : c2 ≤ c' + 1 := hc2; omega), (hV2 _ hV').congr fun m => ?_, hs2⟩
    rw [take_snoc hr]
    unfold mixA
    simp only [List.mem_append, List.mem_singleton]
    constructor
    · rintro (⟨rfl, e⟩ | ⟨hne, ⟨⟨w, hw, e1⟩, e⟩ | ⟨hn, e⟩⟩)
      · exact .inl ⟨⟨r, .inr rfl, rfl⟩, e⟩
      · exact .inl ⟨⟨w, .inl hw, e1⟩, e⟩
      · refine .inr ⟨fun w hw => ?_, e⟩
        rcases hw with hw | rfl
        · exact hn w hw
        · exact fun e => hne e.symm
    · rintro (⟨⟨w, hw, e1⟩, e⟩ | ⟨hn, e⟩)
      · by_cases hm : m = r.1
        · exact .inl ⟨hm, hm ▸ e⟩
        · rcases hw with hw | rfl
          · exact .inr ⟨hm, .inl ⟨⟨w, hw, e1⟩, e⟩⟩
          · exact absurd e1.symm hm
      · exact .inr ⟨fun e2 => hn r (.inr rfl) e2.symm, .inr ⟨fun w hw => hn w (.inl hw), e⟩⟩
  · have hje : j = L.length := by omega
    subst hje
    rw [List.take_length] at hV'
    unfold engine_Engine_Set_b7
    refine ⟨rfl, ⟨z'.p, z'.xb, V', c'⟩, own', hzo, hzv, hzi, rfl, he, hi.set hss hzl (hV'.congr fun m => ?_), (hs.re (by intro a; simp only [cnt_app]; omega) : Sub ((own' ++ F) ++ ownL) T).left⟩
    show mixA p z'.p L m ↔ actP z'.p m
    unfold mixA
    have same : (∀ r ∈ L, r.1 ≠ m) → (actP p m ↔ actP z'.p m) := fun hn => act_same hov hps hss (fun r hr => hn r (by rw [hLe]; exact List.mem_append_left _ hr)) (fun r hr => hn r (by rw [hLe]; exact List.mem_append_right _ hr))
    constructor
    · rintro (⟨_, e⟩ | ⟨hn, e⟩)
      · exact e
      · exact (same hn).1 e
    · intro e
      by_cases hx : ∃ r ∈ L, r.1 = m
      · exact .inl ⟨hx, e⟩
      · have hn : ∀ r ∈ L, r.1 ≠ m := fun r hr e2 => hx ⟨r, hr, e2⟩
        exact .inr ⟨hn, (same hn).2 e⟩
theorem Set_runs (g : GL I) (h : EngO b l own) (hi : EnI l) (hz : l[k]? = some z) (hl : l.length ≤ 1000) (hs : Sub (own ++ F) S) {zs : List Rc} {xp : Option Addr} {xc : Nat} (hx : RowIn I S xp zs.length 4 encR zs) (hss : SS zs) (hzl : zs.length ≤ 1000) :
    Runs Tryz.prog 11 #[.pointer (some ⟨b, 0, none⟩), .int .i64 (k : Int), .slice xp zs.length xc] I S (SetR b k l z zs F) := by
  refine engine_Engine_Set_fn _ _ _ _ _ _ _ _ ?_
  unfold engine_Engine_Set engine_Engine_Set_b1
  obtain ⟨i1, i2, i3⟩ := hi k z hz
  have hP := h.pl (I := I) hz (by omega) hs
  have hzc := h.few hi hz
  obtain ⟨q, c, p, d, o1, o2, o3, h1, h2, h3, rfl⟩ := h
  have hkl := lt_get hz
  have hk : (l.map Zo.p)[k]? = some z.p := by rw [List.getElem?_map, hz]; rfl
  have hs1 : Sub (enB b q l.length c p l.length d :: (o1 ++ (o2 ++ (o3 ++ F)))) S := hs.re (by intro a; simp only [List.cons_append, cnt_cons, cnt_app]; omega)
  have c1 : Cell I S ⟨b, 0, none⟩ (.slice q l.length c) := Cell.among hs1 rfl
  obtain ⟨a, rfl, hcl⟩ := ((h1.row encPl_len).sub hs1.drop.left).cell (I := I) hk
  refine bcase_f (decide_eq_false (by omega)) ⟨_, _, _, c1, ?_⟩
  unfold engine_Engine_Set_b2 engine_Engine_Set_b3
  have c3 : Cell I S ((a.add (k * 4)).add 1) (.slice z.p.zn.1 z.p.zs.length z.p.zn.2.2) := by
    have hlen : z.p.zn.2.1 = z.p.zs.length := hP.len
    rw [← hlen]; exact hcl 1 _ rfl
  refine bcase_f (decide_eq_false (by omega)) ⟨_, _, _, c1, by omega, by omega, _, _, _, c3, ?_⟩
  refine (Between_runs hP.row hx i1 hss (by omega) (by omega)).mono ?_
  rintro v J T hle ⟨g1, gn, gc, f1, fn, fc, own1, own2, rfl, ho1, ho2, hs2⟩
  refine ⟨_, _, _, _, _, _, rfl, ?_⟩
  have hsT : Sub S T := hs2.right.right
  refine app0 (zs := zs) (X := own2 ++ (own1 ++ S)) ((hx.le hle).sub hsT) (by omega) hs2 fun u c' ownz T2 hoz hs3 => ?_
  have hs4 : Sub (enB b (some a) l.length c p l.length d :: (o1 ++ (o2 ++ (o3 ++ (ownz ++ (own2 ++ (own1 ++ F))))))) T2 :=
    (((Sub.refl (ownz ++ (own2 ++ own1))).both hs1).trans (hs3.re (by intro a; simp only [cnt_app]; omega))).re (by intro a; simp only [cnt_cons, cnt_app]; omega)
  refine eng_put (p' := ⟨z.p.o, (u, zs.length, c'), zs, z.p.live, z.p.over⟩) (j := 1) (vs := [.slice u zs.length c']) (G := ownz) (F := own2 ++ (own1 ++ F)) h1 h2 h3 hz rfl hs4 rfl rfl (Nat.le_of_ble_eq_true rfl)
    (fun ox ⟨oa, ob, n, g1, g2, g3, e⟩ => ⟨ownz ++ ob, ⟨ownz, ob, n, hoz, g2, g3, rfl⟩, fun F T h => by
      subst e
      exact (h.re (by intro a; simp only [cnt_app]; omega) : Sub (((ownz ++ ob) ++ F) ++ oa) T).left⟩) fun own3 T3 he hs5 => ?_
  unfold engine_Engine_Set_b4
  have l1 := less_len z.p.zs zs
  have l2 := less_len zs z.p.zs
  have e2 := ho2.len
  subst e2
  refine app_zz (xs := lessF z.p.zs zs) (ys := lessF zs z.p.zs) (own := own1) (own2 := own2) (X := own3 ++ F) (hs5.re (by intro a; simp only [cnt_app]; omega)) ho1 ho2 (by omega) (by omega) fun y yc ownL T4 hoL hs6 => ?_
  exact set_loop (p := z.p) (z' := ⟨⟨z.p.o, (u, zs.length, c'), zs, z.p.live, z.p.over⟩, z.xb, z.V, z.c⟩) g hle hz hl he (hs6.re (by intro a; simp only [cnt_app]; omega)) hoL hi (by show z.c ≤ 10000; omega) (by rw [List.length_append]; omega) hzl hss i3 rfl i1 rfl rfl rfl rfl
theorem Set_out (h : EngO b l own) (hl : l.length ≤ 1000) (hs : Sub (own ++ F) S) {k : Int} (hk : k < 0 ∨ (l.length : Int) ≤ k) (xp : Option Addr) (xn xc : Nat) : Runs Tryz.prog 11 #[.pointer (some ⟨b, 0, none⟩), .int .i64 k, .slice xp xn xc] I S fun v _ T => v = .bool false ∧ T = S := by
  refine engine_Engine_Set_fn _ _ _ _ _ _ _ _ ?_
  unfold engine_Engine_Set engine_Engine_Set_b1
  obtain ⟨q, c, p, d, c1, c2, r1, r2⟩ := h.read (I := I) hs
  unfold engine_Engine_Set_b2
  refine bcase_dec (fun g => bcase_t rfl ⟨rfl, rfl⟩) (fun g => ⟨_, _, _, c1, bcase_t (decide_eq_true (by omega)) ⟨rfl, rfl⟩⟩)
end
end Go.Proofs.YtoiilcdaldnjfaaGreatDoor
/- An engine: one that begins, how many zones there are, how many triggers each has, and its policies. -/
namespace Go.Proofs.YtoiilcdaldnjfaaGreatDoor
open Go.Px
set_option linter.unusedVariables false
set_option linter.unusedSimpArgs false
set_option maxRecDepth 8000

theorem app_x {xs : List Nat} {xb b : Nat} {v : Value} {S F own : SH} {I : IMem} {K : Option Addr → Nat → Nat → SH → Prop} (hs : Sub (own ++ F) S) (hv : OwnR 88 1 elX v xs own) (hl : xs.length ≤ 10000)
    (hK : ∀ q n c own' T, OwnR 88 1 elX (.slice q n c) (xs ++ [xb]) own' → Sub (own' ++ F) T → K q n c T) :
    AppG 88 1 8 [.pointer none] (some (.slice 88)) I ((b, .cells #[.pointer (some ⟨xb, 0, none⟩)] 88 (0, 0)) :: S) v (.slice (some ⟨b, 0, none⟩) 1 1) K := by
  obtain ⟨G, hG⟩ := hs.skip (b, .cells #[.pointer (some ⟨xb, 0, none⟩)] 88 (0, 0))
  exact AppG.own (xs := xs) (ys := [xb]) (el := elX) elX_len elX_one rfl (by rw [List.append_assoc] at hG; exact hG) hv ⟨Rd.list (L := elX xb) rfl (by simp [elX]), rfl⟩ (by simp only [List.length_singleton, maxLen]; omega) (by simp only [List.length_singleton]; omega)
    fun p n c own' h => hK p n c own' _ h ⟨G, by rw [List.append_assoc]⟩
theorem elI9_len (n : Int) : (elI9 n).length = 1 := rfl
theorem elI9_one (n : Int) : (elI9 n).all one = true := rfl
abbrev OwnI (v : Value) (xs : List Int) (own : SH) : Prop := OwnR 3 1 elI9 v xs own
theorem app_i {xs : List Int} {x : Int} {b : Nat} {v : Value} {S F own : SH} {I : IMem} {K : Option Addr → Nat → Nat → SH → Prop} (hs : Sub (own ++ F) S) (hv : OwnI v xs own) (hl : xs.length ≤ 10000)
    (hK : ∀ q n c own' T, OwnI (.slice q n c) (xs ++ [x]) own' → Sub (own' ++ F) T → K q n c T) :
    AppG 3 1 8 [.int .i64 0] (some (.slice 3)) I ((b, .cells #[.int .i64 x] 3 (0, 0)) :: S) v (.slice (some ⟨b, 0, none⟩) 1 1) K := by
  obtain ⟨G, hG⟩ := hs.skip (b, .cells #[.int .i64 x] 3 (0, 0))
  exact AppG.own (xs := xs) (ys := [x]) (el := elI9) elI9_len elI9_one rfl (by rw [List.append_assoc] at hG; exact hG) hv ⟨Rd.list (L := elI9 x) rfl (by simp [elI9]), rfl⟩ (by simp only [List.length_singleton, maxLen]; omega) (by simp only [List.length_singleton]; omega)
    fun p n c own' h => hK p n c own' _ h ⟨G, by rw [List.append_assoc]⟩
/-- zones that begin -/
def OfL (os : List ByteArray) (ks : List Int) (l : List Zo) : Prop := ∀ (k : Nat) (z : Zo), l[k]? = some z → os[k]? = some z.p.o ∧ z.p.over = (ks[k]?).getD 0 ∧ z.p.live = false ∧ z.p.zs = []
def OfR (os : List ByteArray) (ks : List Int) (S : SH) : RT := fun v _ T => ∃ b l own, v = .pointer (some ⟨b, 0, none⟩) ∧ l.length = min os.length 32 ∧ OfL os ks l ∧ EngO b l own ∧ EnI l ∧ Sub (own ++ S) T
theorem get_snoc {α : Type} {l : List α} {x z : α} {k : Nat} (h : (l ++ [x])[k]? = some z) : (l[k]? = some z) ∨ (k = l.length ∧ z = x) := by
  rcases Nat.lt_or_ge k l.length with g | g
  · rw [List.getElem?_append_left g] at h; exact .inl h
  · have hk := lt_get h
    rw [List.length_append, List.length_singleton] at hk
    have : k = l.length := by omega
    subst this
    rw [List.getElem?_append_right (Nat.le_refl _), Nat.sub_self] at h
    exact .inr ⟨rfl, (Option.some.inj h).symm⟩
theorem EOf_runs {os : List ByteArray} {ks : List Int} {a a2 : Option Addr} {c0 c2 : Nat} {I : IMem} {S : SH} (hx : RowIn I S a os.length 1 elS os) (hy : RowIn I S a2 ks.length 1 elI9 ks) (hl : os.length ≤ 1000000) :
    Runs Tryz.prog 9 #[.slice a os.length c0, .slice a2 ks.length c2] I S (OfR os ks S) := by
  refine engine_Of_fn _ _ _ _ _ _ _ _ _ ?_
  unfold engine_Of engine_Of_b1 engine_Of_b2
  intro b
  refine ⟨fun m x1 x1n x1c x5 y yn yc q i J T => x1 = a2 ∧ x1n = ks.length ∧ x5 = some ⟨b, 0, none⟩ ∧ y = a ∧ yn = os.length ∧ q = (os.length : Int) ∧ I.le J ∧ ∃ l own, i = (l.length : Int) ∧ l.length ≤ os.length ∧ l.length ≤ 32 ∧ m = os.length - l.length ∧ OfL os ks l ∧ EngO b l own ∧ EnI l ∧ Sub (own ++ S) T,
    os.length, ⟨rfl, rfl, rfl, rfl, rfl, rfl, IMem.le.refl I, [], [enB b none 0 0 none 0 0], rfl, Nat.zero_le _, Nat.zero_le _, rfl, fun k z h => (by simp at h), ⟨none, 0, none, 0, [], [], [], OwnR.nil, OwnR.nil, rfl, rfl⟩, fun k z h => (by simp at h), Sub.refl _⟩, ?_⟩
  rintro m z1 x1n x1c x5 y yn yc q i J T - ⟨rfl, rfl, rfl, rfl, rfl, rfl, hle, l, own, rfl, hk, hk2, rfl, hof, he, hi, hs⟩
  unfold engine_Of_l3
  refine bcase_dec (fun hg => ?_) (fun hg => ?_)
  · unfold engine_Of_b4
    obtain ⟨o, ho⟩ := get_lt (xs := os) (k := l.length) (by omega)
    have hS : Sub S T := hs.right
    obtain ⟨a', rfl, hc⟩ := ((hx.sub hS).le hle).cell ho
    refine ⟨by omega, by omega, _, (by simpa [Addr.add] using hc 0 _ rfl), bcase_beq (fun h32 => ?_) (fun h32 => fun b8 => StP.all (vs := encPl ⟨o, (none, 0, 0), [], false, 0⟩) rfl rfl ?_)⟩
    · unfold engine_Of_b5
      exact ⟨b, l, own, rfl, by omega, hof, he, hi, hs⟩
    have cont : ∀ (ov : Int) (T' : SH), ov = (ks[l.length]?).getD 0 → Sub (plB b8 ⟨o, (none, 0, 0), [], false, ov⟩ :: (own ++ S)) T' →
        engine_Of_b6 (fun x1 x1n x1c x5 y yn yc q i J T => ∃ m', m' < os.length - l.length ∧ (x1 = z1 ∧ x1n = ks.length ∧ x5 = some ⟨b, 0, none⟩ ∧ y = some a' ∧ yn = os.length ∧ q = (os.length : Int) ∧ I.le J ∧ ∃ l own, i = (l.length : Int) ∧ l.length ≤ os.length ∧ l.length ≤ 32 ∧ m' = os.length - l.length ∧ OfL os ks l ∧ EngO b l own ∧ EnI l ∧ Sub (own ++ S) T)) (OfR os ks S) z1 ks.length x1c (some ⟨b, 0, none⟩) ⟨b8, 0, none⟩ (some a') os.length yc (os.length : Int) (l.length : Int) J T' := by
      intro ov T' hov hs'
      unfold engine_Of_b6
      obtain ⟨q, c, p, d, o1, o2, o3, h1, h2, h3, rfl⟩ := he
      have hB : Sub (enB b q l.length c p l.length d :: (o1 ++ (o2 ++ (o3 ++ S)))) T' := hs'.drop.re (by intro a; simp only [List.cons_append, cnt_cons, cnt_app]; omega)
      obtain ⟨d0, d1, d2, d3⟩ := plX (I := J) hs'
      refine ⟨_, _, _, Cell.among hB rfl, _, d0, _, _, _, d1, _, d2, _, d3, fun b37 => ⟨((Sub.refl T').skip _).keep (IMem.le.refl J), app_p (p := ⟨o, (none, 0, 0), [], false, ov⟩) (F := enB b q l.length c p l.length d :: (o2 ++ (o3 ++ S))) (hB.re (by intro a; simp only [cnt_cons, cnt_app]; omega)) h1 (by rw [List.length_map]; omega) ?_⟩⟩
      intro u n cc o1' T2 ho1 hs2
      have hn := ho1.len
      rw [List.length_append, List.length_map, List.length_singleton] at hn
      subst hn
      refine StP.among (e := 87) (L := [.slice q l.length c, .slice p l.length d]) (L' := [.slice u (l.length + 1) cc, .slice p l.length d]) (F := o1' ++ (o2 ++ (o3 ++ S))) (hs2.re (by intro a; simp only [enB, cnt_cons, cnt_app]; omega)) (Nat.le_of_ble_eq_true rfl) rfl rfl fun T3 hs3 => ?_
      unfold engine_Of_b7
      refine ⟨_, _, _, Cell.at_ (add_mk _ _ _) (Cell.among hs3 rfl), (IOf_runs _ _).mono ?_⟩
      rintro v J4 T4 hle4 ⟨xb, ox, rfl, hix, hs4⟩
      refine ⟨_, rfl, hs4.right.keep hle4, fun b47 => ⟨(hs4.right.skip _).keep hle4, app_x (xb := xb) (F := enB b u (l.length + 1) cc p l.length d :: (o1' ++ (ox ++ (o3 ++ S)))) ((((Sub.refl ox).both hs3).trans hs4).re (by intro a; simp only [enB, cnt_cons, cnt_app]; omega)) h2 (by rw [List.length_map]; omega) ?_⟩⟩
      intro u2 n2 cc2 o2' T5 ho2 hs5
      have hn := ho2.len
      rw [List.length_append, List.length_map, List.length_singleton] at hn
      subst hn
      refine StP.at_ (a' := ⟨b, 1, none⟩) (add_mk _ _ _) (StP.among (e := 87) (L := [.slice u (l.length + 1) cc, .slice p l.length d]) (L' := [.slice u (l.length + 1) cc, .slice u2 (l.length + 1) cc2]) (F := o2' ++ (o1' ++ (ox ++ (o3 ++ S)))) (hs5.re (by intro a; simp only [enB, cnt_cons, cnt_app]; omega)) (Nat.le_of_ble_eq_true rfl) rfl rfl fun T6 hs6 => ?_)
      unfold engine_Of_b8
      obtain ⟨o3', e1, e2⟩ := h3.snoc (z := ⟨⟨o, (none, 0, 0), [], false, ov⟩, xb, fun _ => none, 0⟩) (o' := [] ++ ox) ⟨[], ox, 0, OwnR.nil, hix, IxC.nil, rfl⟩
      have hs7 := e2 (enB b u (l.length + 1) cc u2 (l.length + 1) cc2 :: (o1' ++ (o2' ++ S))) T6 (hs6.re (by intro a; simp only [enB, List.nil_append, cnt_cons, cnt_app]; omega))
      have hlen : (l ++ [(⟨⟨o, (none, 0, 0), [], false, ov⟩, xb, fun _ => none, 0⟩ : Zo)]).length = l.length + 1 := by rw [List.length_append]; rfl
      refine ⟨os.length - (l.length + 1), by omega, rfl, rfl, rfl, rfl, rfl, rfl, hle.trans hle4, l ++ [⟨⟨o, (none, 0, 0), [], false, ov⟩, xb, fun _ => none, 0⟩], enB b u (l.length + 1) cc u2 (l.length + 1) cc2 :: (o1' ++ (o2' ++ o3')), ?_, by omega, by omega, by omega, fun k z hz => ?_, ?_, fun k z hz => ?_, hs7.re (by intro a; simp only [List.cons_append, cnt_cons, cnt_app]; omega)⟩
      · rw [hlen, wrap_i64 (by omega) (by omega)]; rfl
      · rcases get_snoc hz with hz | ⟨rfl, rfl⟩
        · exact hof k z hz
        · exact ⟨ho, hov, rfl, rfl⟩
      · refine ⟨u, cc, u2, cc2, o1', o2', o3', ?_, ?_, e1, by rw [hlen]⟩
        · rw [hlen, List.map_append]; exact ho1
        · rw [hlen, List.map_append]; exact ho2
      · rcases get_snoc hz with hz | ⟨rfl, rfl⟩
        · exact hi k z hz
        · exact ⟨List.Pairwise.nil, Nat.zero_le _, VM.none fun n h => by obtain ⟨r, hr, _⟩ := act_mem h; cases hr⟩
    have hs8 : Sub (plB b8 ⟨o, (none, 0, 0), [], false, 0⟩ :: (own ++ S)) (plB b8 ⟨o, (none, 0, 0), [], false, 0⟩ :: T) := hs.cons _
    refine bcase_dec (fun hv => ?_) (fun hv => cont 0 _ (by rw [List.getElem?_eq_none (by omega)]; rfl) hs8)
    obtain ⟨kv, hkv⟩ := get_lt (xs := ks) (k := l.length) (by omega)
    obtain ⟨a3, ea3, hc3⟩ := ((hy.sub (hS.skip (plB b8 ⟨o, (none, 0, 0), [], false, 0⟩))).le hle).cell hkv
    subst ea3
    refine ⟨by omega, by omega, _, (by simpa [Addr.add] using hc3 0 _ rfl), StP.among (e := 65) (L := encPl ⟨o, (none, 0, 0), [], false, 0⟩) hs8 (by show 3 + 1 ≤ 4; decide) rfl rfl fun T5 hs5 => cont kv T5 (by rw [hkv]; rfl) hs5⟩
  · unfold engine_Of_b5
    exact ⟨b, l, own, rfl, by omega, hof, he, hi, hs⟩
section
variable {b : Nat} {l : List Zo} {own F S : SH} {I : IMem}
theorem ELen_runs (h : EngO b l own) (hs : Sub (own ++ F) S) : Runs Tryz.prog 16 #[.pointer (some ⟨b, 0, none⟩)] I S fun v _ T => v = .int .i64 (l.length : Int) ∧ T = S := by
  refine engine_Engine_Len_fn _ _ _ _ ?_
  unfold engine_Engine_Len
  obtain ⟨q, c, p, d, c1, c2, r1, r2⟩ := h.read (I := I) hs
  exact ⟨_, _, _, c1, rfl, rfl⟩
theorem EPol_runs (h : EngO b l own) (hs : Sub (own ++ F) S) (hl : l.length ≤ 1000) : Runs Tryz.prog 18 #[.pointer (some ⟨b, 0, none⟩)] I S fun v _ T => ∃ u c o, v = .slice u l.length c ∧ OwnP (.slice u l.length c) (l.map Zo.p) o ∧ Sub (o ++ (own ++ F)) T := by
  refine engine_Engine_Policies_fn _ _ _ _ ?_
  unfold engine_Engine_Policies
  obtain ⟨q, c, p, d, c1, c2, r1, r2⟩ := h.read (I := I) hs
  refine ⟨_, _, _, c1, ?_⟩
  obtain ⟨G, hG⟩ := hs
  have hll : (l.map Zo.p).length = l.length := List.length_map ..
  have r1' : RowIn I S q (l.map Zo.p).length 4 encPl (l.map Zo.p) := by rw [hll]; exact r1
  rw [show (Value.slice q l.length c) = .slice q (l.map Zo.p).length c by rw [hll]]
  refine AppG.own (xs := []) (ys := l.map Zo.p) (el := encPl) (own := []) (F := (own ++ F) ++ G) encPl_len encPl_one rfl (by simpa using hG) OwnR.nil ⟨RowIn.rd encPl_len (by decide) r1', flatMap_one encPl_one _⟩ (by simp only [List.length_nil, maxLen]; omega) (by simp only [List.length_nil]; omega) ?_
  intro u n c o ho
  have := ho.len
  rw [List.nil_append, hll] at this
  subst this
  exact ⟨u, c, o, rfl, ho, ⟨G, by simp only [List.append_assoc]; exact List.Perm.refl _⟩⟩
theorem ESizes_runs (h : EngO b l own) (hi : EnI l) (hs : Sub (own ++ F) S) (hl : l.length ≤ 1000) : Runs Tryz.prog 17 #[.pointer (some ⟨b, 0, none⟩)] I S fun v _ T => ∃ u c o own', v = .slice u l.length c ∧ OwnI (.slice u l.length c) (l.map fun z => (z.c : Int)) o ∧ EngO b l own' ∧ Sub (o ++ (own' ++ F)) T := by
  refine engine_Engine_Sizes_fn _ _ _ _ ?_
  unfold engine_Engine_Sizes engine_Engine_Sizes_b1 engine_Engine_Sizes_b2
  obtain ⟨q, c, p, d, c1, c2, r1, r2⟩ := h.read (I := I) hs
  -- the row of indexes stays where it is
  obtain ⟨qq, cc, pp, dd, o1, o2, o3, h1, h2, h3, e⟩ := h
  subst e
  have hs1 : Sub (enB b qq l.length cc pp l.length dd :: (o1 ++ (o2 ++ (o3 ++ F)))) S := hs.re (by intro a; simp only [List.cons_append, cnt_cons, cnt_app]; omega)
  refine ⟨pp, l.length, dd, Cell.at_ (add_mk _ _ _) (Cell.among hs1 rfl), ?_⟩
  refine ⟨fun m x xn xc y yn yc q i J T => y = pp ∧ yn = l.length ∧ q = (l.length : Int) ∧ I.le J ∧ ∃ (k : Nat) (o o3' : SH), i = (k : Int) ∧ k ≤ l.length ∧ m = l.length - k ∧ OwnI (.slice x xn xc) ((l.take k).map fun z => (z.c : Int)) o ∧ ZosO l o3' ∧ Sub (o ++ (enB b qq l.length cc pp l.length dd :: (o1 ++ (o2 ++ (o3' ++ F))))) T,
    l.length, ⟨rfl, rfl, rfl, IMem.le.refl I, 0, [], o3, rfl, Nat.zero_le _, rfl, OwnR.nil, h3, hs1⟩, ?_⟩
  rintro m x xn xc y yn yc q i J T - ⟨rfl, rfl, rfl, hle, k, o, o3', rfl, hk, rfl, ho, h3', hsk⟩
  unfold engine_Engine_Sizes_l3
  refine bcase_dec (fun hg => ?_) (fun hg => ?_)
  · obtain ⟨z, hz⟩ := get_lt (xs := l) (k := k) (by omega)
    have hx := (h2.row elX_len (I := J)).sub (hsk.right.drop.right.left)
    obtain ⟨a, rfl, hc⟩ := EngO.ptr hx hz
    obtain ⟨ox, rest, ⟨oz, oi, n, e1, e2, e3, rfl⟩, g2, g3⟩ := h3'.at_ hz
    have hzc := e3
    have hs2 := g2 (o ++ (enB b qq l.length cc (some a) l.length dd :: (o1 ++ (o2 ++ F)))) T (hsk.re (by intro a; simp only [cnt_cons, cnt_app]; omega))
    have hcz : z.c ≤ 1000 := by
      obtain ⟨i1, i2, i3⟩ := hi k z hz
      have := i3.few e3
      omega
    refine ⟨by omega, by omega, _, hc, (ILen_runs (F := oz ++ (rest ++ (o ++ (enB b qq l.length cc (some a) l.length dd :: (o1 ++ (o2 ++ F)))))) e2 (hs2.re (by intro a; simp only [cnt_cons, cnt_app]; omega)) (by omega)).mono ?_⟩
    rintro v J2 T2 hle2 ⟨rfl, hs3⟩
    obtain ⟨o3'', f1, f2⟩ := g3 z (oz ++ oi) ⟨oz, oi, n, e1, e2, e3, rfl⟩
    rw [set_self hz] at f1
    have hs4 := f2 (o ++ (enB b qq l.length cc (some a) l.length dd :: (o1 ++ (o2 ++ F)))) T2 (hs3.re (by intro a; simp only [cnt_cons, cnt_app]; omega))
    refine ⟨_, rfl, fun b18 => app_i (x := (z.c : Int)) (F := enB b qq l.length cc (some a) l.length dd :: (o1 ++ (o2 ++ (o3'' ++ F)))) (hs4.re (by intro a; simp only [cnt_cons, cnt_app]; omega)) ho (by rw [List.length_map, List.length_take]; omega) ?_⟩
    intro u n' c' o' T3 ho' hs5
    refine ⟨l.length - (k + 1), by omega, rfl, rfl, rfl, hle.trans hle2, k + 1, o', o3'', by rw [wrap_i64 (by omega) (by omega)]; rfl, by omega, rfl, ?_, f1, hs5⟩
    rw [take_snoc hz, List.map_append]; exact ho'
  · have hke : k = l.length := by omega
    subst hke
    rw [List.take_length] at ho
    unfold engine_Engine_Sizes_b4
    have hn := ho.len
    rw [List.length_map] at hn
    subst hn
    exact ⟨x, xc, o, _, rfl, ho, ⟨qq, cc, y, dd, o1, o2, o3', h1, h2, h3', rfl⟩, hsk.re (by intro a; simp only [List.cons_append, cnt_cons, cnt_app]; omega)⟩
end
end Go.Proofs.YtoiilcdaldnjfaaGreatDoor
/- What is decided is what a search among all records finds. -/
namespace Go.Proofs.YtoiilcdaldnjfaaGreatDoor
open Go.Px
set_option linter.unusedVariables false
set_option linter.unusedSimpArgs false
set_option maxRecDepth 8000

/-- of all records that fit none stands ahead of it -/
def BestS (f : Fa) (ps : List Pl) (st : Bs) : Prop := (∀ k p r t a, ps[k]? = some p → r ∈ p.zs → cand f p r = some (t, a) → ∃ z t' a', st = some (z, t', a') ∧ ahead k z t t' = false) ∧
  (∀ z t a, st = some (z, t, a) → ∃ p r, ps[z]? = some p ∧ r ∈ p.zs ∧ cand f p r = some (t, a))
theorem ahead_kk (k : Nat) (t u : Tg) : ahead k k t u = ahead 0 0 t u := by
  apply Bool.eq_iff_iff.2
  rw [ahead_iff, ahead_iff]
  simp
theorem tg_det {t u : Tg} (ht : encF t ≠ none) (hu : encF u ≠ none) (h : rkN t = rkN u) (h1 : t.2.1 = u.2.1) (h2 : t.2.2.1 = u.2.2.1) : t = u := by
  rcases enc_shape ht with ⟨k1, a1, ⟨⟨z1, n1, m1⟩, c1⟩⟩ | ⟨k1, a1, b1⟩
  · rcases enc_shape hu with ⟨k2, a2, ⟨⟨z2, n2, m2⟩, c2⟩⟩ | ⟨k2, a2, b2⟩
    · have e1 : lenT t = t.2.2.2 := lenT_b (by omega)
      have e2 : lenT u = u.2.2.2 := lenT_b (by omega)
      unfold rkN at h
      rw [e1, e2] at h
      have g1 := ipK_iff.1 k1
      have g2 := ipK_iff.1 k2
      have e3 : t.1 = u.1 := by omega
      have e4 : t.2.2.2 = u.2.2.2 := by omega
      exact Prod.ext e3 (Prod.ext h1 (Prod.ext h2 e4))
    · rw [h2, a2] at z1
      exact absurd z1 (by decide)
  · rcases enc_shape hu with ⟨k2, a2, ⟨⟨z2, n2, m2⟩, c2⟩⟩ | ⟨k2, a2, b2⟩
    · rw [← h2, a1] at z2
      exact absurd z2 (by decide)
    · have e1 : t = tgN t.1 t.2.1 := Prod.ext rfl (Prod.ext rfl (Prod.ext a1 b1))
      have e2 : u = tgN u.1 u.2.1 := Prod.ext rfl (Prod.ext rfl (Prod.ext a2 b2))
      unfold nmK at k1 k2
      have r1 := rkN_n (k := t.1) (n := t.2.1) (by omega)
      have r2 := rkN_n (k := u.1) (n := u.2.1) (by omega)
      rw [← e1] at r1
      rw [← e2, ← h1] at r2
      have e3 : t.1 = u.1 := by omega
      exact Prod.ext e3 (Prod.ext h1 (Prod.ext h2 (b1.trans b2.symm)))
theorem cand_enc {f : Fa} {p : Pl} {r : Rc} {t : Tg} {a : Av} (h : cand f p r = some (t, a)) : trgO p.o r.1 = some t := node_trg (cand_node h)
theorem BestS.uniq {f : Fa} {ps : List Pl} {st st' : Bs} (h : BestS f ps st) (g : BestS f ps st') : st = st' := by
  cases st with
  | none =>
    cases st' with
    | none => rfl
    | some x =>
      obtain ⟨z, t, a⟩ := x
      obtain ⟨p, r, h1, h2, h3⟩ := g.2 z t a rfl
      obtain ⟨_, _, _, e, _⟩ := h.1 z p r t a h1 h2 h3
      cases e
  | some x =>
    obtain ⟨z, t, a⟩ := x
    obtain ⟨p, r, h1, h2, h3⟩ := h.2 z t a rfl
    obtain ⟨z', t', a', rfl, e⟩ := g.1 z p r t a h1 h2 h3
    obtain ⟨p', r', g1, g2, g3⟩ := g.2 z' t' a' rfl
    obtain ⟨z2, t2, a2, e2, e3⟩ := h.1 z' p' r' t' a' g1 g2 g3
    injection e2 with e2
    injection e2 with e4 e2
    injection e2 with e5 e6
    subst e4 e5 e6
    rw [← Bool.not_eq_true, ahead_iff] at e e3
    have hz : z = z' := Classical.byContradiction fun hne => by
      rcases Nat.lt_or_gt_of_ne hne with x | x
      · exact e (.inl x)
      · exact e3 (.inl x)
    subst hz
    have hr : rkN t = rkN t' := Classical.byContradiction fun hne => by
      rcases Nat.lt_or_gt_of_ne hne with x | x
      · exact e (.inr ⟨rfl, .inl x⟩)
      · exact e3 (.inr ⟨rfl, .inl x⟩)
    have hl : ¬ (t.2.1 ≠ t'.2.1 ∨ t.2.2.1 ≠ t'.2.2.1) := fun hx => by
      rcases (less_tot t t').2 hx with x | x
      · exact e (.inr ⟨rfl, .inr ⟨hr, x⟩⟩)
      · exact e3 (.inr ⟨rfl, .inr ⟨hr.symm, x⟩⟩)
    have ht := cand_enc h3
    have ht' := cand_enc g3
    have : t = t' := tg_det (trg_enc ht) (trg_enc ht') hr (Classical.byContradiction fun x => hl (.inl x)) (Classical.byContradiction fun x => hl (.inr x))
    subst this
    rw [h1] at g1
    injection g1 with g1
    subst g1
    have hn := trg_inj ht ht'
    have n1 := cand_node h3
    have n2 := cand_node g3
    rw [hn, n2] at n1
    injection n1 with n1
    injection n1 with _ n1
    rw [n1]
/-! ### what is asked of an index -/
def qA (K : Int) (a : ByteArray) (t : Tg) : Prop := t.1 = K ∧ hasT t a = true
def qN (E : Int) (n : ByteArray) (t : Tg) : Prop := (t.1 = E ∧ n = t.2.1) ∨ (t.1 = E + 1 ∧ underT t n = true)
def anyQ (Q : List (Tg → Prop)) (t : Tg) : Prop := ∃ q ∈ Q, q t
theorem FL.snoc {V : Tg → Option Int} {Q : List (Tg → Prop)} {q : Tg → Prop} {L M : List Tg} (h : FL V (anyQ Q) L) (g : FL V q M) : FL V (anyQ (Q ++ [q])) (L ++ M) := (h.add g).congr fun t _ => by
  unfold anyQ
  constructor
  · rintro (⟨x, hx, e⟩ | e)
    · exact ⟨x, List.mem_append_left _ hx, e⟩
    · exact ⟨q, List.mem_append_right _ (List.mem_singleton.2 rfl), e⟩
  · rintro ⟨x, hx, e⟩
    rcases List.mem_append.1 hx with hx | hx
    · exact .inl ⟨x, hx, e⟩
    · rw [List.mem_singleton.1 hx] at e; exact .inr e
def asks (f : Fa) : List (Tg → Prop) := [qA 0 f.cl, qN 1 f.nm] ++ f.xa.map (qA 3) ++ f.xs.map (qN 4) ++ f.xh.map (qA 6)
theorem asks_iff (f : Fa) (t : Tg) : anyQ (asks f) t ↔ matchT t f = true := by
  have e1 : ∀ {a b : ByteArray}, (a.toList == b.toList) = true ↔ a = b := keq
  have hL : anyQ (asks f) t ↔ (qA 0 f.cl t ∨ qN 1 f.nm t) ∨ (∃ a ∈ f.xa, qA 3 a t) ∨ (∃ n ∈ f.xs, qN 4 n t) ∨ (∃ a ∈ f.xh, qA 6 a t) := by
    unfold anyQ asks
    simp only [List.mem_append, List.mem_cons, List.mem_map, List.not_mem_nil, or_false, or_assoc]
    constructor
    · rintro ⟨q, (rfl | rfl | ⟨a, ha, rfl⟩ | ⟨a, ha, rfl⟩ | ⟨a, ha, rfl⟩), h⟩
      · exact .inl h
      · exact .inr (.inl h)
      · exact .inr (.inr (.inl ⟨a, ha, h⟩))
      · exact .inr (.inr (.inr (.inl ⟨a, ha, h⟩)))
      · exact .inr (.inr (.inr (.inr ⟨a, ha, h⟩)))
    · rintro (h | h | ⟨a, ha, h⟩ | ⟨a, ha, h⟩ | ⟨a, ha, h⟩)
      · exact ⟨_, .inl rfl, h⟩
      · exact ⟨_, .inr (.inl rfl), h⟩
      · exact ⟨_, .inr (.inr (.inl ⟨a, ha, rfl⟩)), h⟩
      · exact ⟨_, .inr (.inr (.inr (.inl ⟨a, ha, rfl⟩))), h⟩
      · exact ⟨_, .inr (.inr (.inr (.inr ⟨a, ha, rfl⟩))), h⟩
  rw [hL]
  unfold matchT
  constructor
  · rintro ((⟨k, h⟩ | ⟨k, h⟩ | ⟨k, h⟩) | ⟨a, ha, k, h⟩ | ⟨a, ha, ⟨k, h⟩ | ⟨k, h⟩⟩ | ⟨a, ha, k, h⟩)
    · rw [if_pos k]; exact h
    · rw [if_neg (by omega), if_pos k]; exact e1.2 h
    · rw [if_neg (by omega), if_neg (by omega), if_pos (by omega)]; exact h
    · rw [if_neg (by omega), if_neg (by omega), if_neg (by omega), if_pos k]
      exact List.any_eq_true.2 ⟨a, ha, h⟩
    · rw [if_neg (by omega), if_neg (by omega), if_neg (by omega), if_neg (by omega), if_pos k]
      exact List.any_eq_true.2 ⟨a, ha, e1.2 h⟩
    · rw [if_neg (by omega), if_neg (by omega), if_neg (by omega), if_neg (by omega), if_neg (by omega), if_pos (by omega)]
      exact List.any_eq_true.2 ⟨a, ha, h⟩
    · rw [if_neg (by omega), if_neg (by omega), if_neg (by omega), if_neg (by omega), if_neg (by omega), if_neg (by omega), if_pos k]
      exact List.any_eq_true.2 ⟨a, ha, h⟩
  · intro h
    split at h
    · exact .inl (.inl ⟨by assumption, h⟩)
    split at h
    · exact .inl (.inr (.inl ⟨by assumption, e1.1 h⟩))
    split at h
    · exact .inl (.inr (.inr ⟨by omega, h⟩))
    split at h
    · obtain ⟨a, ha, h⟩ := List.any_eq_true.1 h
      exact .inr (.inl ⟨a, ha, by assumption, h⟩)
    split at h
    · obtain ⟨a, ha, h⟩ := List.any_eq_true.1 h
      exact .inr (.inr (.inl ⟨a, ha, .inl ⟨by assumption, e1.1 h⟩⟩))
    split at h
    · obtain ⟨a, ha, h⟩ := List.any_eq_true.1 h
      exact .inr (.inr (.inl ⟨a, ha, .inr ⟨by omega, h⟩⟩))
    split at h
    · obtain ⟨a, ha, h⟩ := List.any_eq_true.1 h
      exact .inr (.inr (.inr ⟨a, ha, by assumption, h⟩))
    · cases h
/-! ### the best of a list -/
def betT (t : Tg) (b : Option Tg) : Bool := match b with
  | none => true
  | some u => ahead 0 0 t u
def bstF (L : List Tg) : Option Tg := L.foldl (fun b t => if betT t b = true then some t else b) none
theorem bst_snoc (L : List Tg) (t : Tg) : bstF (L ++ [t]) = if betT t (bstF L) = true then some t else bstF L := by
  unfold bstF
  rw [List.foldl_append]; rfl
theorem bst_spec : ∀ (n : Nat) (L : List Tg), L.length = n → (bstF L = none → L = []) ∧ ∀ b, bstF L = some b → b ∈ L ∧ ∀ t ∈ L, ahead 0 0 t b = false
  | 0, L, h => by
    rw [List.eq_nil_of_length_eq_zero h]
    exact ⟨fun _ => rfl, fun b e => (by cases e)⟩
  | n + 1, L, h => by
    obtain ⟨M, t, rfl⟩ : ∃ M t, L = M ++ [t] := ⟨L.dropLast, L.getLast (by intro e; rw [e] at h; cases h), (List.dropLast_concat_getLast _).symm⟩
    rw [List.length_append, List.length_singleton] at h
    obtain ⟨h1, h2⟩ := bst_spec n M (by omega)
    rw [bst_snoc]
    by_cases hb : betT t (bstF M) = true
    · rw [if_pos hb]
      refine ⟨fun e => (by cases e), fun b e => ?_⟩
      injection e with e
      subst e
      refine ⟨List.mem_append_right _ (List.mem_singleton.2 rfl), fun u hu => ?_⟩
      rcases List.mem_append.1 hu with hu | hu
      · cases hm : bstF M with
        | none => rw [h1 hm] at hu; cases hu
        | some b =>
          obtain ⟨g1, g2⟩ := h2 b hm
          rw [hm] at hb
          cases hq : ahead 0 0 u t with
          | false => rfl
          | true =>
            have := ahead_trans hq (show ahead 0 0 t b = true from hb)
            rw [g2 u hu] at this; cases this
      · rw [List.mem_singleton.1 hu]; exact ahead_irr 0 t
    · rw [if_neg hb]
      refine ⟨fun e => ?_, fun b e => ?_⟩
      · rw [e] at hb; exact absurd rfl hb
      · obtain ⟨g1, g2⟩ := h2 b e
        refine ⟨List.mem_append_left _ g1, fun u hu => ?_⟩
        rcases List.mem_append.1 hu with hu | hu
        · exact g2 u hu
        · rw [List.mem_singleton.1 hu]
          rw [e] at hb
          simpa [betT] using hb
theorem FL.best {V : Tg → Option Int} {P : Tg → Prop} {L : List Tg} (h : FL V P L) : (bstF L = none → ∀ u, V u ≠ none → ¬ P u) ∧ ∀ b, bstF L = some b → V b ≠ none ∧ P b ∧ ∀ u, V u ≠ none → P u → ahead 0 0 u b = false := by
  obtain ⟨h1, h2⟩ := bst_spec L.length L rfl
  refine ⟨fun e u hu hp => ?_, fun b e => ?_⟩
  · obtain ⟨t, ht, _⟩ := h.2 u hu hp
    rw [h1 e] at ht; cases ht
  · obtain ⟨g1, g2⟩ := h2 b e
    obtain ⟨g3, g4⟩ := h.1 b g1
    refine ⟨g3, g4, fun u hu hp => ?_⟩
    obtain ⟨t, ht, e2⟩ := h.2 u hu hp
    exact ahead_neg e2 (g2 t ht)
/-! ### a zone -/
theorem vm_cand {p : Pl} {k : Int} {V : Tg → Option Int} {f : Fa} {t : Tg} (h : VM p.o k (actP p) V) (hl : p.live = true) : (∃ r ∈ p.zs, ∃ a, cand f p r = some (t, a)) ↔ V t ≠ none ∧ matchT t f = true := by
  constructor
  · rintro ⟨r, hr, a, hc⟩
    have hn := cand_node hc
    unfold cand at hc
    rw [hn] at hc
    have hc : (if p.live = true ∧ a.k ≠ 1 ∧ matchT t f = true then some (t, a) else none) = some (t, a) := hc
    split at hc
    · rename_i g
      exact ⟨h.some.2 ⟨r.1, node_act.1 ⟨a, hn, g.2.1⟩⟩, g.2.2⟩
    · cases hc
  · rintro ⟨hv, hm⟩
    obtain ⟨n, h1, h2⟩ := h.some.1 hv
    obtain ⟨r, hr, rfl⟩ := act_mem h2
    obtain ⟨a, h3, h4⟩ := node_act.2 ⟨h1, h2⟩
    refine ⟨r, hr, a, ?_⟩
    unfold cand
    rw [h3]
    exact if_pos ⟨hl, h4, hm⟩
theorem cand_dead {f : Fa} {p : Pl} (h : p.live = false) (r : Rc) : cand f p r = none := by
  unfold cand
  cases nodeF p r.1 with
  | none => rfl
  | some x => exact if_neg (fun g => by rw [h] at g; cases g.1)
theorem vm_best {p : Pl} {v : Int} {V : Tg → Option Int} {f : Fa} {ps : List Pl} {k : Nat} {t : Tg} {a : Av} {n : ByteArray} (h : VM p.o v (actP p) V) (hl : p.live = true) (hp : ps[k]? = some p) (hb : ∀ j q r, j < k → ps[j]? = some q → r ∈ q.zs → cand f q r = none)
    (hv : V t ≠ none) (hm : matchT t f = true) (hu : ∀ u, V u ≠ none → matchT u f = true → ahead 0 0 u t = false) (hn : trgO p.o n = some t) (ha : nodeF p n = some (t, a)) : BestS f ps (some (k, t, a)) := by
  refine ⟨fun j q r u b hq hr hc => ⟨k, t, a, rfl, ?_⟩, fun z u b e => ?_⟩
  · rcases Nat.lt_or_ge j k with g | g
    · rw [hb j q r g hq hr] at hc; cases hc
    · by_cases e : j = k
      · subst e
        rw [hp] at hq
        injection hq with hq
        subst hq
        rw [ahead_kk]
        obtain ⟨g1, g2⟩ := (vm_cand h hl).1 ⟨r, hr, b, hc⟩
        exact hu u g1 g2
      · rw [← Bool.not_eq_true, ahead_iff]
        omega
  · injection e with e
    injection e with e1 e
    injection e with e2 e3
    subst e1 e2 e3
    obtain ⟨r, hr, b, hc⟩ := (vm_cand (f := f) h hl).2 ⟨hv, hm⟩
    refine ⟨p, r, hp, hr, ?_⟩
    have e1 := trg_inj (cand_enc hc) hn
    have e2 := cand_node hc
    rw [e1, ha] at e2
    injection e2 with e2
    injection e2 with _ e2
    rw [e2]; exact hc
theorem bests_none {f : Fa} {ps : List Pl} (h : ∀ (k : Nat) (p : Pl) (r : Rc), ps[k]? = some p → r ∈ p.zs → cand f p r = none) : BestS f ps none :=
  ⟨fun k p r t a h1 h2 h3 => (by rw [h k p r h1 h2] at h3; cases h3), fun z t a e => (by cases e)⟩
end Go.Proofs.YtoiilcdaldnjfaaGreatDoor
/- What an index has that fits facts. -/
namespace Go.Proofs.YtoiilcdaldnjfaaGreatDoor
open Go.Px
set_option linter.unusedVariables false
set_option linter.unusedSimpArgs false
set_option maxRecDepth 8000

theorem sub_full {own F S : SH} (hs : Sub (own ++ F) S) : ∃ F', Sub (own ++ F') S ∧ Sub S (own ++ F') := by
  obtain ⟨G, hG⟩ := hs
  exact ⟨F ++ G, ⟨[], by rw [List.append_nil, ← List.append_assoc]; exact hG⟩, ⟨[], by rw [List.append_nil, ← List.append_assoc]; exact hG.symm⟩⟩
/-- facts of which an index may be asked -/
structure FaOK (f : Fa) : Prop where
  cl : f.cl.size ≤ 140737488355328
  nm : f.nm.size ≤ 1000000
  a : ∀ x ∈ f.xa, x.size ≤ 140737488355328
  s : ∀ x ∈ f.xs, x.size ≤ 1000000
  h : ∀ x ∈ f.xh, x.size ≤ 140737488355328
  la : f.xa.length ≤ 1000000
  ls : f.xs.length ≤ 1000000
  lh : f.xh.length ≤ 1000000
theorem elT_len (t : Tg) : (elT t).length = 4 := rfl
theorem elT_one (t : Tg) : (elT t).all one = true := rfl
abbrev OwnT (v : Value) (xs : List Tg) (own : SH) : Prop := OwnR 44 4 elT v xs own
theorem app_t {xs : List Tg} {t : Tg} {b : Nat} {v : Value} {S F own : SH} {I : IMem} {K : Option Addr → Nat → Nat → SH → Prop} (hs : Sub (own ++ F) S) (hv : OwnT v xs own) (hl : xs.length ≤ 100000000)
    (hK : ∀ q n c own' T, OwnT (.slice q n c) (xs ++ [t]) own' → Sub (own' ++ F) T → K q n c T) :
    AppG 44 4 48 [.int .i64 0, .string ⟨#[]⟩, .string ⟨#[]⟩, .int .i64 0] (some (.slice 44)) I ((b, .cells #[.int .i64 t.1, .string t.2.1, .string t.2.2.1, .int .i64 t.2.2.2] 44 (0, 0)) :: S) v (.slice (some ⟨b, 0, none⟩) 1 1) K := by
  obtain ⟨G, hG⟩ := hs.skip (tgB b t)
  exact AppG.own (xs := xs) (ys := [t]) (el := elT) elT_len elT_one rfl (by rw [List.append_assoc] at hG; exact hG) hv ⟨Rd.list (L := elT t) rfl (by simp [elT]), rfl⟩ (by simp only [List.length_singleton, maxLen]; omega) (by simp only [List.length_singleton]; omega)
    fun p n c own' h => hK p n c own' _ h ⟨G, by rw [List.append_assoc]⟩
abbrev fdB (b : Nat) (p : Option Addr) (n c : Nat) : Nat × Obj := (b, .cells #[.slice p n c] 101 (0, 0))
/-- what is found so far -/
def FoS (b5 : Nat) (L : List Tg) (F T : SH) : Prop := ∃ p n c o, OwnT (.slice p n c) L o ∧ Sub (fdB b5 p n c :: (o ++ F)) T
theorem add_runs {b5 : Nat} {L : List Tg} {F S : SH} {I : IMem} (r : Option (Int × Tg)) (h : FoS b5 L F S) (hl : L.length ≤ 10000000) :
    Runs Tryz.prog 60 #[.int .i64 (r.getD (0, t0)).1, vT (r.getD (0, t0)).2, .bool r.isSome, .pointer (some ⟨b5, 0, none⟩)] I S fun v _ T => v = .tuple #[] ∧ FoS b5 (L ++ rL r) F T := by
  refine engine_found_f1_fn _ _ _ _ _ _ _ _ _ _ ?_
  unfold engine_found_f1
  intro b
  obtain ⟨p, n, c, o, ho, hs⟩ := h
  cases r with
  | none =>
    refine bcase_f rfl ⟨rfl, p, n, c, o, ?_, hs.skip _⟩
    show OwnT (.slice p n c) (L ++ []) o
    rw [List.append_nil]; exact ho
  | some x =>
    obtain ⟨v, t⟩ := x
    have hT : Sub (tgB b t :: S) (tgB b t :: S) := Sub.refl _
    obtain ⟨c0, c1, c2, _, c3⟩ := tgX (I := I) hT
    refine bcase_t rfl ⟨_, _, _, Cell.among (hs.skip _) rfl, _, c0, _, c1, _, c2, _, c3, fun b10 => app_t (t := t) (F := fdB b5 p n c :: F) ((hs.skip _).re (by intro a; simp only [cnt_cons, cnt_app]; omega)) ho (by omega) ?_⟩
    intro q n' c' o' T ho' hs'
    exact StP.among (e := 101) (L := [.slice p n c]) (L' := [.slice q n' c']) (F := o' ++ F) (hs'.re (by intro a; simp only [fdB, cnt_cons, cnt_app]; omega)) (Nat.le_of_ble_eq_true rfl) rfl rfl fun T2 hs2 => ⟨rfl, q, n', c', o', ho', hs2⟩
theorem rL_len (r : Option (Int × Tg)) : (rL r).length ≤ 1 := by
  cases r with
  | none => exact Nat.zero_le _
  | some x => exact Nat.le_refl _
section
variable {xb n c : Nat} {V : Tg → Option Int} {own F S : SH} {I : IMem}
theorem addr_ask (h : IxS xb V n c own) (hV : ∀ t, encF t = none → V t = none) (hs : Sub (own ++ F) S) {K : Int} (hK : ipK K = true) (a : ByteArray) (ha : a.size ≤ 140737488355328) :
    Runs Tryz.prog 61 #[.pointer (some ⟨xb, 0, none⟩), .int .i64 K, .string a] I S fun v _ T => ∃ r, v = resN r ∧ FL V (qA K a) (rL r) ∧ Sub S T := by
  obtain ⟨F', h1, h2⟩ := sub_full hs
  refine (IAddr_runs h h1 K a ha).mono ?_
  rintro v J T hle ⟨⟨sh, g1, g2, rfl⟩, hT⟩
  exact ⟨_, rfl, FL.addr hV g1 hK g2, h2.trans hT⟩
theorem name_ask (h : IxS xb V n c own) (hV : ∀ t, encF t = none → V t = none) (hs : Sub (own ++ F) S) {E W : Int} (hE : nmK E) (hW : W = E + 1) (hW2 : nmK W) (a : ByteArray) (ha : a.size ≤ 1000000) :
    Runs Tryz.prog 62 #[.pointer (some ⟨xb, 0, none⟩), .int .i64 E, .int .i64 W, .string a] I S fun v _ T => ∃ r, v = resN r ∧ FL V (qN E a) (rL r) ∧ Sub S T := by
  obtain ⟨F', h1, h2⟩ := sub_full hs
  refine (IName_runs h h1 hE hW2 a ha).mono ?_
  rintro v J T hle ⟨rfl, hT⟩
  refine ⟨_, rfl, ?_, h2.trans hT⟩
  have := FL.name (n := a) hV hE hW hW2
  subst hW
  exact this
theorem FL.cast {P Q : Tg → Prop} {L : List Tg} (h : FL V P L) (e : P = Q) : FL V Q L := e ▸ h
def FouR (V : Tg → Option Int) (f : Fa) (S : SH) : RT := fun v _ T => ∃ L p c o, v = .slice p L.length c ∧ OwnT (.slice p L.length c) L o ∧ FL V (anyQ (asks f)) L ∧ L.length ≤ 3000002 ∧ Sub (o ++ S) T
theorem map_snoc {α β : Type} {g : α → β} {xs : List α} {k : Nat} {x : α} (h : xs[k]? = some x) : (xs.take (k + 1)).map g = (xs.take k).map g ++ [g x] := by
  rw [take_snoc h, List.map_append]; rfl
theorem found_runs (h : IxS xb V n c own) (hV : ∀ t, encF t = none → V t = none) (hs : Sub (own ++ F) S) {f : Fa} (hf : FaIn I S f) (hok : FaOK f) :
    Runs Tryz.prog 31 #[.pointer (some ⟨xb, 0, none⟩), vFa f] I S (FouR V f S) := by
  refine engine_found_fn _ _ _ _ _ _ _ _ _ _ _ _ _ _ _ ?_
  unfold engine_found
  intro b3 b5
  have s0 : Sub (fdB b5 none 0 0 :: (faB b3 f :: S)) (fdB b5 none 0 0 :: (faB b3 f :: S)) := Sub.refl _
  have q0 := hs.skip (faB b3 f) |>.skip (fdB b5 none 0 0)
  refine ⟨_, (bA f (I := I) s0.drop).1, (addr_ask h hV q0 (K := 0) rfl f.cl hok.cl).mono ?_⟩
  rintro v J1 T1 hle1 ⟨r1, rfl, f1, e1⟩
  refine ⟨_, _, _, _, _, _, rfl, (add_runs r1 ⟨none, 0, 0, [], OwnR.nil, s0.trans e1⟩ (Nat.zero_le _)).mono ?_⟩
  rintro v J2 T2 hle2 ⟨rfl, hS2⟩
  have l2 := hle1.trans hle2
  have hbase : ∀ {L : List Tg} {T : SH}, FoS b5 L (faB b3 f :: S) T → Sub (faB b3 f :: S) T := fun ⟨_, _, _, _, _, h⟩ => h.drop.right
  have q2 := hs.trans (hbase hS2).drop
  refine ⟨rfl, _, Cell.at_ (add_mk b3 0 1) (bA f (I := J2) (hbase hS2)).2.1, (name_ask h hV q2 (E := 1) (W := 2) (by unfold nmK; omega) rfl (by unfold nmK; omega) f.nm hok.nm).mono ?_⟩
  rintro v J3 T3 hle3 ⟨r2, rfl, f2, e3⟩
  have mv : ∀ {L : List Tg} {T T' : SH}, FoS b5 L (faB b3 f :: S) T → Sub T T' → FoS b5 L (faB b3 f :: S) T' := fun ⟨p, n, c, o, ho, h⟩ g => ⟨p, n, c, o, ho, h.trans g⟩
  have n1 := rL_len r1
  have n2 := rL_len r2
  refine ⟨_, _, _, _, _, _, rfl, (add_runs r2 (mv hS2 e3) (by rw [List.nil_append]; omega)).mono ?_⟩
  rintro v J4 T4 hle4 ⟨rfl, hS4⟩
  rw [List.nil_append] at hS4
  have l4 := (l2.trans hle3).trans hle4
  have F0 : FL V (anyQ [qA 0 f.cl, qN 1 f.nm]) (rL r1 ++ rL r2) := (((FL.nil (V := V)).congr (Q := anyQ []) fun t _ => ⟨fun e => e.elim, fun ⟨q, hq, _⟩ => (by cases hq)⟩).snoc f1).snoc f2
  clear e3 q2 hS2 e1 q0 s0
  refine ⟨rfl, ?_⟩
  unfold engine_found_b1 engine_found_b2
  refine ⟨f.a.1, f.xa.length, f.a.2.2, ?_, ?_⟩
  · have := (bA f (I := J4) (hbase hS4)).2.2.1
    rw [← hf.a.2.1]; exact this
  refine ⟨fun m x0 x3 x5 x6 y yn yc q i J T => x0 = some ⟨xb, 0, none⟩ ∧ x3 = ⟨b3, 0, none⟩ ∧ x5 = ⟨b5, 0, none⟩ ∧ x6 = ⟨b5, 0, none⟩ ∧ y = f.a.1 ∧ yn = f.xa.length ∧ q = (f.xa.length : Int) ∧ I.le J ∧ ∃ (k : Nat) (L : List Tg), i = (k : Int) ∧ k ≤ f.xa.length ∧ m = f.xa.length - k ∧ L.length ≤ 2 + k ∧ FL V (anyQ ([qA 0 f.cl, qN 1 f.nm] ++ (f.xa.take k).map (qA 3))) L ∧ FoS b5 L (faB b3 f :: S) T,
    f.xa.length, ⟨rfl, rfl, rfl, rfl, rfl, rfl, rfl, l4, 0, rL r1 ++ rL r2, rfl, Nat.zero_le _, rfl, by rw [List.length_append]; omega, F0.cast (by rw [List.take_zero, List.map_nil, List.append_nil]), hS4⟩, ?_⟩
  clear hS4 F0 f1 f2 l4 l2 hle4 hle3 hle2 hle1
  rintro m x0 x3 x5 x6 y yn yc q i J T - ⟨rfl, rfl, rfl, rfl, rfl, rfl, rfl, hle, k, L, rfl, hk, rfl, hL, hF, hS⟩
  have la := hok.la
  unfold engine_found_l3
  refine bcase_dec (fun hg => ?_) (fun hg => ?_)
  · obtain ⟨x, hx⟩ := get_lt (xs := f.xa) (k := k) (by omega)
    obtain ⟨a, ea, hc⟩ := ((hf.a.1.sub (hbase hS).drop).le hle).cell hx
    rw [ea]
    refine ⟨by omega, by omega, _, (by simpa [Addr.add] using hc 0 _ rfl), (addr_ask h hV (hs.trans (hbase hS).drop) (K := 3) rfl x (hok.a x (List.mem_of_getElem? hx))).mono ?_⟩
    rintro v J1 T1 hle1 ⟨r, rfl, fr, e1⟩
    refine ⟨_, _, _, _, _, _, rfl, (add_runs r (mv hS e1) (by omega)).mono ?_⟩
    rintro v J2 T2 hle2 ⟨rfl, hS2⟩
    have nr := rL_len r
    exact ⟨rfl, f.xa.length - (k + 1), by omega, rfl, rfl, rfl, rfl, ea.symm ▸ rfl, rfl, rfl, (hle.trans hle1).trans hle2, k + 1, _, by rw [wrap_i64 (by omega) (by omega)]; rfl, by omega, rfl, by rw [List.length_append]; omega, (hF.snoc fr).cast (by rw [map_snoc hx, List.append_assoc]), hS2⟩
  have hke : k = f.xa.length := by omega
  subst hke
  rw [List.take_length] at hF
  unfold engine_found_b4 engine_found_b5
  refine ⟨f.s.1, f.xs.length, f.s.2.2, ?_, ?_⟩
  · have := (bA f (I := J) (hbase hS)).2.2.2.1
    rw [← hf.s.2.1]; exact this
  refine ⟨fun m x0 x3 x5 x6 y yn yc q i J T => x0 = some ⟨xb, 0, none⟩ ∧ x3 = ⟨b3, 0, none⟩ ∧ x5 = ⟨b5, 0, none⟩ ∧ x6 = ⟨b5, 0, none⟩ ∧ y = f.s.1 ∧ yn = f.xs.length ∧ q = (f.xs.length : Int) ∧ I.le J ∧ ∃ (k : Nat) (L : List Tg), i = (k : Int) ∧ k ≤ f.xs.length ∧ m = f.xs.length - k ∧ L.length ≤ 2 + f.xa.length + k ∧ FL V (anyQ ([qA 0 f.cl, qN 1 f.nm] ++ f.xa.map (qA 3) ++ (f.xs.take k).map (qN 4))) L ∧ FoS b5 L (faB b3 f :: S) T,
    f.xs.length, ⟨rfl, rfl, rfl, rfl, rfl, rfl, rfl, hle, 0, L, rfl, Nat.zero_le _, rfl, hL, hF.cast (by rw [List.take_zero, List.map_nil, List.append_nil]), hS⟩, ?_⟩
  clear hS hF hL hle hg hk L
  rintro m x0 x3 x5 x6 y yn yc q i J T - ⟨rfl, rfl, rfl, rfl, rfl, rfl, rfl, hle, k, L, rfl, hk, rfl, hL, hF, hS⟩
  have lsl := hok.ls
  unfold engine_found_l6
  refine bcase_dec (fun hg => ?_) (fun hg => ?_)
  · obtain ⟨x, hx⟩ := get_lt (xs := f.xs) (k := k) (by omega)
    obtain ⟨a, ea, hc⟩ := ((hf.s.1.sub (hbase hS).drop).le hle).cell hx
    rw [ea]
    refine ⟨by omega, by omega, _, (by simpa [Addr.add] using hc 0 _ rfl), (name_ask h hV (hs.trans (hbase hS).drop) (E := 4) (W := 5) (by unfold nmK; omega) rfl (by unfold nmK; omega) x (hok.s x (List.mem_of_getElem? hx))).mono ?_⟩
    rintro v J1 T1 hle1 ⟨r, rfl, fr, e1⟩
    refine ⟨_, _, _, _, _, _, rfl, (add_runs r (mv hS e1) (by omega)).mono ?_⟩
    rintro v J2 T2 hle2 ⟨rfl, hS2⟩
    have nr := rL_len r
    exact ⟨rfl, f.xs.length - (k + 1), by omega, rfl, rfl, rfl, rfl, ea.symm ▸ rfl, rfl, rfl, (hle.trans hle1).trans hle2, k + 1, _, by rw [wrap_i64 (by omega) (by omega)]; rfl, by omega, rfl, by rw [List.length_append]; omega, (hF.snoc fr).cast (by rw [map_snoc hx, List.append_assoc]), hS2⟩
  have hke : k = f.xs.length := by omega
  subst hke
  rw [List.take_length] at hF
  unfold engine_found_b7 engine_found_b8
  refine ⟨f.h.1, f.xh.length, f.h.2.2, ?_, ?_⟩
  · have := (bA f (I := J) (hbase hS)).2.2.2.2
    rw [← hf.h.2.1]; exact this
  refine ⟨fun m x0 x5 x6 y yn yc q i J T => x0 = some ⟨xb, 0, none⟩ ∧ x5 = ⟨b5, 0, none⟩ ∧ x6 = ⟨b5, 0, none⟩ ∧ y = f.h.1 ∧ yn = f.xh.length ∧ q = (f.xh.length : Int) ∧ I.le J ∧ ∃ (k : Nat) (L : List Tg), i = (k : Int) ∧ k ≤ f.xh.length ∧ m = f.xh.length - k ∧ L.length ≤ 2 + f.xa.length + f.xs.length + k ∧ FL V (anyQ ([qA 0 f.cl, qN 1 f.nm] ++ f.xa.map (qA 3) ++ f.xs.map (qN 4) ++ (f.xh.take k).map (qA 6))) L ∧ FoS b5 L (faB b3 f :: S) T,
    f.xh.length, ⟨rfl, rfl, rfl, rfl, rfl, rfl, hle, 0, L, rfl, Nat.zero_le _, rfl, hL, hF.cast (by rw [List.take_zero, List.map_nil, List.append_nil]), hS⟩, ?_⟩
  clear hS hF hL hle hg hk L
  rintro m x0 x5 x6 y yn yc q i J T - ⟨rfl, rfl, rfl, rfl, rfl, rfl, hle, k, L, rfl, hk, rfl, hL, hF, hS⟩
  have lhl := hok.lh
  unfold engine_found_l9
  refine bcase_dec (fun hg => ?_) (fun hg => ?_)
  · obtain ⟨x, hx⟩ := get_lt (xs := f.xh) (k := k) (by omega)
    obtain ⟨a, ea, hc⟩ := ((hf.h.1.sub (hbase hS).drop).le hle).cell hx
    rw [ea]
    refine ⟨by omega, by omega, _, (by simpa [Addr.add] using hc 0 _ rfl), (addr_ask h hV (hs.trans (hbase hS).drop) (K := 6) rfl x (hok.h x (List.mem_of_getElem? hx))).mono ?_⟩
    rintro v J1 T1 hle1 ⟨r, rfl, fr, e1⟩
    refine ⟨_, _, _, _, _, _, rfl, (add_runs r (mv hS e1) (by omega)).mono ?_⟩
    rintro v J2 T2 hle2 ⟨rfl, hS2⟩
    have nr := rL_len r
    exact ⟨rfl, f.xh.length - (k + 1), by omega, rfl, rfl, rfl, ea.symm ▸ rfl, rfl, rfl, (hle.trans hle1).trans hle2, k + 1, _, by rw [wrap_i64 (by omega) (by omega)]; rfl, by omega, rfl, by rw [List.length_append]; omega, (hF.snoc fr).cast (by rw [map_snoc hx, List.append_assoc]), hS2⟩
  have hke : k = f.xh.length := by omega
  subst hke
  rw [List.take_length] at hF
  unfold engine_found_b10
  obtain ⟨p, n', c', o, ho, hS⟩ := hS
  have hn := ho.len
  subst hn
  exact ⟨_, _, _, Cell.among hS rfl, L, p, c', o, rfl, ho, hF, by omega, (hS.drop.re (by intro a; simp only [cnt_cons, cnt_app, cnt_nil]; omega) : Sub ((o ++ S) ++ [faB b3 f]) T).left⟩
end
end Go.Proofs.YtoiilcdaldnjfaaGreatDoor
