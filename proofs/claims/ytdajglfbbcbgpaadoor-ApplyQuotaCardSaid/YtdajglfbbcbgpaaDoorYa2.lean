/- Records below a name, and zones, by numbers. -/
import Derived.Test.YtdajglfbbcbgpaaDoorYa1
namespace Go.Px
theorem Sub.of_right {A L M T : SH} (h : Sub (A ++ M) T) (g : Sub L M) : Sub (A ++ L) T := by
  obtain ⟨G, hG⟩ := g
  refine Sub.trans ⟨G, ?_⟩ h
  rw [List.append_assoc]
  exact List.Perm.append_left A hG
theorem Sub.mid {A B : SH} {x : Nat × Obj} : Sub (A ++ B) (A ++ x :: B) := (Sub.refl (A ++ x :: B)).of_right ((Sub.refl B).skip x)
theorem AppG.use {α : Type} {el : α → List Value} {sz : Nat} (he : ∀ x, (el x).length = sz) (ho : ∀ x, (el x).all one = true) {e : TypeId} {bytes : Nat} {z : List Value} {td : Option TypeDesc} {I : IMem} {S own F : SH} {v x : Value} {xs ys : List α} {K : Option Addr → Nat → Nat → SH → Prop}
    (hz : z.length = sz) (hs : Sub (own ++ F) S) (hv : OwnR e sz el v xs own) (hx : SrcP td sz z I S x ys.length (ys.flatMap el)) (hm : xs.length + ys.length ≤ maxLen) (hb : (xs.length + ys.length) * bytes ≤ 140737488355328)
    (hK : ∀ p n c own' T, OwnR e sz el (.slice p n c) (xs ++ ys) own' → Sub (own' ++ F) T → K p n c T) : AppG e sz bytes z td I S v x K := by
  obtain ⟨G, hG⟩ := hs
  exact AppG.own he ho hz (by rw [List.append_assoc] at hG; exact hG) hv hx hm hb fun p n c own' h => hK p n c own' _ h ⟨G, by rw [List.append_assoc]⟩
end Go.Px
namespace Go.Proofs.YtdajglfbbcbgpaaDoor
open Go.Px
set_option linter.unusedVariables false

/-- a record is appended -/
theorem AppZ {xs : List Rc} {r : Rc} {b : Nat} {v : Value} {S F own : SH} {I : IMem} {K : Option Addr → Nat → Nat → SH → Prop} (hs : Sub (own ++ F) S) (hv : OwnZ v xs own) (hl : xs.length ≤ 1000000000)
    (hK : ∀ p n c own' T, OwnZ (.slice p n c) (xs ++ [r]) own' → Sub (own' ++ F) T → K p n c T) :
    AppG 36 4 40 zR (some (.slice 36)) I ((b, .cells #[.string r.1, .int .u16 r.2.1, .int .u32 r.2.2.1, .string r.2.2.2] 36 (0, 0)) :: S) v (.slice (some ⟨b, 0, none⟩) 1 1) K :=
  AppG.use (xs := xs) (ys := [r]) (el := encR) encR_len encR_one rfl (hs.skip _) hv ⟨Rd.list (L := encR r) rfl (by simp [encR_len]), rfl⟩ (by simp only [List.length_singleton, maxLen]; omega) (by simp only [List.length_singleton]; omega) hK
theorem StP.rec4 {S : SH} {b : Nat} {x : Rc} {cs : List Value} {K : SH → Prop} (hc : cs.length = 4) (h : K ((b, .cells (encR x).toArray 36 (0, 0)) :: S)) :
    StP ((b, .cells cs.toArray 36 (0, 0)) :: S) ⟨b, 0, none⟩ [.string x.1, .int .u16 x.2.1, .int .u32 x.2.2.1, .string x.2.2.2] K := by
  refine StP.list (by rw [hc]; exact Nat.le_refl 4) rfl ?_
  rw [List.take_zero, List.drop_of_length_le (by rw [hc]; exact Nat.le_refl 4), List.append_nil, List.nil_append]
  exact h
def txR (o : ByteArray) (t : Int) : Rc := (o, 16, t, ⟨#[1, 120]⟩)
def joinR (o n : ByteArray) : ByteArray := if (joinN n o).2 then (joinN n o).1 else o
def underR (soas : Bool) (o : ByteArray) (r : Rc) : Rc :=
  if r.2.1 = 6 then (if soas then soaR o (r.2.2.1.tmod 6) else txR o r.2.2.1) else (joinR o r.1, r.2.1, r.2.2.1, r.2.2.2)
/-- acts, and the records of their numbers -/
structure Recs (I : IMem) (S : SH) (xs : List Ac) (rs : List Rc) : Prop where
  len : rs.length = xs.length
  ok : ∀ (i : Nat) (x : Ac), xs[i]? = some x → ∃ nm dt, Slb I S x.1 nm ∧ Slb I S x.2.2.2.1 dt ∧ x.2.2.2.2.size ≤ 9223372036854775807 ∧ rs[i]? = some (recF nm dt x)
theorem Recs.keep {I J : IMem} {S T : SH} {xs : List Ac} {rs : List Rc} (hk : Keep I S J T) (h : Recs I S xs rs) : Recs J T xs rs :=
  ⟨h.len, fun i x hx => let ⟨nm, dt, h1, h2, h3, h4⟩ := h.ok i x hx; ⟨nm, dt, h1.keep hk, h2.keep hk, h3, h4⟩⟩
theorem recs_of {I : IMem} {S : SH} : ∀ {xs : List Ac}, (∀ x ∈ xs, AcOK I S x) → ∃ rs, Recs I S xs rs
  | [], _ => ⟨[], rfl, fun i x h => by simp at h⟩
  | x :: xs, h => by
    obtain ⟨rs, h1, h2⟩ := recs_of fun y hy => h y (List.mem_cons_of_mem _ hy)
    obtain ⟨⟨nm, hn⟩, ⟨dt, hd⟩, ht⟩ := h x (List.mem_cons_self ..)
    refine ⟨recF nm dt x :: rs, by simp [h1], fun i y hy => ?_⟩
    cases i with
    | zero =>
      simp only [List.getElem?_cons_zero, Option.some.injEq] at hy
      subst hy
      exact ⟨nm, dt, hn, hd, ht, rfl⟩
    | succ i =>
      simp only [List.getElem?_cons_succ] at hy ⊢
      exact h2 i y hy
/-- a record by numbers -/
def NumR (r : Rc) : Prop := ∃ nm dt x, r = recF nm dt x
theorem Recs.num {I : IMem} {S : SH} {xs : List Ac} {rs : List Rc} (h : Recs I S xs rs) : ∀ r ∈ rs, NumR r := fun r hr => by
  obtain ⟨i, hi⟩ := List.getElem?_of_mem hr
  obtain ⟨x, hx⟩ := get_lt (xs := xs) (k := i) (by rw [← h.len]; exact lt_get hi)
  obtain ⟨nm, dt, _, _, _, h4⟩ := h.ok i x hx
  rw [hi] at h4; injection h4 with h4
  exact ⟨nm, dt, x, h4⟩

theorem Under_runs {xs : List Ac} {rs : List Rc} {a : Option Addr} {c most : Nat} {o : ByteArray} {soas : Bool} {I : IMem} {S : SH} (hx : RowIn I S a xs.length 5 encA xs) (hl : xs.length ≤ 9223372036854775807) (hm : most ≤ 1000000) (hr : Recs I S xs rs) (ho : o.size ≤ 140737488355328) :
    Runs Tryd.prog 22 #[.string o, .slice a xs.length c, .int .i64 (most : Int), .bool soas] I S fun v _ T => ∃ own, OwnZ v ((rs.take most).map (underR soas o)) own ∧ Sub (own ++ S) T := by
  refine bolterlaw09_Under_fn _ _ _ _ _ _ _ _ _ ?_
  unfold bolterlaw09_Under bolterlaw09_Under_b1 bolterlaw09_Under_b2
  refine ⟨fun m o' ms so q0 qn qc x xn xc q i J T => o' = o ∧ ms = (most : Int) ∧ so = soas ∧ x = a ∧ xn = xs.length ∧ q = (xs.length : Int) ∧ I.le J ∧ ∃ (k : Nat) (own : SH), i = (k : Int) ∧ k ≤ xs.length ∧ k ≤ most ∧ m = xs.length - k ∧ OwnZ (.slice q0 qn qc) ((rs.take k).map (underR soas o)) own ∧ Sub (own ++ S) T,
    xs.length, ⟨rfl, rfl, rfl, rfl, rfl, rfl, IMem.le.refl I, 0, [], rfl, Nat.zero_le _, Nat.zero_le _, rfl, OwnR.nil, Sub.refl _⟩, ?_⟩
  rintro m o' ms so q0 qn qc x xn xc q i J T - ⟨rfl, rfl, rfl, rfl, rfl, rfl, hle, k, own, rfl, hk, hkm, rfl, hown, hs⟩
  unfold bolterlaw09_Under_l3 bolterlaw09_Under_b4 bolterlaw09_Under_b5
  refine bcase_dec (fun h => ?_) (fun h => ?_)
  · obtain ⟨y, hy⟩ := get_lt (xs := xs) (k := k) (by omega)
    obtain ⟨nm, dt, hnm, hdt, htx, hrk⟩ := hr.ok k y hy
    have hkeep : Keep I S J T := hs.right.keep hle
    obtain ⟨a', rfl, hc⟩ := (hx.keep hkeep).cell hy
    obtain ⟨c0, c1, c2, c3, c4⟩ := CellsA hc
    refine ⟨by omega, by omega, _, _, _, c0, _, c1, _, c2, _, _, _, c3, _, c4, fun b11 => ?_⟩
    refine StP.at0 (o := 0) (vs := encA y) (Nat.le_refl 5) rfl ?_
    refine bcase_beq (fun h1 => ?_) (fun h1 => ?_)
    · have : k = most := by omega
      subst this
      exact ⟨own, hown, hs.skip _⟩
    · have hkeep7 : Keep I S J ((b11, Obj.cells (encA y).toArray 26 (0, 0)) :: T) := (hs.right.skip _).keep hle
      refine ⟨_, _, _, Cell.at0 rfl, _, Cell.at0 rfl, _, Cell.at0 rfl, _, _, _, Cell.at0 rfl, _, Cell.at0 rfl, (Record_runs (hnm.keep hkeep7) (hdt.keep hkeep7) htx).mono ?_⟩
      rintro v J1 T1 hle1 ⟨rfl, rfl⟩
      have hsm := recF_small nm dt y
      have httl : (recF nm dt y).2.2.1 = y.2.2.1 := rfl
      generalize recF nm dt y = r at hrk hsm httl
      refine ⟨_, _, _, _, rfl, fun b12 => StP.rec ⟨_, Cell.at0 rfl, (Join_runs r.1 o' (by have := hsm.nm; omega) ho _ _).mono ?_⟩⟩
      rintro v J2 T2 hle2 ⟨rfl, rfl⟩
      have hle02 := hle.trans (hle1.trans hle2)
      -- what is appended, however it came
      have last : ∀ (r' : Rc) (J3 : IMem), J2.le J3 → r' = underR so o' r → bolterlaw09_Under_b7 (fun origin_0 most_2 soas_3 out_9 out_9n out_9c x15 x15n x15c x16 x17 I_1 S_1 => ∃ m', m' < xs.length - k ∧ (origin_0 = o' ∧ most_2 = (most : Int) ∧ soas_3 = so ∧ x15 = some a' ∧ x15n = xs.length ∧ x16 = (xs.length : Int) ∧ I.le I_1 ∧ ∃ (k : Nat) (own : SH), x17 = (k : Int) ∧ k ≤ xs.length ∧ k ≤ most ∧ m' = xs.length - k ∧ OwnZ (.slice out_9 out_9n out_9c) ((rs.take k).map (underR so o')) own ∧ Sub (own ++ S) S_1))
          (fun v _ T => ∃ own, OwnZ v ((rs.take most).map (underR so o')) own ∧ Sub (own ++ S) T) o' (most : Int) so q0 qn qc ⟨b12, 0, none⟩ (some a') xs.length xc (xs.length : Int) (k : Int) J3 ((b12, Obj.cells (encR r').toArray 36 (0, 0)) :: (b11, Obj.cells (encA y).toArray 26 (0, 0)) :: T) := by
        intro r' J3 hle3 hr'
        unfold bolterlaw09_Under_b7 bolterlaw09_Under_b8
        refine ⟨_, Cell.at0 rfl, _, Cell.at0 rfl, _, Cell.at0 rfl, _, Cell.at0 rfl, fun b55 => ?_⟩
        have hlen : ((rs.take k).map (underR so o')).length ≤ k := by rw [List.length_map, List.length_take]; omega
        refine AppZ (r := r') (F := S) ((hs.skip _).skip _) hown (by omega) ?_
        intro p n d own2 T2 ho2 hs2
        refine ⟨xs.length - (k + 1), by omega, rfl, rfl, rfl, rfl, rfl, rfl, hle02.trans hle3, k + 1, own2, ?_, by omega, by omega, rfl, ?_, hs2⟩
        · rw [wrap_i64 (by omega) (by omega)]; rfl
        · rw [take_snoc hrk, List.map_append]
          show OwnZ _ (_ ++ [underR so o' r]) _
          rw [← hr']; exact ho2
      have mid : ∀ (n' : ByteArray), n' = joinR o' r.1 → bolterlaw09_Under_b6 (fun origin_0 most_2 soas_3 out_9 out_9n out_9c x15 x15n x15c x16 x17 I_1 S_1 => ∃ m', m' < xs.length - k ∧ (origin_0 = o' ∧ most_2 = (most : Int) ∧ soas_3 = so ∧ x15 = some a' ∧ x15n = xs.length ∧ x16 = (xs.length : Int) ∧ I.le I_1 ∧ ∃ (k : Nat) (own : SH), x17 = (k : Int) ∧ k ≤ xs.length ∧ k ≤ most ∧ m' = xs.length - k ∧ OwnZ (.slice out_9 out_9n out_9c) ((rs.take k).map (underR so o')) own ∧ Sub (own ++ S) S_1))
          (fun v _ T => ∃ own, OwnZ v ((rs.take most).map (underR so o')) own ∧ Sub (own ++ S) T) o' (most : Int) so q0 qn qc ⟨b11, 0, none⟩ ⟨b12, 0, none⟩ n' (some a') xs.length xc (xs.length : Int) (k : Int) J2 ((b12, Obj.cells (encR r).toArray 36 (0, 0)) :: (b11, Obj.cells (encA y).toArray 26 (0, 0)) :: T) := by
        intro n' hn'
        unfold bolterlaw09_Under_b6
        refine StP.list (L := encR r) (vs := [.string n']) (show 0 + 1 ≤ 4 by omega) rfl ?_
        refine ⟨r.2.1, Cell.at0 rfl, bcase_beq (fun h6 => ?_) (fun h6 => ?_)⟩
        · refine ⟨y.2.2.1, Cell.tl (Cell.at0 rfl), (SoaAt_runs _ _ _ _).mono ?_⟩
          rintro v J3 T3 hle3 ⟨rfl, rfl⟩
          refine ⟨_, _, _, _, rfl, ?_⟩
          refine StP.rec4 (x := soaR o' (y.2.2.1.tmod 6)) rfl ?_
          refine bcase_not (bcase_of (fun hso => ?_) (fun hso => ?_))
          · refine last (soaR o' (y.2.2.1.tmod 6)) J3 hle3 ?_
            rw [underR, if_pos h6, hso, httl, if_pos rfl]
          · refine ⟨y.2.2.1, Cell.tl (Cell.at0 rfl), ?_⟩
            refine StP.rec4 (x := txR o' y.2.2.1) rfl ?_
            refine last (txR o' y.2.2.1) J3 hle3 ?_
            rw [underR, if_pos h6, hso, httl, if_neg Bool.false_ne_true]
        · refine last (n', r.2.1, r.2.2.1, r.2.2.2) J2 (IMem.le.refl _) ?_
          rw [underR, if_neg h6, hn']
      refine ⟨_, _, rfl, bcase_not (bcase_of (fun hj => mid _ ?_) (fun hj => mid _ ?_))⟩
      · rw [joinR, hj]; rfl
      · rw [joinR, hj]; rfl
  · have : rs.take most = rs.take k := by
      have := hr.len
      rw [List.take_of_length_le (by omega), List.take_of_length_le (by omega)]
    rw [this]
    exact ⟨own, hown, hs⟩
/-- a zone by numbers -/
def zoneF (o : ByteArray) (n : Int) (rs : List Rc) (most : Nat) : List Rc := sortR ((rs.take most).map (underR false o) ++ [soaR o n])
end Go.Proofs.YtdajglfbbcbgpaaDoor
