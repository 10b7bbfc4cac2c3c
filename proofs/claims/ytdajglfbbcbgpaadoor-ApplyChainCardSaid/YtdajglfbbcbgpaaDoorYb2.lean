/- A chain of deltas. -/
import Derived.Test.YtdajglfbbcbgpaaDoorYn2
import Derived.Test.YtdajglfbbcbgpaaDoorT5
import Derived.Test.YtdajglfbbcbgpaaDoorPx12
namespace Go.Proofs.YtdajglfbbcbgpaaDoor
open Go.Px
set_option linter.unusedVariables false
set_option linter.unusedSimpArgs false

abbrev Dl := Rc × Rc × Sl × Sl
abbrev Dd := Rc × Rc × List Rc × List Rc
def encDl (d : Dl) : List Value := encD d.1 d.2.1 d.2.2.1 d.2.2.2
theorem encDl_len (d : Dl) : (encDl d).length = 10 := rfl
theorem encDl_one (d : Dl) : (encDl d).all one = true := rfl
structure DsOK (I : IMem) (S : SH) (ds : List Dl) (xs : List Dd) : Prop where
  len : ds.length = xs.length
  ok : ∀ (i : Nat) (d : Dl) (x : Dd), ds[i]? = some d → xs[i]? = some x → d.1 = x.1 ∧ d.2.1 = x.2.1 ∧ RowIn I S d.2.2.1.1 d.2.2.1.2.1 4 encR x.2.2.1 ∧ RowIn I S d.2.2.2.1 d.2.2.2.2.1 4 encR x.2.2.2
theorem DsOK.keep {I J : IMem} {S T : SH} {ds : List Dl} {xs : List Dd} (hk : Keep I S J T) (h : DsOK I S ds xs) : DsOK J T ds xs :=
  ⟨h.len, fun i d x h1 h2 => let ⟨a, b, c, e⟩ := h.ok i d x h1 h2; ⟨a, b, c.keep hk, e.keep hk⟩⟩
theorem DsOK.drop {I : IMem} {S : SH} {ds : List Dl} {xs : List Dd} (h : DsOK I S ds xs) (k : Nat) : DsOK I S (ds.drop k) (xs.drop k) :=
  ⟨by rw [List.length_drop, List.length_drop, h.len], fun i d x h1 h2 => by rw [List.getElem?_drop] at h1 h2; exact h.ok _ d x h1 h2⟩
theorem DsOK.snoc {I : IMem} {S : SH} {ds : List Dl} {xs : List Dd} {d : Dl} {x : Dd} (h : DsOK I S ds xs) (h1 : d.1 = x.1) (h2 : d.2.1 = x.2.1) (h3 : RowIn I S d.2.2.1.1 d.2.2.1.2.1 4 encR x.2.2.1) (h4 : RowIn I S d.2.2.2.1 d.2.2.2.2.1 4 encR x.2.2.2) : DsOK I S (ds ++ [d]) (xs ++ [x]) := by
  refine ⟨by simp [h.len], fun i d' x' e1 e2 => ?_⟩
  rcases Nat.lt_or_ge i ds.length with g | g
  · rw [List.getElem?_append_left g] at e1
    rw [List.getElem?_append_left (by rw [← h.len]; exact g)] at e2
    exact h.ok i d' x' e1 e2
  · rw [List.getElem?_append_right g] at e1
    rw [List.getElem?_append_right (by rw [← h.len]; exact g), ← h.len] at e2
    obtain hi | ⟨n, hi⟩ : i - ds.length = 0 ∨ ∃ n, i - ds.length = n + 1 := by cases i - ds.length <;> simp
    · rw [hi] at e1 e2
      simp only [List.getElem?_cons_zero, Option.some.injEq] at e1 e2
      subst e1; subst e2
      exact ⟨h1, h2, h3, h4⟩
    · rw [hi] at e1; simp at e1
def foldD : List Rc → List Dd → Option Int × List Rc
  | zs, [] => (none, zs)
  | zs, x :: xs => match deltaF zs x.1 x.2.1 x.2.2.1 x.2.2.2 with
    | (none, out) => foldD out xs
    | (some c, _) => (some c, [])
theorem foldO_SS {f : Option (List Rc) → Rc → Option (List Rc)} (hn : ∀ rs : List Rc, rs.foldl f none = none) (hf : ∀ zs r ys, SS zs → f (some zs) r = some ys → SS ys) : ∀ (rs zs out : List Rc), SS zs → rs.foldl f (some zs) = some out → SS out
  | [], zs, out, hz, h => by injection h with h; subst h; exact hz
  | r :: rs, zs, out, hz, h => by
    rw [List.foldl_cons] at h
    cases hh : f (some zs) r with
    | none => rw [hh, hn] at h; cases h
    | some ys => rw [hh] at h; exact foldO_SS hn hf rs ys out (hf zs r ys hz hh) h
theorem delO_SS (zs : List Rc) (r : Rc) (ys : List Rc) (hz : SS zs) (h : delO (some zs) r = some ys) : SS ys := by
  have h' : (if has zs r then some (without zs r) else none) = some ys := h
  split at h'
  · injection h' with h'; subst h'; exact hz.without r
  · cases h'
theorem insO_SS (zs : List Rc) (r : Rc) (ys : List Rc) (hz : SS zs) (h : insO (some zs) r = some ys) : SS ys := by
  have h' : (if has zs r then none else some (insR zs r)) = some ys := h
  split at h'
  · cases h'
  · injection h' with h'; subst h'; exact insR_SS hz
theorem deltaF_SS {zs : List Rc} {s t : Rc} {gs ns out : List Rc} (hz : SS zs) (h : deltaF zs s t gs ns = (none, out)) : SS out := by
  unfold deltaF at h
  split at h
  · cases h1 : (s :: gs).foldl delO (some zs) with
    | none => rw [h1, insO_none] at h; cases h
    | some ys =>
      rw [h1] at h
      cases h2 : (ns ++ [t]).foldl insO (some ys) with
      | none => rw [h2] at h; cases h
      | some o =>
        rw [h2] at h
        injection h with _ h; subst h
        exact foldO_SS insO_none insO_SS _ _ _ (foldO_SS delO_none delO_SS _ _ _ hz h1) h2
  · cases h
theorem checked_ok {zs : List Rc} {a : Option Addr} {c : Nat} {o : ByteArray} {I : IMem} {S : SH} (hx : RowIn I S a zs.length 4 encR zs) (hr : RightP zs o) (hsm : ∀ r ∈ zs, SmallR r) :
    Runs Tryd.prog 47 #[.string o, .slice a zs.length c] I S fun v _ T => v = .tuple #[.slice a zs.length c, .nilIface] ∧ T = S := by
  have hm := hr.many
  have hs := hr.size
  refine apply_checked_fn _ _ _ _ _ _ _ ?_
  unfold apply_checked
  refine (Fits_runs hx (by omega) (by omega)).mono ?_
  rintro v J T hle ⟨rfl, rfl⟩
  refine ⟨_, rfl, ?_⟩
  rw [decide_eq_true ⟨hm, hs⟩]
  refine bcase_f rfl ?_
  refine (Right_runs (o := o) (hx.le hle) (by omega) hsm).mono ?_
  rintro v J2 T2 hle2 ⟨⟨f, rfl, hf⟩, rfl⟩
  obtain rfl := hf.2 hr
  exact ⟨_, rfl, bcase_f rfl ⟨rfl, rfl⟩⟩
theorem Deltas_runs {zs : List Rc} {ds : List Dl} {xs : List Dd} {a b : Option Addr} {c d : Nat} {o : ByteArray} {I : IMem} {S : SH} (hx : RowIn I S a zs.length 4 encR zs) (hz : SS zs) (hl : zs.length ≤ 100) (hd : RowIn I S b ds.length 10 encDl ds) (hds : DsOK I S ds xs) (hdl : xs.length ≤ 10)
    (hb : ∀ x ∈ xs, x.2.2.1.length ≤ 100 ∧ x.2.2.2.length ≤ 100) (hfin : ∀ out, foldD zs xs = (none, out) → RightP out o ∧ ∀ r ∈ out, SmallR r) :
    Runs Tryd.prog 27 #[.string o, .slice a zs.length c, .slice b ds.length d] I S fun v _ T => DRes S v T (foldD zs xs) := by
  refine apply_Deltas_fn _ _ _ _ _ _ _ _ _ _ ?_
  unfold apply_Deltas
  refine (Clone_runs hx (by omega)).mono ?_
  rintro v J1 T1 hle1 ⟨own1, ho1, hs1⟩
  obtain ⟨p1, d1, rfl⟩ := ho1.slice
  refine ⟨_, _, _, rfl, ?_⟩
  have hdx := hds.len
  unfold apply_Deltas_b1 apply_Deltas_b2
  refine ⟨fun m o' q qn qc x xn xc ln i J T => o' = o ∧ x = b ∧ xn = ds.length ∧ ln = (ds.length : Int) ∧ I.le J ∧ ∃ (k : Nat) (cur : List Rc) (own : SH), i = (k : Int) ∧ k ≤ ds.length ∧ m = ds.length - k ∧ foldD zs xs = foldD cur (xs.drop k) ∧ SS cur ∧ cur.length ≤ 100 + 200 * k ∧ OwnZ (.slice q qn qc) cur own ∧ Sub (own ++ S) T,
    ds.length, ⟨rfl, rfl, rfl, rfl, hle1, 0, zs, own1, rfl, Nat.zero_le _, rfl, rfl, hz, by omega, ho1, hs1⟩, ?_⟩
  rintro m o' q qn qc x xn xc ln i J T - ⟨rfl, rfl, rfl, rfl, hle, k, cur, own, rfl, hk, rfl, hfe, hcs, hcl, hco, hT⟩
  have hcn := hco.len
  subst hcn
  unfold apply_Deltas_l3
  refine bcase_dec (fun h => ?_) (fun h => ?_)
  · obtain ⟨e, he⟩ := get_lt (xs := ds) (k := k) (by omega)
    obtain ⟨y, hy⟩ := get_lt (xs := xs) (k := k) (by omega)
    obtain ⟨h1, h2, h3, h4⟩ := (hds.keep (hT.right.keep hle)).ok k e y he hy
    have hby := hb y (List.mem_of_getElem? hy)
    obtain ⟨a', rfl, hc⟩ := ((hd.sub hT.right).le hle).cell he
    have c0 := hc 0 _ rfl
    have e0 : (a'.add (k * 10)).add 0 = a'.add (k * 10) := by simp [Addr.add]
    rw [e0] at c0
    refine ⟨by omega, by omega, _, c0, _, hc 1 _ rfl, _, hc 2 _ rfl, _, hc 3 _ rfl, _, hc 4 _ rfl, _, hc 5 _ rfl, _, hc 6 _ rfl, _, hc 7 _ rfl, _, _, _, hc 8 _ rfl, _, _, _, hc 9 _ rfl, fun b10 => ?_⟩
    refine StP.whole (vs := encDl e) rfl rfl ?_
    refine ⟨_, Cell.at0 rfl, _, Cell.at0 rfl, _, Cell.at0 rfl, _, Cell.at0 rfl, _, Cell.at0 rfl, _, Cell.at0 rfl, _, Cell.at0 rfl, _, Cell.at0 rfl, _, _, _, Cell.at0 rfl, _, _, _, Cell.at0 rfl, ?_⟩
    have hg1 := h3.1
    have hn1 := h4.1
    obtain ⟨es, et, ⟨gp, gn, gc⟩, np, nn, nc⟩ := e
    dsimp only at h1 h2 h3 h4 hg1 hn1
    subst hg1; subst hn1; subst h1; subst h2
    refine (Delta_runs (zs := cur) (gs := y.2.2.1) (ns := y.2.2.2) (src := y.1) (dst := y.2.1) ((hco.row encR_len).sub (hT.left.skip _)) hcs (by omega) (h3.sub ((Sub.refl _).skip _)) (by omega) (h4.sub ((Sub.refl _).skip _)) (by omega)).mono ?_
    rintro v J2 T2 hle2 ⟨p2, n2, d2, own2, rfl, ho2, hs2⟩
    have hdrop : xs.drop k = y :: xs.drop (k + 1) := by
      rw [List.drop_eq_getElem_cons (by omega)]
      rw [List.getElem?_eq_getElem (by omega)] at hy
      injection hy with hy; rw [hy]
    have hlen := deltaF_len cur y.1 y.2.1 y.2.2.1 y.2.2.2
    rw [hdrop, foldD] at hfe
    rcases deltaF_or cur y.1 y.2.1 y.2.2.1 y.2.2.2 with ⟨out, hr⟩ | ⟨c', hc', hr⟩
    · have hss := deltaF_SS hcs hr
      rw [hr] at ho2 hfe hlen ⊢
      dsimp only at ho2 hfe hlen
      refine ⟨_, _, _, _, rfl, true, rfl, bcase_f rfl ⟨ds.length - (k + 1), by omega, rfl, rfl, rfl, rfl, hle.trans hle2, k + 1, out, own2, ?_, by omega, rfl, hfe, hss, by omega, ho2, hs2.of_right (hT.right.skip _)⟩⟩
      rw [wrap_i64 (by omega) (by omega)]; rfl
    · rw [hr] at ho2 hfe ⊢
      dsimp only at ho2 hfe
      rw [hfe]
      exact ⟨_, _, _, _, rfl, false, rfl, bcase_t rfl ⟨none, 0, 0, [], rfl, OwnR.nil, (hT.right.skip _).trans hs2.right⟩⟩
  · have hke : k = xs.length := by omega
    subst hke
    rw [List.drop_length, foldD] at hfe
    obtain ⟨hr, hsm⟩ := hfin cur hfe
    unfold apply_Deltas_b4
    refine (checked_ok (o := o') ((hco.row encR_len).sub hT.left) hr hsm).mono ?_
    rintro v J2 T2 hle2 ⟨rfl, rfl⟩
    rw [hfe]
    exact ⟨_, _, _, _, rfl, _, _, _, own, rfl, hco, hT⟩

/-! ### the chain -/
structure ChOK (o : ByteArray) (zs : List (List Rc)) (xs : List Dd) : Prop where
  len : zs.length = xs.length + 1
  zone : ∀ (j : Nat) (z : List Rc), zs[j]? = some z → ZoneOf z (soaR o ((j : Int) + 1)) ∧ (∀ r ∈ z, ZOK o r) ∧ z.length ≤ 11
  step : ∀ (j : Nat) (x : Dd) (z z' : List Rc), xs[j]? = some x → zs[j]? = some z → zs[j + 1]? = some z' → x = (soaR o ((j : Int) + 1), soaR o ((j : Int) + 2), notF (lessF z z'), notF (lessF z' z))
theorem ChOK.lead {o : ByteArray} {zs : List (List Rc)} {xs : List Dd} (h : ChOK o zs xs) : ∀ (n j : Nat) (z : List Rc), xs.length = j + n → zs[j]? = some z → ∃ y, zs[xs.length]? = some y ∧ foldD z (xs.drop j) = (none, y)
  | 0, j, z, hn, hz => by
    refine ⟨z, by rw [hn]; exact hz, ?_⟩
    rw [List.drop_of_length_le (by omega)]; rfl
  | n + 1, j, z, hn, hz => by
    obtain ⟨z', hz'⟩ := get_lt (xs := zs) (k := j + 1) (by have := h.len; omega)
    obtain ⟨x, hx⟩ := get_lt (xs := xs) (k := j) (by omega)
    obtain ⟨y, h1, h2⟩ := ChOK.lead h n (j + 1) z' (by omega) hz'
    refine ⟨y, h1, ?_⟩
    have hdrop : xs.drop j = x :: xs.drop (j + 1) := by
      rw [List.drop_eq_getElem_cons (by omega)]
      rw [List.getElem?_eq_getElem (by omega)] at hx
      injection hx with hx; rw [hx]
    have hs := h.step j x z z' hx hz hz'
    have ha := (h.zone j z hz).1
    have hb := (h.zone (j + 1) z' hz').1
    have e2 : (((j + 1 : Nat) : Int) + 1) = (j : Int) + 2 := by omega
    rw [e2] at hb
    rw [hdrop, foldD, hs]
    simp only [delta_leads ha hb]
    exact h2
theorem ChOK.snoc {o : ByteArray} {zs : List (List Rc)} {xs : List Dd} {z z' : List Rc} (h : ChOK o zs xs) (hz : zs[xs.length]? = some z) (h1 : ZoneOf z' (soaR o ((xs.length : Int) + 2))) (h2 : ∀ r ∈ z', ZOK o r) (h3 : z'.length ≤ 11) :
    ChOK o (zs ++ [z']) (xs ++ [(soaR o ((xs.length : Int) + 1), soaR o ((xs.length : Int) + 2), notF (lessF z z'), notF (lessF z' z))]) := by
  have hlen := h.len
  refine ⟨by simp [hlen], fun j y hy => ?_, fun j x y y' hx hy hy' => ?_⟩
  · rcases Nat.lt_or_ge j zs.length with g | g
    · rw [List.getElem?_append_left g] at hy
      exact h.zone j y hy
    · have hj : j = zs.length := by
        have := lt_get hy
        rw [List.length_append, List.length_singleton] at this; omega
      rw [List.getElem?_append_right g, hj, Nat.sub_self] at hy
      simp only [List.getElem?_cons_zero, Option.some.injEq] at hy
      subst hy
      have e : ((j : Int) + 1) = (xs.length : Int) + 2 := by omega
      rw [e]
      exact ⟨h1, h2, h3⟩
  · rcases Nat.lt_or_ge j xs.length with g | g
    · rw [List.getElem?_append_left g] at hx
      rw [List.getElem?_append_left (by omega)] at hy hy'
      exact h.step j x y y' hx hy hy'
    · have hj : j = xs.length := by
        have := lt_get hx
        rw [List.length_append, List.length_singleton] at this; omega
      subst hj
      rw [List.getElem?_append_right g, Nat.sub_self] at hx
      rw [List.getElem?_append_left (by omega), hz] at hy
      rw [List.getElem?_append_right (by omega), show xs.length + 1 - zs.length = 0 by omega] at hy'
      simp only [List.getElem?_cons_zero, Option.some.injEq] at hx hy hy'
      subst hx; subst hy; subst hy'
      rfl
end Go.Proofs.YtdajglfbbcbgpaaDoor
