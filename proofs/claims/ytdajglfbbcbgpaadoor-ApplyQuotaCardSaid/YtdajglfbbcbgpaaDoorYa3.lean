/- A delta on a zone: what the program makes of it. -/
import Derived.Test.YtdajglfbbcbgpaaDoorYa2
import Derived.Test.YtdajglfbbcbgpaaDoorZi1
namespace Go.Proofs.YtdajglfbbcbgpaaDoor
open Go.Px
set_option linter.unusedVariables false

theorem AppR {xs ys : List Rc} {a : Option Addr} {m c : Nat} {v : Value} {S F own : SH} {I : IMem} {K : Option Addr → Nat → Nat → SH → Prop} (hs : Sub (own ++ F) S) (hv : OwnZ v xs own) (hy : RowIn I S a m 4 encR ys) (hl : xs.length + ys.length ≤ 1000000000)
    (hK : ∀ p n c own' T, OwnZ (.slice p n c) (xs ++ ys) own' → Sub (own' ++ F) T → K p n c T) :
    AppG 36 4 40 zR (some (.slice 36)) I S v (.slice a m c) K := by
  have hm := hy.1
  subst hm
  exact AppG.use (xs := xs) (ys := ys) (el := encR) encR_len encR_one rfl hs hv ⟨RowIn.rd encR_len (by decide) hy, flatMap_one encR_one ys⟩ (by simp only [maxLen]; omega) (by omega) hK
theorem AppNil {ys : List Rc} {a : Option Addr} {m c : Nat} {S : SH} {I : IMem} {K : Option Addr → Nat → Nat → SH → Prop} (hy : RowIn I S a m 4 encR ys) (hl : ys.length ≤ 1000000000)
    (hK : ∀ p n c own' T, OwnZ (.slice p n c) ys own' → Sub (own' ++ S) T → K p n c T) :
    AppG 36 4 40 zR (some (.slice 36)) I S (.slice none 0 0) (.slice a m c) K :=
  AppR (xs := []) (own := []) (F := S) (Sub.refl _) OwnR.nil hy (by simpa using hl) (by simpa using hK)
theorem row_one {I : IMem} {S : SH} {b : Nat} (r : Rc) : RowIn I ((b, .cells #[.string r.1, .int .u16 r.2.1, .int .u32 r.2.2.1, .string r.2.2.2] 36 (0, 0)) :: S) (some ⟨b, 0, none⟩) 1 4 encR [r] := by
  have ho : OwnZ (.slice (some ⟨b, 0, none⟩) 1 1) [r] [(b, .cells #[.string r.1, .int .u16 r.2.1, .int .u32 r.2.2.1, .string r.2.2.2] 36 (0, 0))] := .inr ⟨b, 1, [], rfl, rfl, rfl, by simp [maxLen]⟩
  exact (ho.row encR_len).sub ⟨S, List.Perm.refl _⟩
theorem row_nil {I : IMem} {S : SH} {a : Option Addr} : RowIn I S a 0 4 encR [] := ⟨rfl, fun i x h => by simp at h⟩
theorem Clone2_runs {xs : List Rc} {a : Option Addr} {c : Nat} {I : IMem} {S : SH} (hx : RowIn I S a xs.length 4 encR xs) (hl : xs.length * 40 ≤ 140737488355328) :
    Runs Tryd.prog 41 #[.slice a xs.length c] I S fun v _ T => ∃ own', OwnZ v xs own' ∧ Sub (own' ++ S) T := by
  refine slices_Clone_api_Record_2_fn _ _ _ _ _ _ ?_
  unfold slices_Clone_api_Record_2
  refine bcase_of (fun h => ?_) (fun h => ?_)
  · have hxs : xs = [] := by
      cases xs with
      | nil => rfl
      | cons x xs =>
        obtain ⟨a', rfl, _⟩ := hx.cell (i := 0) (x := x) rfl
        cases h
    subst hxs
    exact ⟨[], OwnR.nil, Sub.refl _⟩
  · intro b5
    refine AppG.own (xs := ([] : List Rc)) (ys := xs) (el := encR) (own := [(b5, .cells #[] 36 (0, 0))]) (F := S) encR_len encR_one rfl (List.Perm.refl _) (.inr ⟨b5, 0, [], rfl, rfl, rfl, Nat.zero_le _⟩) ⟨?_, flatMap_one encR_one xs⟩ ?_ ?_ ?_
    · exact RowIn.rd encR_len (by decide) (hx.sub ((Sub.refl S).skip _))
    · simp only [List.length_nil, maxLen]; omega
    · simpa using hl
    · intro p n c own' ho
      rw [List.nil_append] at ho
      exact ⟨own', ho, Sub.refl _⟩

/-! ### what a delta makes -/
def has (zs : List Rc) (r : Rc) : Bool := zs.any fun x => recB x r
theorem has_iff {zs : List Rc} {r : Rc} : has zs r = true ↔ r ∈ zs := any_rec
theorem has_false {zs : List Rc} {r : Rc} : has zs r = false ↔ r ∉ zs := by rw [← has_iff, Bool.not_eq_true]
def delO (st : Option (List Rc)) (r : Rc) : Option (List Rc) := st.bind fun zs => if has zs r then some (without zs r) else none
def insO (st : Option (List Rc)) (r : Rc) : Option (List Rc) := st.bind fun zs => if has zs r then none else some (insR zs r)
theorem delO_none : ∀ rs : List Rc, rs.foldl delO none = none
  | [] => rfl
  | r :: rs => delO_none rs
theorem insO_none : ∀ rs : List Rc, rs.foldl insO none = none
  | [] => rfl
  | r :: rs => insO_none rs
theorem fold_snoc {β : Type} {f : β → Rc → β} {rs : List Rc} {k : Nat} {r : Rc} {b : β} (h : rs[k]? = some r) : (rs.take (k + 1)).foldl f b = f ((rs.take k).foldl f b) r := by
  rw [take_snoc h, List.foldl_append]; rfl
theorem fold_none {f : Option (List Rc) → Rc → Option (List Rc)} (hf : ∀ rs : List Rc, rs.foldl f none = none) {rs : List Rc} {k : Nat} {b : Option (List Rc)} (h : (rs.take k).foldl f b = none) : rs.foldl f b = none := by
  rw [← List.take_append_drop k rs, List.foldl_append, h, hf]
def resO (st : Option (List Rc)) (code : Int) : Option Int × List Rc := match st with
  | none => (some code, [])
  | some out => (none, out)
def codeO (st : Option (List Rc)) : Int := match st with
  | none => 6
  | some _ => 7
def deltaF (zs : List Rc) (src dst : Rc) (gone new : List Rc) : Option Int × List Rc :=
  if zs.find? isSoa = some src then resO ((new ++ [dst]).foldl insO ((src :: gone).foldl delO (some zs))) (codeO ((src :: gone).foldl delO (some zs))) else (some 5, [])
/-- what a run of changes has made so far -/
def StO (st : Option (List Rc)) (code : Int) (most : Nat) (e out : Value) (own : SH) : Prop :=
  (∃ ys, st = some ys ∧ e = errN none ∧ OwnZ out ys own ∧ SS ys ∧ ys.length ≤ most) ∨ (st = none ∧ e = errN (some code) ∧ OwnZ out [] own)
theorem StO.del {zs : List Rc} {r : Rc} {a : Option Addr} {c most : Nat} {I : IMem} {S : SH} (hx : RowIn I S a zs.length 4 encR zs) (hz : SS zs) (hl : zs.length ≤ most) (hm : most ≤ 1000000) :
    Runs Tryd.prog 17 #[.slice a zs.length c, vR r] I S fun v _ T => ∃ p n d e own, v = .tuple #[.slice p n d, e] ∧ StO (delO (some zs) r) 6 most e (.slice p n d) own ∧ Sub (own ++ S) T := by
  refine (ZDel_runs (r := r) hx (by omega) hz).mono ?_
  rintro v J T hle ⟨ok, ixs, own, p, n, d, rfl, ho, hs, h1, h2, h3⟩
  cases ok with
  | true =>
    obtain rfl := h2 rfl
    refine ⟨p, n, d, _, own, rfl, .inl ⟨without zs r, ?_, rfl, ho, hz.without r, Nat.le_trans (without_len _ _) hl⟩, hs⟩
    show (if has zs r then _ else _) = _
    rw [if_pos (has_iff.2 (h1.1 rfl))]
  | false =>
    obtain rfl := h3 rfl
    have hno : has zs r = false := has_false.2 fun e => by cases h1.2 e
    refine ⟨p, n, d, _, own, rfl, .inr ⟨?_, rfl, ho⟩, hs⟩
    show (if has zs r then _ else _) = _
    rw [hno]; rfl
theorem insR_eq {zs ixs : List Rc} {r : Rc} (hz : SS zs) (hi : SS ixs) (hm : ∀ x, x ∈ ixs ↔ x ∈ zs ∨ x = r) : ixs = insR zs r := SS.ext hi (insR_SS hz) fun x => by rw [hm, insR_mem']
theorem StO.ins {zs : List Rc} {r : Rc} {a : Option Addr} {c most : Nat} {I : IMem} {S : SH} (hx : RowIn I S a zs.length 4 encR zs) (hz : SS zs) (hl : zs.length ≤ most) (hm : most ≤ 1000000) :
    Runs Tryd.prog 13 #[.slice a zs.length c, vR r] I S fun v _ T => ∃ p n d e own, v = .tuple #[.slice p n d, e] ∧ StO (insO (some zs) r) 7 (most + 1) e (.slice p n d) own ∧ Sub (own ++ S) T := by
  refine (ZIns_runs (r := r) hx (by omega) hz).mono ?_
  rintro v J T hle ⟨ok, ixs, own, p, n, d, rfl, ho, hs, h1, h2, h3, h4⟩
  cases ok with
  | true =>
    obtain ⟨h5, h6⟩ := h2 rfl
    have hno : has zs r = false := has_false.2 (h1.1 rfl)
    obtain rfl := insR_eq hz h5 h6
    refine ⟨p, n, d, _, own, rfl, .inl ⟨insR zs r, ?_, rfl, ho, h5, by omega⟩, hs⟩
    show (if has zs r then _ else _) = _
    rw [hno]; rfl
  | false =>
    obtain rfl := h3 rfl
    have hyes : has zs r = true := by
      cases hh : has zs r with
      | true => rfl
      | false => cases h1.2 (has_false.1 hh)
    refine ⟨p, n, d, _, own, rfl, .inr ⟨?_, rfl, ho⟩, hs⟩
    show (if has zs r then _ else _) = _
    rw [hyes]; rfl
theorem StO.slice {st : Option (List Rc)} {code : Int} {most : Nat} {e out : Value} {own : SH} (h : StO st code most e out own) : ∃ p n c, out = .slice p n c := by
  rcases h with ⟨ys, _, _, h, _⟩ | ⟨_, _, h⟩
  · obtain ⟨p, c, rfl⟩ := h.slice; exact ⟨_, _, _, rfl⟩
  · obtain ⟨p, c, rfl⟩ := h.slice; exact ⟨_, _, _, rfl⟩
abbrev encD (src dst : Rc) (g n : Sl) : List Value := [.string src.1, .int .u16 src.2.1, .int .u32 src.2.2.1, .string src.2.2.2, .string dst.1, .int .u16 dst.2.1, .int .u32 dst.2.2.1, .string dst.2.2.2, .slice g.1 g.2.1 g.2.2, .slice n.1 n.2.1 n.2.2]
abbrev DRes (S : SH) (v : Value) (T : SH) (res : Option Int × List Rc) : Prop := ∃ p n d own, v = .tuple #[.slice p n d, errN res.1] ∧ OwnZ (.slice p n d) res.2 own ∧ Sub (own ++ S) T
theorem delta_end {st : Option (List Rc)} {code : Int} {most : Nat} {e : Value} {p : Option Addr} {n d : Nat} {own : SH} {J : IMem} {T S : SH} (hst : StO st code most e (.slice p n d) own) (hs : Sub (own ++ S) T) :
    apply_Delta_b10 (fun v _ T => DRes S v T (resO st code)) p n d e J T := by
  unfold apply_Delta_b10
  rcases hst with ⟨ys, rfl, rfl, ho, _, _⟩ | ⟨rfl, rfl, ho⟩
  · exact ⟨true, rfl, bcase_f rfl ⟨p, n, d, own, rfl, ho, hs⟩⟩
  · exact ⟨false, rfl, bcase_t rfl ⟨none, 0, 0, [], rfl, OwnR.nil, hs.right⟩⟩
theorem StO.code {st : Option (List Rc)} {most : Nat} {e out : Value} {own : SH} (h : StO st 6 most e out own) : StO st (codeO st) most e out own := by
  rcases h with ⟨ys, rfl, h⟩ | ⟨rfl, h⟩
  · exact .inl ⟨ys, rfl, h⟩
  · exact .inr ⟨rfl, h⟩
theorem ins_loop {xs : List Rc} {st : Option (List Rc)} {e : Value} {p x : Option Addr} {n d xc : Nat} {own : SH} {J : IMem} {T L S : SH} (hst : StO st 6 10000 e (.slice p n d) own) (hs : Sub (own ++ L) T) (hx : RowIn J L x xs.length 4 encR xs) (hL : Sub S L) (hl : xs.length ≤ 20000) :
    apply_Delta_b8 (fun v _ T => DRes S v T (resO (xs.foldl insO st) (codeO st))) p n d e x xs.length xc (xs.length : Int) 0 J T := by
  unfold apply_Delta_b8
  refine ⟨fun m o on oc e' x' xn' xc' q i J' T' => x' = x ∧ xn' = xs.length ∧ q = (xs.length : Int) ∧ J.le J' ∧ ∃ (k : Nat) (own' : SH), i = (k : Int) ∧ k ≤ xs.length ∧ m = xs.length - k ∧ StO ((xs.take k).foldl insO st) (codeO st) (10000 + k) e' (.slice o on oc) own' ∧ Sub (own' ++ L) T',
    xs.length, ⟨rfl, rfl, rfl, IMem.le.refl J, 0, own, rfl, Nat.zero_le _, rfl, hst.code, hs⟩, ?_⟩
  rintro m o on oc e' x' xn' xc' q i J' T' - ⟨rfl, rfl, rfl, hle, k, own', rfl, hk, rfl, hst', hs'⟩
  unfold apply_Delta_l9
  refine bcase_dec (fun h => ?_) (fun h => ?_)
  · obtain ⟨r, hr⟩ := get_lt (xs := xs) (k := k) (by omega)
    obtain ⟨a', rfl, hc⟩ := ((hx.sub hs'.right).le hle).cell hr
    obtain ⟨c0, c1, c2, c3⟩ := CellsR hc
    refine ⟨by omega, by omega, _, c0, _, c1, _, c2, _, c3, fun b13 => StP.rec (x := r) ?_⟩
    rcases hst' with ⟨ys, hys, rfl, ho, hss, hyl⟩ | ⟨hno, rfl, ho⟩
    · have hn := ho.len
      subst hn
      refine ⟨true, rfl, bcase_f rfl ⟨_, Cell.at0 rfl, _, Cell.at0 rfl, _, Cell.at0 rfl, _, Cell.at0 rfl, (StO.ins (r := r) (most := 10000 + k) ((ho.row encR_len).sub (hs'.left.skip _)) hss hyl (by omega)).mono ?_⟩⟩
      rintro v J2 T2 hle2 ⟨p2, n2, d2, e2, own2, rfl, hst2, hs2⟩
      refine ⟨_, _, _, _, rfl, xs.length - (k + 1), by omega, rfl, rfl, rfl, hle.trans hle2, k + 1, own2, ?_, by omega, rfl, ?_, hs2.of_right (hs'.right.skip _)⟩
      · rw [wrap_i64 (by omega) (by omega)]; rfl
      · rw [fold_snoc hr, hys]
        rcases hst2 with ⟨ys2, h1, h2⟩ | ⟨h1, h2⟩
        · exact .inl ⟨ys2, h1, h2⟩
        · refine .inr ⟨h1, ?_⟩
          have hc7 : codeO st = 7 := by
            cases st with
            | some _ => rfl
            | none => rw [insO_none] at hys; cases hys
          rw [hc7]; exact h2
    · refine ⟨false, rfl, bcase_t rfl ?_⟩
      rw [fold_none insO_none hno]
      exact ⟨none, 0, 0, [], rfl, OwnR.nil, hL.trans (hs'.right.skip _)⟩
  · have hke : k = xs.length := by omega
    subst hke
    rw [List.take_length] at hst'
    exact delta_end hst' (hs'.of_right hL)
theorem Delta_runs {zs gs ns : List Rc} {a ga na : Option Addr} {c gc nc : Nat} {src dst : Rc} {I : IMem} {S : SH} (hx : RowIn I S a zs.length 4 encR zs) (hz : SS zs) (hl : zs.length ≤ 10000) (hg : RowIn I S ga gs.length 4 encR gs) (hgl : gs.length ≤ 10000) (hn : RowIn I S na ns.length 4 encR ns) (hnl : ns.length ≤ 10000) :
    Runs Tryd.prog 23 #[.slice a zs.length c, .agg (encD src dst (ga, gs.length, gc) (na, ns.length, nc)).toArray] I S fun v _ T => DRes S v T (deltaF zs src dst gs ns) := by
  refine apply_Delta_fn _ _ _ _ _ _ _ _ _ _ _ _ _ _ _ _ _ _ _ _ ?_
  unfold apply_Delta apply_Delta_b1
  intro b3
  generalize hD : ((b3, Obj.cells #[.string src.1, .int .u16 src.2.1, .int .u32 src.2.2.1, .string src.2.2.2, .string dst.1, .int .u16 dst.2.1, .int .u32 dst.2.2.1, .string dst.2.2.2, .slice ga gs.length gc, .slice na ns.length nc] 52 (0, 0)) :: S) = D
  have hSD : Sub S D := hD ▸ (Sub.refl S).skip _
  have cD : ∀ {J : IMem} {T : SH} {o : Nat} {v : Value}, Sub D T → (encD src dst (ga, gs.length, gc) (na, ns.length, nc))[o]? = some v → Cell J T ⟨b3, o, none⟩ v := fun h hj => Sub.cell' h (by rw [← hD]; exact Cell.at0 (by show (encD src dst (ga, gs.length, gc) (na, ns.length, nc)).toArray[_]? = _; rw [List.getElem?_toArray]; exact hj))
  refine (Soa_runs (hx.sub hSD) (by omega)).mono ?_
  rintro v J D hle ⟨rfl, rfl⟩
  refine ⟨_, _, _, _, _, rfl, fun b6 => StP.rec (x := (zs.find? isSoa).getD zR0) ?_⟩
  generalize hT : ((b6, Obj.cells (encR ((zs.find? isSoa).getD zR0)).toArray 36 (0, 0)) :: D) = T6
  have hD6 : Sub D T6 := hT ▸ (Sub.refl D).skip _
  have c6 : ∀ {J' : IMem} {o : Nat} {v : Value}, (encR ((zs.find? isSoa).getD zR0))[o]? = some v → Cell J' T6 ⟨b6, o, none⟩ v := fun hj => by rw [← hT]; exact Cell.at0 (by rw [List.getElem?_toArray]; exact hj)
  -- the SOA is not the one that it is to be
  have bad : zs.find? isSoa ≠ some src → DRes S (.tuple #[.slice none 0 0, .iface 43 (.int .i64 5)]) T6 (deltaF zs src dst gs ns) := fun h => by
    rw [deltaF, if_neg h]
    exact ⟨_, _, _, [], rfl, OwnR.nil, hSD.trans hD6⟩
  unfold apply_Delta_b2
  refine bcase_not (bcase_of (fun hsome => ?_) (fun hnone => bcase_t rfl (bad ?_)))
  · obtain ⟨so, hso⟩ := Option.isSome_iff_exists.1 hsome
    rw [hso] at c6
    refine ⟨_, c6 rfl, _, c6 rfl, _, c6 rfl, _, c6 rfl, _, cD hD6 rfl, _, cD hD6 rfl, _, cD hD6 rfl, _, cD hD6 rfl, bcase_not (bcase_of (fun heq => ?_) (fun hne => bad ?_))⟩
    · have hfs : zs.find? isSoa = some src := by rw [hso]; exact congrArg some (recEq.1 heq)
      unfold apply_Delta_b3
      refine ⟨_, cD hD6 rfl, _, cD hD6 rfl, _, cD hD6 rfl, _, cD hD6 rfl, ?_⟩
      have hdf : deltaF zs src dst gs ns = resO ((ns ++ [dst]).foldl insO ((src :: gs).foldl delO (some zs))) (codeO ((src :: gs).foldl delO (some zs))) := by rw [deltaF, if_pos hfs]
      rw [hdf]
      refine (StO.del (r := src) (most := 10000) ((hx.sub (hSD.trans hD6)).le hle) hz hl (by omega)).mono ?_
      rintro v J1 T1 hle1 ⟨p1, n1, d1, e1, own1, rfl, hst1, hs1⟩
      refine ⟨_, _, _, _, rfl, ?_⟩
      have hD1 : Sub (own1 ++ D) T1 := hs1.of_right hD6
      have hrow : ∀ {J' : IMem} {T' : SH}, J1.le J' → Sub D T' → RowIn J' T' ga gs.length 4 encR gs := fun h1 h2 => (hg.sub (hSD.trans h2)).le ((hle.trans hle1).trans h1)
      have hrown : ∀ {J' : IMem} {T' : SH}, J1.le J' → Sub D T' → RowIn J' T' na ns.length 4 encR ns := fun h1 h2 => (hn.sub (hSD.trans h2)).le ((hle.trans hle1).trans h1)
      unfold apply_Delta_b4
      refine ⟨_, _, _, cD hD1.right rfl, ?_⟩
      unfold apply_Delta_b5
      refine ⟨fun m D' o on oc e' x' xn' xc' q i J' T' => D' = ⟨b3, 0, none⟩ ∧ x' = ga ∧ xn' = gs.length ∧ q = (gs.length : Int) ∧ J1.le J' ∧ ∃ (k : Nat) (own' : SH), i = (k : Int) ∧ k ≤ gs.length ∧ m = gs.length - k ∧ StO ((gs.take k).foldl delO (delO (some zs) src)) 6 10000 e' (.slice o on oc) own' ∧ Sub (own' ++ D) T',
        gs.length, ⟨rfl, rfl, rfl, rfl, IMem.le.refl _, 0, own1, rfl, Nat.zero_le _, rfl, hst1, hD1⟩, ?_⟩
      rintro m D' o on oc e' x' xn' xc' q i J' T' - ⟨rfl, rfl, rfl, rfl, hle', k, own', rfl, hk, rfl, hst', hs'⟩
      unfold apply_Delta_l6
      refine bcase_dec (fun h => ?_) (fun h => ?_)
      · obtain ⟨r, hr⟩ := get_lt (xs := gs) (k := k) (by omega)
        obtain ⟨a', rfl, hc⟩ := (hrow hle' hs'.right).cell hr
        obtain ⟨c0, c1, c2, c3⟩ := CellsR hc
        refine ⟨by omega, by omega, _, c0, _, c1, _, c2, _, c3, fun b11 => StP.rec (x := r) ?_⟩
        rcases hst' with ⟨ys, hys, rfl, ho, hss, hyl⟩ | ⟨hno, rfl, ho⟩
        · have hn := ho.len
          subst hn
          refine ⟨true, rfl, bcase_f rfl ⟨_, Cell.at0 rfl, _, Cell.at0 rfl, _, Cell.at0 rfl, _, Cell.at0 rfl, (StO.del (r := r) (most := 10000) ((ho.row encR_len).sub (hs'.left.skip _)) hss hyl (by omega)).mono ?_⟩⟩
          rintro v J2 T2 hle2 ⟨p2, n2, d2, e2, own2, rfl, hst2, hs2⟩
          refine ⟨_, _, _, _, rfl, gs.length - (k + 1), by omega, rfl, rfl, rfl, rfl, hle'.trans hle2, k + 1, own2, ?_, by omega, rfl, ?_, hs2.of_right (hs'.right.skip _)⟩
          · rw [wrap_i64 (by omega) (by omega)]; rfl
          · rw [fold_snoc hr, hys]; exact hst2
        · refine ⟨false, rfl, bcase_t rfl ?_⟩
          have hall : (src :: gs).foldl delO (some zs) = none := fold_none delO_none (rs := gs) hno
          rw [hall, insO_none]
          exact ⟨none, 0, 0, [], rfl, OwnR.nil, hSD.trans (hs'.right.skip _)⟩
      · have hke : k = gs.length := by omega
        subst hke
        rw [List.take_length] at hst'
        have hst2 : StO ((src :: gs).foldl delO (some zs)) 6 10000 e' (.slice o on oc) own' := hst'
        generalize (src :: gs).foldl delO (some zs) = st at hst2 ⊢
        have fin : ∀ (J2 : IMem) (T2 : SH) (v : Value) (own2 : SH) (y : Option Addr) (yn yc : Nat), OwnZ (.slice y yn yc) (ns ++ [dst]) own2 → Sub (own2 ++ (own' ++ D)) T2 →
            apply_Delta_b8 (fun v _ T => DRes S v T (resO ((ns ++ [dst]).foldl insO st) (codeO st))) o on oc e' y yn yc (yn : Int) 0 J2 T2 := by
          intro J2 T2 v own2 y yn yc ho2 hs2
          have hn2 := ho2.len
          subst hn2
          refine ins_loop (L := own2 ++ D) hst2 ?_ ((ho2.row encR_len).sub (Sub.left (Sub.refl _))) (hSD.trans (Sub.right (Sub.refl _))) (by rw [List.length_append]; simp only [List.length_singleton]; omega)
          exact hs2.perm (by rw [← List.append_assoc, ← List.append_assoc]; exact List.Perm.append_right D List.perm_append_comm)
        unfold apply_Delta_b7
        refine ⟨_, _, _, cD hs'.right rfl, _, cD hs'.right rfl, _, cD hs'.right rfl, _, cD hs'.right rfl, _, cD hs'.right rfl, ⟨?_, fun b57 => ⟨((Sub.refl _).skip _).keep (IMem.le.refl _), ?_⟩⟩⟩
        · refine (Clone2_runs (hrown hle' hs'.right) (by omega)).mono ?_
          rintro v J2 T2 hle2 ⟨own2, ho2, hs2⟩
          obtain ⟨y, yc, rfl⟩ := ho2.slice
          refine ⟨_, _, _, rfl, hs2.right.keep hle2, fun b57 => ⟨(hs2.right.skip _).keep hle2, ?_⟩⟩
          refine AppZ (r := dst) (F := own' ++ D) (hs2.of_right hs') ho2 (by omega) ?_
          intro y2 n2 c2 own3 T3 ho3 hs3
          exact fin J2 T3 .nilIface own3 y2 n2 c2 ho3 hs3
        · refine (Clone2_runs (hrown hle' (hs'.right.skip _)) (by omega)).mono ?_
          rintro v J2 T2 hle2 ⟨own2, ho2, hs2⟩
          obtain ⟨y, yc, rfl⟩ := ho2.slice
          refine ⟨_, _, _, rfl, (hs2.right.drop).keep hle2, ?_⟩
          refine AppR (xs := ns) (ys := [dst]) (F := own' ++ D) (hs2.of_right (hs'.skip _)) ho2 ((row_one dst).keep (hs2.right.keep hle2)) (by simp only [List.length_singleton]; omega) ?_
          intro y2 n2 c2 own3 T3 ho3 hs3
          exact fin J2 T3 .nilIface own3 y2 n2 c2 ho3 hs3
    · rw [hso]
      intro e
      injection e with e
      subst e
      have := recEq.2 (rfl : so = so)
      rw [Option.getD_some] at hne
      rw [hne] at this; cases this
  · intro e; rw [e] at hnone; cases hnone
end Go.Proofs.YtdajglfbbcbgpaaDoor
