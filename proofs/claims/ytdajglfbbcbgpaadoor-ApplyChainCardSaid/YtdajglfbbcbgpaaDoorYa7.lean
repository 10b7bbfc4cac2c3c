/- ApplyDelta. -/
import Derived.Test.YtdajglfbbcbgpaaDoorYa6
namespace Go.Px
theorem StP.whole {S : SH} {b : Nat} {cs vs : List Value} {e : TypeId} {K : SH → Prop} (hc : vs.length = cs.length) (ho : vs.all one = true) (h : K ((b, .cells vs.toArray e (0, 0)) :: S)) : StP ((b, .cells cs.toArray e (0, 0)) :: S) ⟨b, 0, none⟩ vs K := by
  refine StP.list (by omega) ho ?_
  rw [List.take_zero, List.drop_of_length_le (by omega), List.append_nil, List.nil_append]
  exact h
end Go.Px
namespace Go.Proofs.YtdajglfbbcbgpaaDoor
open Go.Px
set_option linter.unusedVariables false

theorem slw_of {W : World} {x : Sl} (h : SlW W x) : ∃ xs, Slb (imW W) [] x xs ∧ (∀ y ∈ xs, y ≤ 255) := by
  obtain ⟨h1, h2, ys, h3, h4⟩ := h
  have hl := h3.1
  have hb : ∀ y ∈ ys, 0 ≤ y ∧ y ≤ 255 := fun y hy => by
    have := h4 y hy
    simp only [Lit.wf, IntKind.min, IntKind.max, IntKind.bits, IntKind.signed] at this
    simp at this; omega
  refine ⟨ys, ⟨RowIn.of_slin (el := elI8) (fun _ => Nat.zero_lt_one) h3, hl.symm, ?_, fun y hy => (hb y hy).1⟩, fun y hy => (hb y hy).2⟩
  simp only [maxLen] at h2; omega
theorem u8_of {x : Int} (h : (Lit.int .u8 x).wf = true) : 0 ≤ x ∧ x ≤ 255 := by
  simp only [Lit.wf, IntKind.min, IntKind.max, IntKind.bits, IntKind.signed] at h
  simp at h; omega
abbrev dB (bd : Nat) (src dst : Rc) (g n : Sl) : Nat × Obj := (bd, .cells (encD src dst g n).toArray 52 (0, 0))
theorem dcell {J : IMem} {T L : SH} {bd : Nat} {src dst : Rc} {g n : Sl} (h : Sub (dB bd src dst g n :: L) T) {o : Nat} {v : Value} (hj : (encD src dst g n)[o]? = some v) : Cell J T ⟨bd, o, none⟩ v :=
  Sub.cell' h (Cell.at0 (by rw [List.getElem?_toArray]; exact hj))
theorem StP.gone {T L : SH} {bd : Nat} {src dst : Rc} {g n g' : Sl} {K : SH → Prop} (h : Sub (dB bd src dst g n :: L) T) (hK : ∀ T', Sub (dB bd src dst g' n :: L) T' → K T') : StP T ((⟨bd, 0, none⟩ : Addr).add 8) [.slice g'.1 g'.2.1 g'.2.2] K :=
  StP.of_sub h (StP.list (o := 8) (L := encD src dst g n) (show 8 + 1 ≤ 10 by omega) rfl fun T' h => hK T' h)
theorem StP.new {T L : SH} {bd : Nat} {src dst : Rc} {g n n' : Sl} {K : SH → Prop} (h : Sub (dB bd src dst g n :: L) T) (hK : ∀ T', Sub (dB bd src dst g n' :: L) T' → K T') : StP T ((⟨bd, 0, none⟩ : Addr).add 9) [.slice n'.1 n'.2.1 n'.2.2] K :=
  StP.of_sub h (StP.list (o := 9) (L := encD src dst g n) (show 9 + 1 ≤ 10 by omega) rfl fun T' h => hK T' h)
theorem resO_or (st : Option (List Rc)) {c : Int} (h : c = 6 ∨ c = 7) : (∃ out, resO st c = (none, out)) ∨ ∃ c', (c' = 5 ∨ c' = 6 ∨ c' = 7) ∧ resO st c = (some c', []) := by
  cases st with
  | none => exact .inr ⟨c, .inr h, rfl⟩
  | some out => exact .inl ⟨out, rfl⟩
theorem deltaF_or (zs : List Rc) (src dst : Rc) (gs ns : List Rc) : (∃ out, deltaF zs src dst gs ns = (none, out)) ∨ ∃ c, (c = 5 ∨ c = 6 ∨ c = 7) ∧ deltaF zs src dst gs ns = (some c, []) := by
  unfold deltaF
  split
  · refine resO_or _ ?_
    generalize (src :: gs).foldl delO (some zs) = st
    cases st with
    | none => exact .inl rfl
    | some _ => exact .inr rfl
  · exact .inr ⟨5, .inl rfl, rfl⟩
theorem foldl_insO_len : ∀ (rs : List Rc) (zs out : List Rc), rs.foldl insO (some zs) = some out → out.length ≤ zs.length + rs.length
  | [], zs, out, h => by injection h with h; subst h; simp
  | r :: rs, zs, out, h => by
    rw [List.foldl_cons] at h
    cases hh : has zs r with
    | true =>
      have e : insO (some zs) r = none := by show (if has zs r then _ else _) = _; rw [hh]; rfl
      rw [e, insO_none] at h; cases h
    | false =>
      have e : insO (some zs) r = some (insR zs r) := by show (if has zs r then _ else _) = _; rw [hh]; rfl
      rw [e] at h
      have h1 := foldl_insO_len rs _ _ h
      have h2 := insR_length zs r
      rw [List.length_cons]; omega
theorem foldl_delO_len : ∀ (rs : List Rc) (zs out : List Rc), rs.foldl delO (some zs) = some out → out.length ≤ zs.length
  | [], zs, out, h => by injection h with h; subst h; simp
  | r :: rs, zs, out, h => by
    rw [List.foldl_cons] at h
    cases hh : has zs r with
    | true =>
      have e : delO (some zs) r = some (without zs r) := by show (if has zs r then _ else _) = _; rw [hh]; rfl
      rw [e] at h
      exact Nat.le_trans (foldl_delO_len rs _ _ h) (without_len _ _)
    | false =>
      have e : delO (some zs) r = none := by show (if has zs r then _ else _) = _; rw [hh]; rfl
      rw [e, delO_none] at h; cases h
theorem deltaF_len (zs : List Rc) (src dst : Rc) (gs ns : List Rc) : (deltaF zs src dst gs ns).2.length ≤ zs.length + ns.length + 1 := by
  unfold deltaF
  split
  · cases h1 : (src :: gs).foldl delO (some zs) with
    | none => rw [insO_none]; exact Nat.zero_le _
    | some ys =>
      have h2 := foldl_delO_len _ _ _ h1
      cases h3 : (ns ++ [dst]).foldl insO (some ys) with
      | none => exact Nat.zero_le _
      | some out =>
        have h4 := foldl_insO_len _ _ _ h3
        rw [List.length_append, List.length_singleton] at h4
        show out.length ≤ _
        omega
  · exact Nat.zero_le _
theorem zoneF_SS (o : ByteArray) (n : Int) (rs : List Rc) (most : Nat) : SS (zoneF o n rs most) := sortR_SS _
theorem mem_zoneF {o : ByteArray} {n : Int} {rs : List Rc} {most : Nat} {x : Rc} : x ∈ zoneF o n rs most ↔ x ∈ (rs.take most).map (underR false o) ∨ x = soaR o n := by
  rw [zoneF, mem_sortR, List.mem_append, List.mem_singleton]
theorem zoneF_len (o : ByteArray) (n : Int) (rs : List Rc) (most : Nat) : (zoneF o n rs most).length ≤ most + 1 ∧ 0 < (zoneF o n rs most).length := by
  constructor
  · have h := sortR_len ((rs.take most).map (underR false o) ++ [soaR o n])
    rw [List.length_append, List.length_map, List.length_take, List.length_singleton] at h
    unfold zoneF; omega
  · exact List.length_pos_of_mem (mem_zoneF.2 (.inr rfl))
theorem origN_size (n : Int) : (origN n).size ≤ 254 := nameW_size _

theorem ApplyDelta_row (W : World) (hg : W.cell? ⟨0, 0, none⟩ = some hErr) (o : Int) (a1 : Option Addr) (l1 c1 : Nat) (a2 : Option Addr) (l2 c2 : Nat) (a3 : Option Addr) (l3 c3 : Nat) (a4 : Option Addr) (l4 c4 : Nat) (src5 : Int)
    (w0 : (Lit.int .u8 o).wf = true) (w1 : ActsW W a1 l1 c1) (z1 : l1 ≤ 140737488355328) (w2 : ActsW W a2 l2 c2) (z2 : l2 ≤ 140737488355328) (w3 : ActsW W a3 l3 c3) (z3 : l3 ≤ 140737488355328) (w4 : SlW W (a4, l4, c4)) (z4 : l4 ≤ 140737488355328) (w5 : (Lit.int .u8 src5).wf = true) :
    Runs Tryd.prog 4 #[.int .u8 o, .slice a1 l1 c1, .slice a2 l2 c2, .slice a3 l3 c3, .slice a4 l4 c4, .int .u8 src5] (imW W) [] fun v _ _ => v = .bool true := by
  obtain ⟨acts, rfl, hr1, hl1, hok1⟩ := acts_of w1
  obtain ⟨gacts, rfl, hr2, hl2, hok2⟩ := acts_of w2
  obtain ⟨facts, rfl, hr3, hl3, hok3⟩ := acts_of w3
  obtain ⟨ms, hms, hm255⟩ := slw_of w4
  obtain ⟨rs, hrs⟩ := recs_of hok1
  obtain ⟨grs, hgrs⟩ := recs_of hok2
  obtain ⟨frs, hfrs⟩ := recs_of hok3
  have hml : l4 = ms.length := hms.len
  subst hml
  have ho := u8_of w0
  have hg0 : Cell (imW W) [] ⟨0, 0, none⟩ hErr := cell_im hg
  have hk : ∀ {J : IMem} {T : SH}, (imW W).le J → Keep (imW W) [] J T := fun {J T} h => ⟨h, T, by simp⟩
  refine bolterlaw10_ApplyDelta_fn _ _ _ _ _ _ _ _ _ _ _ _ _ _ _ _ _ ?_
  unfold bolterlaw10_ApplyDelta
  refine (awake10_runs hg0).mono ?_
  rintro v J1 T1 hle1 ⟨rfl, rfl⟩
  refine ⟨_, rfl, bcase_f rfl ?_⟩
  refine (Origin_runs o ho.1 _ _).mono ?_
  rintro v J2 T2 hle2 ⟨rfl, rfl⟩
  have hosz := origN_size o
  generalize origN o = org at hosz
  refine ⟨_, rfl, ?_⟩
  have hle02 := hle1.trans hle2
  refine (Zone_runs (most := 20) (o := org) (n := 3) (rs := rs) (hr1.keep (hk hle02)) hl1 (by omega) (hrs.keep (hk hle02)) (by omega)).mono ?_
  rintro v J3 T3 hle3 ⟨ownz, hz, hs3⟩
  obtain ⟨pz, dz, rfl⟩ := hz.slice
  have hzl := zoneF_len org 3 rs 20
  have hzs := zoneF_SS org 3 rs 20
  generalize hZ : zoneF org 3 rs 20 = Z at hz hzl hzs
  refine ⟨_, _, _, rfl, ?_⟩
  have hle03 := hle02.trans hle3
  refine (SoaAt_runs _ _ _ _).mono ?_
  rintro v J4 T4 hle4 ⟨rfl, rfl⟩
  generalize soaR org (IntKind.wrap .u32 ((2 : Int) + IntKind.wrap .u32 (src5.tmod 2))) = src
  refine ⟨_, _, _, _, rfl, ?_⟩
  refine (SoaAt_runs _ _ _ _).mono ?_
  rintro v J5 T5 hle5 ⟨rfl, rfl⟩
  generalize soaR org 4 = dst
  refine ⟨_, _, _, _, rfl, ?_⟩
  have hle05 := (hle03.trans hle4).trans hle5
  refine (Under_runs (most := 6) (o := org) (soas := false) (rs := frs) (hr3.keep (hk hle05)) hl3 (by omega) (hfrs.keep (hk hle05)) (by omega)).mono ?_
  rintro v J6 T6 hle6 ⟨ownf, hf, hs6⟩
  obtain ⟨pf, df, rfl⟩ := hf.slice
  have hfl : ((frs.take 6).map (underR false org)).length ≤ 6 := by rw [List.length_map, List.length_take]; omega
  generalize (frs.take 6).map (underR false org) = ns at hf hfl
  refine ⟨_, _, _, rfl, fun b15 => ?_⟩
  refine StP.whole (vs := encD src dst (none, 0, 0) (pf, ns.length, df)) rfl rfl ?_
  have hL6 : Sub (ownf ++ ownz) T6 := hs6.of_right (by simpa using hs3)
  have hle06 := hle05.trans hle6
  -- what stays
  generalize hLL : ownf ++ ownz = L at hL6
  have rowz : ∀ {J : IMem}, RowIn J L pz Z.length 4 encR Z := hLL ▸ (hz.row encR_len).sub (Sub.right (Sub.refl _))
  have rowf : ∀ {J : IMem}, RowIn J L pf ns.length 4 encR ns := hLL ▸ (hf.row encR_len).sub (Sub.left (Sub.refl _))
  have hb0 : Sub (dB b15 src dst (none, 0, 0) (pf, ns.length, df) :: ([] ++ L)) (dB b15 src dst (none, 0, 0) (pf, ns.length, df) :: T6) := hL6.cons _
  generalize hT7 : dB b15 src dst (none, 0, 0) (pf, ns.length, df) :: T6 = T7 at hb0
  -- the records that are there, and what comes then
  have main : ∀ (gs : List Rc) (own : SH) (g : Sl) (J : IMem) (T : SH), (imW W).le J → gs.length ≤ 4 → OwnZ (.slice g.1 g.2.1 g.2.2) gs own → Sub (dB b15 src dst g (pf, ns.length, df) :: (own ++ L)) T →
      bolterlaw10_ApplyDelta_b3 (fun v _ _ => v = .bool true) a1 acts.length c1 a4 ms.length c4 org pz Z.length dz ⟨b15, 0, none⟩ J T := by
    intro gs own g J T hle hgl hgo hT
    unfold bolterlaw10_ApplyDelta_b3 bolterlaw10_ApplyDelta_b4
    refine ⟨fun m a1' n1 c1' o' z' zn zc d' x xn xc q i J' T' => a1' = a1 ∧ n1 = acts.length ∧ o' = org ∧ z' = pz ∧ zn = Z.length ∧ d' = ⟨b15, 0, none⟩ ∧ x = a4 ∧ xn = ms.length ∧ q = (ms.length : Int) ∧ J.le J' ∧ ∃ (k : Nat) (gs' : List Rc) (own' : SH) (g' : Sl), i = (k : Int) ∧ k ≤ ms.length ∧ m = ms.length - k ∧ gs'.length ≤ 4 + min k 6 ∧ OwnZ (.slice g'.1 g'.2.1 g'.2.2) gs' own' ∧ Sub (dB b15 src dst g' (pf, ns.length, df) :: (own' ++ L)) T',
      ms.length, ⟨rfl, rfl, rfl, rfl, rfl, rfl, rfl, rfl, rfl, IMem.le.refl _, 0, gs, own, g, rfl, Nat.zero_le _, rfl, by omega, hgo, hT⟩, ?_⟩
    rintro m a1' n1 c1' o' z' zn zc d' x xn xc q i J' T' - ⟨rfl, rfl, rfl, rfl, rfl, rfl, rfl, rfl, rfl, hle', k, gs', own', g', rfl, hkl, rfl, hgl', hgo', hT'⟩
    unfold bolterlaw10_ApplyDelta_l5 bolterlaw10_ApplyDelta_b6
    refine bcase_dec (fun h => ?_) (fun h => ?_)
    · obtain ⟨y, hy⟩ := get_lt (xs := ms) (k := k) (by omega)
      obtain ⟨a', hae, hc⟩ := (hms.row.keep (hk (T := T') (hle.trans hle'))).cell hy
      dsimp only at hae
      subst hae
      have hy0 := hms.pos y (List.mem_of_getElem? hy)
      have hy1 := hm255 y (List.mem_of_getElem? hy)
      have c0 := hc 0 _ rfl
      have e0 : (a'.add (k * 1)).add 0 = a'.add (k * 1) := by simp [Addr.add]
      rw [e0] at c0
      refine ⟨by omega, by omega, y, c0, bcase_dec (fun h0 => by omega) (fun h0 => ?_)⟩
      rw [wrap_i64 (by omega) (by omega)]
      have hZ0 : (0 : Int) < (Z.length : Int) := by omega
      have hi0 := Int.tmod_nonneg (Z.length : Int) hy0
      have hi1 := Int.tmod_lt_of_pos y hZ0
      obtain ⟨j, hj⟩ : ∃ j : Nat, y.tmod (Z.length : Int) = (j : Int) := ⟨(y.tmod (Z.length : Int)).toNat, by omega⟩
      rw [hj] at hi1 ⊢
      obtain ⟨r, hr⟩ := get_lt (xs := Z) (k := j) (by omega)
      obtain ⟨a2', rfl, hc2⟩ := ((rowz (J := J')).sub hT'.drop.right).cell hr
      obtain ⟨e0, e1, e2, e3⟩ := CellsR hc2
      have hnext : IntKind.wrap .i64 ((k : Int) + 1) = ((k + 1 : Nat) : Int) := by rw [wrap_i64 (by omega) (by omega)]; rfl
      refine ⟨by omega, by omega, _, e0, _, e1, _, e2, _, e3, fun b18 => StP.rec (x := r) ?_⟩
      unfold bolterlaw10_ApplyDelta_b7 bolterlaw10_ApplyDelta_b8
      refine bcase_dec (fun h6 => ⟨_, Cell.at0 rfl, bcase_of (fun h7 => ?_) (fun h7 => ?_)⟩) (fun h6 => bcase_f rfl ?_)
      · refine ⟨_, _, _, dcell (hT'.skip _) rfl, _, Cell.at0 rfl, _, Cell.at0 rfl, _, Cell.at0 rfl, _, Cell.at0 rfl, fun b82 => ?_⟩
        refine AppZ (r := r) (own := own') (F := dB b15 src dst g' (pf, ns.length, df) :: L) (Sub.perm (hT'.skip _) List.perm_middle.symm) hgo' (by omega) ?_
        intro p n c own2 T2 ho2 hs2
        refine StP.gone (g' := (p, n, c)) (Sub.perm hs2 List.perm_middle) ?_
        intro T3 hs3
        exact ⟨ms.length - (k + 1), by omega, rfl, rfl, rfl, rfl, rfl, rfl, rfl, rfl, rfl, hle', k + 1, gs' ++ [r], own2, (p, n, c), hnext, by omega, rfl, by rw [List.length_append, List.length_singleton]; omega, ho2, hs3⟩
      · exact ⟨ms.length - (k + 1), by omega, rfl, rfl, rfl, rfl, rfl, rfl, rfl, rfl, rfl, hle', k + 1, gs', own', g', hnext, by omega, rfl, by omega, hgo', hT'.skip _⟩
      · exact ⟨ms.length - (k + 1), by omega, rfl, rfl, rfl, rfl, rfl, rfl, rfl, rfl, rfl, hle', k + 1, gs', own', g', hnext, by omega, rfl, by omega, hgo', hT'.skip _⟩
    · have hg' := hgo'.len
      obtain ⟨gp, gn, gc⟩ := g'
      dsimp only at hg'
      subst hg'
      unfold bolterlaw10_ApplyDelta_b9
      have rg : ∀ {J : IMem}, RowIn J (own' ++ L) gp gs'.length 4 encR gs' := (hgo'.row encR_len).sub (Sub.left (Sub.refl _))
      refine ⟨_, dcell hT' rfl, _, dcell hT' rfl, _, dcell hT' rfl, _, dcell hT' rfl, _, dcell hT' rfl, _, dcell hT' rfl, _, dcell hT' rfl, _, dcell hT' rfl, _, _, _, dcell hT' rfl, _, _, _, dcell hT' rfl, ?_⟩
      refine (Delta_runs (zs := Z) (gs := gs') (ns := ns) (src := src) (dst := dst) (rowz.sub hT'.drop.right) hzs (by omega) (rg.sub hT'.drop) (by omega) (rowf.sub hT'.drop.right) (by omega)).mono ?_
      rintro v J8 T8 hle8 ⟨p8, n8, d8, own8, rfl, ho8, hs8⟩
      have hd8 := hT'.trans hs8.right
      refine ⟨_, _, _, _, rfl, _, dcell hd8 rfl, _, dcell hd8 rfl, _, dcell hd8 rfl, _, dcell hd8 rfl, _, dcell hd8 rfl, _, dcell hd8 rfl, _, dcell hd8 rfl, _, dcell hd8 rfl, _, _, _, dcell hd8 rfl, _, _, _, dcell hd8 rfl, ?_⟩
      refine (delta_runs (zs := Z) (gs := gs') (ns := ns) (src := src) (dst := dst) (rowz.sub hd8.drop.right) hzs (by omega) (rg.sub hd8.drop) (by omega) (rowf.sub hd8.drop.right) (by omega)).mono ?_
      rintro v J9 T9 hle9 ⟨p9, n9, d9, own9, rfl, ho9, hs9⟩
      have hd9 := hd8.trans hs9.right
      have ho8' : Sub own8 T9 := hs8.left.trans hs9.right
      have hlen := deltaF_len Z src dst gs' ns
      refine ⟨_, _, _, _, rfl, ?_⟩
      unfold bolterlaw10_ApplyDelta_b10 bolterlaw10_ApplyDelta_b11 bolterlaw10_ApplyDelta_b12 bolterlaw10_ApplyDelta_b13 bolterlaw10_ApplyDelta_b14
      have hle9' : (imW W).le J9 := ((hle.trans hle').trans hle8).trans hle9
      rcases deltaF_or Z src dst gs' ns with ⟨out, he⟩ | ⟨c, hc, he⟩
      · rw [he] at ho8 ho9 hlen ⊢
        have hn8 := ho8.len
        have hn9 := ho9.len
        dsimp only at hn8 hn9 hlen
        subst hn8; subst hn9
        refine bcase_f rfl ⟨true, rfl, bcase_t rfl ?_⟩
        refine (Same_runs ((ho8.row encR_len).sub ho8') ((ho9.row encR_len).sub hs9.left) (by omega)).mono ?_
        rintro v J10 T10 hle10 ⟨⟨f, rfl, hf1⟩, rfl⟩
        obtain rfl := hf1.2 rfl
        refine ⟨_, rfl, bcase_t rfl ?_⟩
        have hle10' := hle9'.trans hle10
        refine (Zone_runs (most := 20) (o := o') (n := 3) (rs := rs) (hr1.keep (hk hle10')) hl1 (by omega) (hrs.keep (hk hle10')) (by omega)).mono ?_
        rintro v J11 T11 hle11 ⟨ownz2, hz2, hs11⟩
        obtain ⟨pz2, dz2, rfl⟩ := hz2.slice
        rw [hZ] at hz2 ⊢
        refine ⟨_, _, _, rfl, ?_⟩
        refine (Same_runs (rowz.sub (hd9.drop.right.trans hs11.right)) ((hz2.row encR_len).sub hs11.left) (by omega)).mono ?_
        rintro v J12 T12 hle12 ⟨⟨f, rfl, hf2⟩, rfl⟩
        obtain rfl := hf2.2 rfl
        exact ⟨_, rfl, rfl⟩
      · rw [he] at ho8 ho9 ⊢
        have hn8 := ho8.len
        dsimp only [List.length_nil] at hn8
        subst hn8
        have hne : ((((some c, ([] : List Rc)) : Option Int × List Rc).1.getD 0) != (0 : Int)) = true := by
          rcases hc with rfl | rfl | rfl <;> rfl
        refine bcase_t hne (bcase_t rfl ?_)
        refine (Number_runs (some c) (Cell.le hle9' hg0)).mono ?_
        rintro v J10 T10 hle10 ⟨rfl, rfl⟩
        exact ⟨_, rfl, by simp⟩
  have hrest : ∀ (b : Bool), bolterlaw10_ApplyDelta_b2 (fun v _ _ => v = .bool true) a1 acts.length c1 a2 gacts.length c2 a4 ms.length c4 org pz Z.length dz ⟨b15, 0, none⟩ b J6 T7 := by
    intro b
    unfold bolterlaw10_ApplyDelta_b2
    refine bcase_of (fun _ => ?_) (fun _ => main [] [] (none, 0, 0) J6 T7 hle06 (by simp) OwnR.nil hb0)
    refine (Under_runs (most := 4) (o := org) (soas := false) (rs := grs) (hr2.keep (hk hle06)) hl2 (by omega) (hgrs.keep (hk hle06)) (by omega)).mono ?_
    rintro v J7 T8 hle7 ⟨owng, hgo, hs7⟩
    obtain ⟨pg, dg, rfl⟩ := hgo.slice
    have hgl : ((grs.take 4).map (underR false org)).length ≤ 4 := by rw [List.length_map, List.length_take]; omega
    generalize (grs.take 4).map (underR false org) = gs at hgo hgl
    have hb7 : Sub (dB b15 src dst (none, 0, 0) (pf, ns.length, df) :: (owng ++ L)) T8 := Sub.perm (hs7.of_right hb0) List.perm_middle
    refine ⟨_, _, _, rfl, StP.gone (g' := (pg, gs.length, dg)) hb7 ?_⟩
    intro T9 hs9
    exact main gs owng (pg, gs.length, dg) J7 T9 (hle06.trans hle7) hgl hgo hs9
  unfold bolterlaw10_ApplyDelta_b1
  refine bcase_dec (fun h => ?_) (fun h => hrest _)
  obtain ⟨y, hy⟩ := get_lt (xs := gacts) (k := 0) (by omega)
  obtain ⟨a', rfl, hc⟩ := (hr2.keep (hk (T := T7) hle06)).cell hy
  obtain ⟨q0, q1, q2, q3, q4⟩ := CellsA hc
  exact ⟨by omega, by omega, _, q2, hrest _⟩
end Go.Proofs.YtdajglfbbcbgpaaDoor
