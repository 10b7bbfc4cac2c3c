/- ApplyChain: the row. -/
import Derived.Test.YtdajglfbbcbgpaaDoorYb3
namespace Go.Proofs.YtdajglfbbcbgpaaDoor
open Go.Px
set_option linter.unusedVariables false
set_option linter.unusedSimpArgs false

/-- what lies there behind some rounds -/
structure ChSt (o : ByteArray) (J : IMem) (T : SH) (zsv dsv : Value) (Z0 : List Rc) (pz : Option Addr) (k : Nat) (hs : List Sl) (zs : List (List Rc)) (dl : List Dl) (xs : List Dd) (own1 own2 L : SH) : Prop where
  num : xs.length = k
  ch : ChOK o zs xs
  first : zs[0]? = some Z0
  rows : ZsOK J L hs zs
  deltas : DsOK J L dl xs
  small : ∀ x ∈ xs, x.2.2.1.length ≤ 100 ∧ x.2.2.2.length ≤ 100
  row0 : RowIn J L pz Z0.length 4 encR Z0
  oh : OwnH zsv hs own1
  od : OwnD dsv dl own2
  heap : Sub (own1 ++ (own2 ++ L)) T
theorem chain_end {o : ByteArray} {J : IMem} {T : SH} {zp dp pz : Option Addr} {zn zc dn dc zcap : Nat} {Z0 : List Rc} {k : Nat} {hs : List Sl} {zs : List (List Rc)} {dl : List Dl} {xs : List Dd} {own1 own2 L : SH} (h : ChSt o J T (.slice zp zn zc) (.slice dp dn dc) Z0 pz k hs zs dl xs own1 own2 L) (hk : k ≤ 4) (hg : Cell J [] ⟨0, 0, none⟩ hErr) :
    bolterlaw10_ApplyChain_b5 (fun v _ _ => v = .bool true) o pz Z0.length zcap zp zn zc dp dn dc J T := by
  obtain ⟨hnum, hch, hf, hrows, hds, hsm, hr0, hoh, hod, hT⟩ := h
  have hdn := hod.len
  have hzn := hoh.len
  subst hdn; subst hzn
  have hdx := hds.len
  have hzx := hrows.len
  have hcl := hch.len
  have hz0 := hch.zone 0 Z0 hf
  have hL : Sub L T := hT.right.right
  obtain ⟨y, hy, hfold⟩ := hch.lead xs.length 0 Z0 (by omega) hf
  rw [List.drop_zero] at hfold
  have hyz := hch.zone xs.length y hy
  unfold bolterlaw10_ApplyChain_b5
  refine (Deltas_runs (zs := Z0) (ds := dl) (xs := xs) (o := o) (hr0.sub hL) hz0.1.ss (by omega) ((hod.row encDl_len).sub hT.right.left) (hds.keep (keep_of hL)) (by omega) hsm (fun out ho => ?_)).mono ?_
  · rw [hfold] at ho
    injection ho with _ ho
    subst ho
    exact ⟨right_of hyz.1 hyz.2.1 (by omega), fun r hr => (hyz.2.1 r hr).small⟩
  rintro v J1 T1 hle1 ⟨p1, n1, d1, o1, rfl, ho1, hs1⟩
  rw [hfold] at ho1 ⊢
  have hn1 := ho1.len
  dsimp only at hn1
  subst hn1
  have hT1 : Sub (own1 ++ (own2 ++ L)) T1 := hT.trans hs1.right
  refine ⟨_, _, _, _, rfl, ?_⟩
  unfold bolterlaw10_ApplyChain_b6
  refine ⟨true, rfl, bcase_f rfl ?_⟩
  obtain ⟨hl, hhl⟩ := get_lt (xs := hs) (k := xs.length) (by omega)
  have elast : IntKind.wrap .i64 ((hs.length : Int) - 1) = (xs.length : Int) := by rw [wrap_i64 (by omega) (by omega)]; omega
  rw [elast]
  obtain ⟨az, haz, hcz⟩ := ((hoh.row elH_len (I := J1)).sub hT1.left).cell hhl
  subst haz
  have c0 := hcz 0 _ rfl
  have e0 : (az.add (xs.length * 1)).add 0 = az.add (xs.length * 1) := by simp [Addr.add]
  rw [e0] at c0
  refine ⟨by omega, by omega, _, _, _, c0, ?_⟩
  have hrowy := ((hrows.ok _ hl y hhl hy).le hle1).sub hT1.right.right
  have hly := hrowy.1
  rw [← hly] at hrowy ⊢
  refine (Same_runs ((ho1.row encR_len).sub hs1.left) hrowy (by omega)).mono ?_
  rintro v J2 T2 hle2 ⟨⟨f, rfl, hf2⟩, rfl⟩
  obtain rfl := hf2.2 rfl
  refine ⟨_, rfl, ?_⟩
  unfold bolterlaw10_ApplyChain_b7 bolterlaw10_ApplyChain_b8
  refine bcase_f rfl (bcase_dec (fun h2 => rfl) (fun h2 => ?_))
  have hcap := OwnR.cap (by decide) hod
  refine ⟨by omega, by omega, ?_⟩
  -- the chain without its first delta
  have hdrow : RowIn J2 T2 (slA dp dc 1 10) (dl.drop 1).length 10 encDl (dl.drop 1) := by
    rw [List.length_drop]
    exact ((hod.row encDl_len (I := J2)).drop (j := 1) (by omega) hcap).sub hT1.right.left
  have e1 : ((1 : Int).toNat) = 1 := rfl
  rw [e1, ← List.length_drop]
  obtain ⟨x1, hx1⟩ := get_lt (xs := xs) (k := 1) (by omega)
  obtain ⟨z1, hz1⟩ := get_lt (xs := zs) (k := 1) (by omega)
  obtain ⟨z2, hz2⟩ := get_lt (xs := zs) (k := 2) (by omega)
  have hst := hch.step 1 x1 z1 z2 hx1 hz1 hz2
  have hdrop : xs.drop 1 = x1 :: xs.drop 2 := by
    rw [List.drop_eq_getElem_cons (by omega)]
    rw [List.getElem?_eq_getElem (by omega)] at hx1
    injection hx1 with hx1; rw [hx1]
  have hbad : foldD Z0 (xs.drop 1) = (some 5, []) := by
    have hne : Z0.find? isSoa ≠ some x1.1 := by
      rw [find_of hz0.1.soa hz0.1.mem hz0.1.one, hst]
      intro e
      injection e with e
      have : soaD 1 = soaD 2 := congrArg (fun r : Rc => r.2.2.2) e
      exact soaD_ne this
    rw [hdrop, foldD, deltaF, if_neg hne]
  refine (Deltas_runs (zs := Z0) (ds := dl.drop 1) (xs := xs.drop 1) (o := o) ((hr0.le (hle1.trans hle2)).sub hT1.right.right) hz0.1.ss (by omega) hdrow ((hds.keep (hT1.right.right.keep (hle1.trans hle2))).drop 1) (by rw [List.length_drop]; omega) (fun x hx => hsm x (List.mem_of_mem_drop hx)) (fun out ho => ?_)).mono ?_
  · rw [hbad] at ho; cases ho
  rintro v J3 T3 hle3 ⟨p3, n3, d3, o3, rfl, ho3, hs3⟩
  rw [hbad] at ho3 ⊢
  refine ⟨_, _, _, _, rfl, (Number_runs (some 5) (Cell.le ((hle1.trans hle2).trans hle3) hg)).mono ?_⟩
  rintro v J4 T4 hle4 ⟨rfl, rfl⟩
  exact ⟨_, rfl, rfl⟩
theorem ApplyChain_row (W : World) (hg : W.cell? ⟨0, 0, none⟩ = some hErr) (o : Int) (a1 : Option Addr) (l1 c1 : Nat) (a2 : Option Addr) (l2 c2 : Nat)
    (w0 : (Lit.int .u8 o).wf = true) (w1 : ActsW W a1 l1 c1) (z1 : l1 ≤ 140737488355328) (w2 : PartsW W a2 l2 c2) (z2 : l2 ≤ 140737488355328) :
    Runs Tryd.prog 7 #[.int .u8 o, .slice a1 l1 c1, .slice a2 l2 c2] (imW W) [] fun v _ _ => v = .bool true := by
  obtain ⟨acts, rfl, hr1, hl1, hok1⟩ := acts_of w1
  obtain ⟨_, hpm, ps, hps, hpw⟩ := w2
  have hpl := hps.1
  have hprow : RowIn (imW W) [] a2 ps.length 1 elH ps := RowIn.of_slin (el := elH) (fun _ => by simp [elH]) hps
  subst hpl
  obtain ⟨rs, hrs⟩ := recs_of hok1
  have ho := u8_of w0
  have hg0 : Cell (imW W) [] ⟨0, 0, none⟩ hErr := cell_im hg
  have hk : ∀ {J : IMem} {T : SH}, (imW W).le J → Keep (imW W) [] J T := fun {J T} h => ⟨h, T, by simp⟩
  refine bolterlaw10_ApplyChain_fn _ _ _ _ _ _ _ _ _ _ ?_
  unfold bolterlaw10_ApplyChain
  refine (awake10_runs hg0).mono ?_
  rintro v J1 T1 hle1 ⟨rfl, rfl⟩
  refine ⟨_, rfl, bcase_f rfl ?_⟩
  refine (Origin_runs o ho.1 _ _).mono ?_
  rintro v J2 T2 hle2 ⟨rfl, rfl⟩
  have hosz := origN_size o
  have hon := origN_name o
  generalize origN o = org at hosz hon
  refine ⟨_, rfl, ?_⟩
  have hle02 := hle1.trans hle2
  refine (Zone_runs (most := 10) (o := org) (n := 1) (rs := rs) (hr1.keep (hk hle02)) hl1 (by omega) (hrs.keep (hk hle02)) (by omega)).mono ?_
  rintro v J3 T3 hle3 ⟨owna, hza, hs3⟩
  obtain ⟨pa, da, rfl⟩ := hza.slice
  have hal := (zoneF_len org 1 rs 10).1
  have hzoA := zone_of org 1 rs 10
  have hzkA : ∀ r ∈ zoneF org 1 rs 10, ZOK org r := ZOK.zone hon hrs.num
  generalize zoneF org 1 rs 10 = Z0 at hza hal hzoA hzkA
  refine ⟨_, _, _, rfl, fun b33 => ?_⟩
  have hle03 := hle02.trans hle3
  unfold bolterlaw10_ApplyChain_b1 bolterlaw10_ApplyChain_b2
  refine ⟨fun m o' z zn zc q qn qc d dn dc x xn xc ln i J T => o' = org ∧ z = pa ∧ zn = Z0.length ∧ x = a2 ∧ xn = ps.length ∧ ln = (ps.length : Int) ∧ J3.le J ∧ ∃ (k : Nat) (hs : List Sl) (zs : List (List Rc)) (dl : List Dl) (xs : List Dd) (own1 own2 L : SH), i = (k : Int) ∧ k ≤ ps.length ∧ k ≤ 4 ∧ m = ps.length - k ∧ ChSt org J T (.slice q qn qc) (.slice d dn dc) Z0 pa k hs zs dl xs own1 own2 L,
    ps.length, ⟨rfl, rfl, rfl, rfl, rfl, rfl, IMem.le.refl _, 0, [(pa, Z0.length, da)], [Z0], [], [], [hB b33 (pa, Z0.length, da)], [], owna, rfl, Nat.zero_le _, Nat.zero_le _, rfl, ?_⟩, ?_⟩
  · refine ⟨rfl, ⟨rfl, fun j z hz => ?_, fun j x z z' hx => by simp at hx⟩, rfl, ⟨rfl, fun i h z h1 h2 => ?_⟩, ⟨rfl, fun i d x h1 => by simp at h1⟩, fun x hx => (by cases hx), hza.row encR_len, .inr ⟨b33, 1, [], rfl, rfl, rfl, by simp [maxLen]⟩, OwnR.nil, ?_⟩
    · have hj : j = 0 := by
        have := lt_get hz
        rw [List.length_singleton] at this; omega
      subst hj
      simp only [List.getElem?_cons_zero, Option.some.injEq] at hz
      subst hz
      exact ⟨hzoA, hzkA, hal⟩
    · have hi : i = 0 := by
        have := lt_get h1
        rw [List.length_singleton] at this; omega
      subst hi
      simp only [List.getElem?_cons_zero, Option.some.injEq] at h1 h2
      subst h1; subst h2
      exact hza.row encR_len
    · exact (hs3.left.cons (hB b33 (pa, Z0.length, da)))
  rintro m o' z zn zc q qn qc d dn dc x xn xc ln i J T - ⟨rfl, rfl, rfl, hxe, rfl, rfl, hle, k, hs, zs, dl, xs, own1, own2, L, rfl, hkp, hk4, rfl, hst⟩
  have hle0 : (imW W).le J := hle03.trans hle
  unfold bolterlaw10_ApplyChain_l3 bolterlaw10_ApplyChain_b4
  refine bcase_dec (fun h => ?_) (fun h => chain_end hst hk4 (Cell.le hle0 hg0))
  obtain ⟨pt, hpt⟩ := get_lt (xs := ps) (k := k) (by omega)
  obtain ⟨ap, hae, hcp⟩ := (hprow.keep (hk (T := T) hle0)).cell hpt
  rw [hxe, hae]
  have c0 := hcp 0 _ rfl
  have e0 : (ap.add (k * 1)).add 0 = ap.add (k * 1) := by simp [Addr.add]
  rw [e0] at c0
  refine ⟨by omega, by omega, _, _, _, c0, bcase_beq (fun h4 => chain_end hst hk4 (Cell.le hle0 hg0)) (fun h4 => ?_)⟩
  have hk3 : k < 4 := by omega
  obtain ⟨pacts, hpl, hpr, hpll, hpok⟩ := acts_of (hpw pt (List.mem_of_getElem? hpt))
  obtain ⟨prs, hprs⟩ := recs_of hpok
  have w1 : IntKind.wrap .u32 (IntKind.wrap .i64 ((k : Int) + 1)) = (k : Int) + 1 := by rw [wrap_i64 (by omega) (by omega), wrap_u32 (by omega) (by omega)]
  have w2 : IntKind.wrap .u32 (IntKind.wrap .i64 ((k : Int) + 2)) = (k : Int) + 2 := by rw [wrap_i64 (by omega) (by omega), wrap_u32 (by omega) (by omega)]
  rw [w1, w2, hpl]
  refine (Zone_runs (most := 10) (o := o') (n := (k : Int) + 2) (rs := prs) (hpr.keep (hk hle0)) hpll (by omega) (hprs.keep (hk hle0)) (by omega)).mono ?_
  rintro v J4 T4 hle4 ⟨ownn, hzn, hs4⟩
  obtain ⟨pn, dn', rfl⟩ := hzn.slice
  have hnl := (zoneF_len o' ((k : Int) + 2) prs 10).1
  have hzoN := zone_of o' ((k : Int) + 2) prs 10
  have hzkN : ∀ r ∈ zoneF o' ((k : Int) + 2) prs 10, ZOK o' r := ZOK.zone hon hprs.num
  generalize zoneF o' ((k : Int) + 2) prs 10 = Zn at hzn hnl hzoN hzkN
  refine ⟨_, _, _, rfl, ?_⟩
  obtain ⟨hnum, hch, hf, hrows, hds, hsm, hr0, hoh, hod, hT⟩ := hst
  have hzx := hrows.len
  have hcl := hch.len
  have hqn := hoh.len
  have hdn := hod.len
  subst hqn; subst hdn
  obtain ⟨hk_, hhk⟩ := get_lt (xs := hs) (k := k) (by omega)
  obtain ⟨Zk, hZk⟩ := get_lt (xs := zs) (k := k) (by omega)
  have hzk := hch.zone k Zk hZk
  have hT4 : Sub (own1 ++ (own2 ++ L)) T4 := hT.trans hs4.right
  obtain ⟨az, haz, hcz⟩ := ((hoh.row elH_len (I := J4)).sub hT4.left).cell hhk
  subst haz
  have d0 := hcz 0 _ rfl
  have e0' : (az.add (k * 1)).add 0 = az.add (k * 1) := by simp [Addr.add]
  rw [e0'] at d0
  refine ⟨by omega, by omega, _, _, _, d0, ?_⟩
  have hrowk := ((hrows.ok _ hk_ Zk hhk hZk).le hle4).sub hT4.right.right
  have hly := hrowk.1
  rw [← hly] at hrowk ⊢
  refine (Between_runs hrowk ((hzn.row encR_len).sub hs4.left) hzk.1.ss hzoN.ss (by omega) (by omega)).mono ?_
  rintro v J5 T5 hle5 ⟨pg, ng, cg, pf, nf, cf, owng, ownf, rfl, hgo, hfo, hs5⟩
  have hng := hgo.len
  have hnf := hfo.len
  subst hng; subst hnf
  refine ⟨_, _, _, _, _, _, rfl, (SoaAt_runs _ _ _ _).mono ?_⟩
  rintro v J6 T5 hle6 ⟨rfl, rfl⟩
  refine ⟨_, _, _, _, rfl, (SoaAt_runs _ _ _ _).mono ?_⟩
  rintro v J7 T5 hle7 ⟨rfl, rfl⟩
  refine ⟨_, _, _, _, rfl, fun b16 => ?_⟩
  have hsn := hch.snoc (z := Zk) (z' := Zn) (by rw [hnum]; exact hZk) (by rw [hnum]; exact hzoN) hzkN hnl
  rw [hnum] at hsn
  generalize hsrc : soaR o' ((k : Int) + 1) = src at hsn
  generalize hdst : soaR o' ((k : Int) + 2) = dst at hsn
  refine StP.whole (vs := encD src dst (none, 0, 0) (none, 0, 0)) rfl rfl ?_
  have hle7' : J4.le J7 := (hle5.trans hle6).trans hle7
  have hleJ : J.le J7 := hle4.trans hle7'
  -- everything that stays
  have hT6 : Sub (dB b16 src dst (none, 0, 0) (none, 0, 0) :: ([] ++ (own1 ++ (own2 ++ (ownf ++ (owng ++ (ownn ++ L))))))) (dB b16 src dst (none, 0, 0) (none, 0, 0) :: T5) := by
    refine Sub.cons (sub_of fun a => ?_) _
    have h1 := hs5.cnt a
    have h2 := hs4.cnt a
    have h3 := hT.cnt a
    simp only [cnt_cons, cnt_app, cnt_nil] at h1 h2 h3 ⊢
    omega
  generalize hL5 : ownf ++ (owng ++ (ownn ++ L)) = L5 at hT6
  have hLL : Sub L L5 := hL5 ▸ (Sub.refl _).right.right.right
  have rowf : ∀ {J : IMem}, RowIn J L5 pf (lessF Zn Zk).length 4 encR (lessF Zn Zk) := hL5 ▸ (hfo.row encR_len).sub (Sub.refl _).left
  have rowg : ∀ {J : IMem}, RowIn J L5 pg (lessF Zk Zn).length 4 encR (lessF Zk Zn) := hL5 ▸ (hgo.row encR_len).sub (Sub.refl _).right.left
  have rown : ∀ {J : IMem}, RowIn J L5 pn Zn.length 4 encR Zn := hL5 ▸ (hzn.row encR_len).sub (Sub.refl _).right.right.left
  have hgl := less_len Zk Zn
  have hfl := less_len Zn Zk
  generalize lessF Zk Zn = G at rowg hsn hgl hgo
  generalize lessF Zn Zk = Fr at rowf hsn hfl hfo
  generalize hT7 : dB b16 src dst (none, 0, 0) (none, 0, 0) :: T5 = T7 at hT6
  unfold bolterlaw10_ApplyChain_b9 bolterlaw10_ApplyChain_b10
  refine ⟨fun m o1 z1 zn1 zc1 q1 qn1 qc1 d1 dn1 dc1 y1 yn1 yc1 f1 fn1 fc1 e1 x1 xn1 xc1 ln1 i1 g1 gn1 gc1 lg1 j1 J' T' => o1 = o' ∧ z1 = z ∧ zn1 = Z0.length ∧ q1 = some az ∧ qn1 = hs.length ∧ qc1 = qc ∧ d1 = d ∧ dn1 = dl.length ∧ dc1 = dc ∧ y1 = pn ∧ yn1 = Zn.length ∧ f1 = pf ∧ fn1 = Fr.length ∧ e1 = ⟨b16, 0, none⟩ ∧ x1 = some ap ∧ xn1 = ps.length ∧ ln1 = (ps.length : Int) ∧ i1 = (k : Int) ∧ g1 = pg ∧ gn1 = G.length ∧ lg1 = (G.length : Int) ∧ J7.le J' ∧
      ∃ (j : Nat) (own3 : SH) (g : Sl), j1 = (j : Int) ∧ j ≤ G.length ∧ m = G.length - j ∧ OwnZ (.slice g.1 g.2.1 g.2.2) (notF (G.take j)) own3 ∧ Sub (dB b16 src dst g (none, 0, 0) :: (own3 ++ (own1 ++ (own2 ++ L5)))) T',
    G.length, ⟨rfl, rfl, rfl, rfl, rfl, rfl, rfl, rfl, rfl, rfl, rfl, rfl, rfl, rfl, rfl, rfl, rfl, rfl, rfl, rfl, rfl, IMem.le.refl _, 0, [], (none, 0, 0), rfl, Nat.zero_le _, rfl, OwnR.nil, hT6⟩, ?_⟩
  rintro m o1 z1 zn1 zc1 q1 qn1 qc1 d1 dn1 dc1 y1 yn1 yc1 f1 fn1 fc1 e1 x1 xn1 xc1 ln1 i1 g1 gn1 gc1 lg1 j1 J8 T8 - ⟨rfl, rfl, rfl, rfl, rfl, rfl, rfl, rfl, rfl, rfl, rfl, rfl, rfl, rfl, rfl, rfl, rfl, rfl, rfl, rfl, rfl, hle8, j, own3, g, rfl, hj, rfl, ho3, hT8⟩
  unfold bolterlaw10_ApplyChain_l11 bolterlaw10_ApplyChain_b12
  refine bcase_dec (fun h => ?_) (fun h => ?_)
  · obtain ⟨r, hr⟩ := get_lt (xs := G) (k := j) (by omega)
    obtain ⟨ad, rfl, hc⟩ := (rowg (J := J8)).sub hT8.drop.right.right.right |>.cell hr
    obtain ⟨c0, c1, c2, c3⟩ := CellsR hc
    have hsn := notF_snoc hr
    have hnl := notF_len (G.take j)
    rw [List.length_take] at hnl
    have hnext : IntKind.wrap .i64 ((j : Int) + 1) = ((j + 1 : Nat) : Int) := by rw [wrap_i64 (by omega) (by omega)]; rfl
    refine ⟨by omega, by omega, _, c0, _, c1, _, c2, _, c3, fun b18 => StP.rec (x := r) ⟨_, Cell.at0 rfl, bcase_of (fun h6 => ?_) (fun h6 => ?_)⟩⟩
    · have hso : isSoa r = false := by simpa [isSoa] using h6
      rw [hso, if_neg Bool.false_ne_true] at hsn
      refine ⟨_, _, _, dcell (hT8.skip _) rfl, _, Cell.at0 rfl, _, Cell.at0 rfl, _, Cell.at0 rfl, _, Cell.at0 rfl, fun b81 => ?_⟩
      refine AppZ (r := r) (own := own3) (F := dB b16 src dst g (none, 0, 0) :: (own1 ++ (own2 ++ L5))) ((hT8.skip _).re (by intro a; simp only [cnt_cons, cnt_app, cnt_nil]; omega)) ho3 (by omega) ?_
      intro p n c own3' T9 ho9 hs9
      refine StP.gone (g' := (p, n, c)) (hs9.re (L := dB b16 src dst g (none, 0, 0) :: (own3' ++ (own1 ++ (own2 ++ L5)))) (by intro a; simp only [cnt_cons, cnt_app, cnt_nil]; omega)) ?_
      intro T10 hs10
      exact ⟨G.length - (j + 1), by omega, rfl, rfl, rfl, rfl, rfl, rfl, rfl, rfl, rfl, rfl, rfl, rfl, rfl, rfl, rfl, rfl, rfl, rfl, rfl, rfl, rfl, hle8, j + 1, own3', (p, n, c), hnext, by omega, rfl, by rw [hsn]; exact ho9, hs10⟩
    · have hso : isSoa r = true := by simpa [isSoa] using h6
      rw [hso, if_pos rfl, List.append_nil] at hsn
      exact ⟨G.length - (j + 1), by omega, rfl, rfl, rfl, rfl, rfl, rfl, rfl, rfl, rfl, rfl, rfl, rfl, rfl, rfl, rfl, rfl, rfl, rfl, rfl, rfl, rfl, hle8, j + 1, own3, g, hnext, by omega, rfl, by rw [hsn]; exact ho3, hT8.skip _⟩
  have hje : j = G.length := by omega
  subst hje
  rw [List.take_length] at ho3
  obtain ⟨gp, gn, gc⟩ := g
  have hgn := ho3.len
  dsimp only at hgn
  subst hgn
  have hng := notF_len G
  generalize notF G = NG at ho3 hsn hng hT8
  unfold bolterlaw10_ApplyChain_b13 bolterlaw10_ApplyChain_b14
  refine ⟨fun m o2 z2 zn2 zc2 q2 qn2 qc2 d2 dn2 dc2 y2 yn2 yc2 e2 x2 xn2 xc2 ln2 i2 g2 gn2 gc2 lg2 j2 J' T' => o2 = o1 ∧ z2 = z1 ∧ zn2 = Z0.length ∧ q2 = some az ∧ qn2 = hs.length ∧ qc2 = qc1 ∧ d2 = d1 ∧ dn2 = dl.length ∧ dc2 = dc1 ∧ y2 = y1 ∧ yn2 = Zn.length ∧ e2 = ⟨b16, 0, none⟩ ∧ x2 = some ap ∧ xn2 = ps.length ∧ ln2 = (ps.length : Int) ∧ i2 = (k : Int) ∧ g2 = f1 ∧ gn2 = Fr.length ∧ lg2 = (Fr.length : Int) ∧ J8.le J' ∧
      ∃ (j : Nat) (own4 : SH) (n : Sl), j2 = (j : Int) ∧ j ≤ Fr.length ∧ m = Fr.length - j ∧ OwnZ (.slice n.1 n.2.1 n.2.2) (notF (Fr.take j)) own4 ∧ Sub (dB b16 src dst (gp, NG.length, gc) n :: (own4 ++ (own3 ++ (own1 ++ (own2 ++ L5))))) T',
    Fr.length, ⟨rfl, rfl, rfl, rfl, rfl, rfl, rfl, rfl, rfl, rfl, rfl, rfl, rfl, rfl, rfl, rfl, rfl, rfl, rfl, IMem.le.refl _, 0, [], (none, 0, 0), rfl, Nat.zero_le _, rfl, OwnR.nil, hT8⟩, ?_⟩
  rintro m o2 z2 zn2 zc2 q2 qn2 qc2 d2 dn2 dc2 y2 yn2 yc2 e2 x2 xn2 xc2 ln2 i2 g2 gn2 gc2 lg2 j2 J9 T9 - ⟨rfl, rfl, rfl, rfl, rfl, rfl, rfl, rfl, rfl, rfl, rfl, rfl, rfl, rfl, rfl, rfl, rfl, rfl, rfl, hle9, j, own4, n, rfl, hj2, rfl, ho4, hT9⟩
  unfold bolterlaw10_ApplyChain_l15 bolterlaw10_ApplyChain_b16
  refine bcase_dec (fun h => ?_) (fun h => ?_)
  · obtain ⟨r, hr⟩ := get_lt (xs := Fr) (k := j) (by omega)
    obtain ⟨ad, rfl, hc⟩ := (rowf (J := J9)).sub hT9.drop.right.right.right.right |>.cell hr
    obtain ⟨c0, c1, c2, c3⟩ := CellsR hc
    have hsn := notF_snoc hr
    have hnl := notF_len (Fr.take j)
    rw [List.length_take] at hnl
    have hnext : IntKind.wrap .i64 ((j : Int) + 1) = ((j + 1 : Nat) : Int) := by rw [wrap_i64 (by omega) (by omega)]; rfl
    refine ⟨by omega, by omega, _, c0, _, c1, _, c2, _, c3, fun b20 => StP.rec (x := r) ⟨_, Cell.at0 rfl, bcase_of (fun h6 => ?_) (fun h6 => ?_)⟩⟩
    · have hso : isSoa r = false := by simpa [isSoa] using h6
      rw [hso, if_neg Bool.false_ne_true] at hsn
      refine ⟨_, _, _, dcell (hT9.skip _) rfl, _, Cell.at0 rfl, _, Cell.at0 rfl, _, Cell.at0 rfl, _, Cell.at0 rfl, fun b97 => ?_⟩
      refine AppZ (r := r) (own := own4) (F := dB b16 src dst (gp, NG.length, gc) n :: (own3 ++ (own1 ++ (own2 ++ L5)))) ((hT9.skip _).re (by intro a; simp only [cnt_cons, cnt_app, cnt_nil]; omega)) ho4 (by omega) ?_
      intro p n' c own4' T10 ho10 hs10
      refine StP.new (n' := (p, n', c)) (hs10.re (L := dB b16 src dst (gp, NG.length, gc) n :: (own4' ++ (own3 ++ (own1 ++ (own2 ++ L5))))) (by intro a; simp only [cnt_cons, cnt_app, cnt_nil]; omega)) ?_
      intro T11 hs11
      exact ⟨Fr.length - (j + 1), by omega, rfl, rfl, rfl, rfl, rfl, rfl, rfl, rfl, rfl, rfl, rfl, rfl, rfl, rfl, rfl, rfl, rfl, rfl, rfl, hle9, j + 1, own4', (p, n', c), hnext, by omega, rfl, by rw [hsn]; exact ho10, hs11⟩
    · have hso : isSoa r = true := by simpa [isSoa] using h6
      rw [hso, if_pos rfl, List.append_nil] at hsn
      exact ⟨Fr.length - (j + 1), by omega, rfl, rfl, rfl, rfl, rfl, rfl, rfl, rfl, rfl, rfl, rfl, rfl, rfl, rfl, rfl, rfl, rfl, rfl, rfl, hle9, j + 1, own4, n, hnext, by omega, rfl, by rw [hsn]; exact ho4, hT9.skip _⟩
  have hje : j = Fr.length := by omega
  subst hje
  rw [List.take_length] at ho4
  obtain ⟨np, nn, nc⟩ := n
  have hnn := ho4.len
  dsimp only at hnn
  subst hnn
  have hnf := notF_len Fr
  generalize notF Fr = NF at ho4 hsn hnf hT9
  unfold bolterlaw10_ApplyChain_b17
  have hT10 : Sub (own1 ++ (own2 ++ (dB b16 src dst (gp, NG.length, gc) (np, NF.length, nc) :: (own4 ++ (own3 ++ L5))))) T9 := hT9.re (by intro a; simp only [cnt_cons, cnt_app, cnt_nil]; omega)
  have hFF := hT10.right.right
  refine ⟨_, keep_of hFF, _, Cell.at0 rfl, _, Cell.at0 rfl, _, Cell.at0 rfl, _, Cell.at0 rfl, _, Cell.at0 rfl, _, Cell.at0 rfl, _, Cell.at0 rfl, _, Cell.at0 rfl, _, _, _, Cell.at0 rfl, _, _, _, Cell.at0 rfl, ?_⟩
  refine AppC (h := (y2, Zn.length, yc2)) (src := src) (dst := dst) (g := (gp, NG.length, gc)) (nw := (np, NF.length, nc)) hT10 hoh hod (by omega) (by have := hds.len; omega) ?_
  intro p n c q m' e own1' own2' T11 g1 g2 hs11
  unfold bolterlaw10_ApplyChain_b18
  have hs12 : Sub (own1' ++ (own2' ++ (own4 ++ (own3 ++ L5)))) T11 := hs11.re (by intro a; simp only [cnt_cons, cnt_app, cnt_nil]; omega)
  have hle10 : J.le J9 := (hleJ.trans hle8).trans hle9
  have hL6 : Sub L (own4 ++ (own3 ++ L5)) := hLL.trans ((Sub.refl _).right.right)
  refine ⟨ps.length - (k + 1), by omega, rfl, rfl, rfl, hae ▸ rfl, rfl, rfl, hle.trans hle10, k + 1, hs ++ [(y2, Zn.length, yc2)], zs ++ [Zn], dl ++ [(src, dst, (gp, NG.length, gc), (np, NF.length, nc))], xs ++ [(src, dst, NG, NF)], own1', own2', own4 ++ (own3 ++ L5), ?_, by omega, by omega, rfl, ?_⟩
  · rw [wrap_i64 (by omega) (by omega)]; rfl
  refine ⟨?_, hsn, ?_, (hrows.keep (hL6.keep hle10)).snoc (x := (y2, Zn.length, yc2)) (rown.sub ((Sub.refl _).right.right)), (hds.keep (hL6.keep hle10)).snoc (d := (src, dst, (gp, NG.length, gc), (np, NF.length, nc))) rfl rfl ((ho3.row encR_len).sub ((Sub.refl _).right.left)) ((ho4.row encR_len).sub (Sub.refl _).left), ?_, (hr0.le hle10).sub hL6, g1, g2, hs12⟩
  · rw [List.length_append, List.length_singleton, hnum]
  · rw [List.getElem?_append_left (by omega)]; exact hf
  · intro x hx
    rcases List.mem_append.1 hx with hx | hx
    · exact hsm x hx
    · rw [List.mem_singleton.1 hx]
      exact ⟨by show NG.length ≤ 100; omega, by show NF.length ≤ 100; omega⟩
end Go.Proofs.YtdajglfbbcbgpaaDoor
