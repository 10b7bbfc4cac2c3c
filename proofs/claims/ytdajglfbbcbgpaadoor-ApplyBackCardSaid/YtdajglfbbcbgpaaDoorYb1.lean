/- ApplyBack: the row. -/
import Derived.Test.YtdajglfbbcbgpaaDoorYa9
import Derived.Test.YtdajglfbbcbgpaaDoorPx12
namespace Go.Proofs.YtdajglfbbcbgpaaDoor
open Go.Px
set_option linter.unusedVariables false
set_option linter.unusedSimpArgs false

theorem ApplyBack_row (W : World) (hg : W.cell? ⟨0, 0, none⟩ = some hErr) (o : Int) (a1 : Option Addr) (l1 c1 : Nat) (a2 : Option Addr) (l2 c2 : Nat)
    (w0 : (Lit.int .u8 o).wf = true) (w1 : ActsW W a1 l1 c1) (z1 : l1 ≤ 140737488355328) (w2 : ActsW W a2 l2 c2) (z2 : l2 ≤ 140737488355328) :
    Runs Tryd.prog 6 #[.int .u8 o, .slice a1 l1 c1, .slice a2 l2 c2] (imW W) [] fun v _ _ => v = .bool true := by
  obtain ⟨acts, rfl, hr1, hl1, hok1⟩ := acts_of w1
  obtain ⟨bcts, rfl, hr2, hl2, hok2⟩ := acts_of w2
  obtain ⟨rs, hrs⟩ := recs_of hok1
  obtain ⟨bs, hbs⟩ := recs_of hok2
  have ho := u8_of w0
  have hg0 : Cell (imW W) [] ⟨0, 0, none⟩ hErr := cell_im hg
  have hk : ∀ {J : IMem} {T : SH}, (imW W).le J → Keep (imW W) [] J T := fun {J T} h => ⟨h, T, by simp⟩
  refine bolterlaw10_ApplyBack_fn _ _ _ _ _ _ _ _ _ _ ?_
  unfold bolterlaw10_ApplyBack
  refine (awake10_runs hg0).mono ?_
  rintro v J1 T1 hle1 ⟨rfl, rfl⟩
  refine ⟨_, rfl, bcase_f rfl ?_⟩
  refine (Origin_runs o ho.1 _ _).mono ?_
  rintro v J2 T2 hle2 ⟨rfl, rfl⟩
  have hosz := origN_size o
  generalize origN o = org at hosz
  refine ⟨_, rfl, ?_⟩
  have hle02 := hle1.trans hle2
  refine (Zone_runs (most := 15) (o := org) (n := 1) (rs := rs) (hr1.keep (hk hle02)) hl1 (by omega) (hrs.keep (hk hle02)) (by omega)).mono ?_
  rintro v J3 T3 hle3 ⟨owna, hza, hs3⟩
  obtain ⟨pa, da, rfl⟩ := hza.slice
  have hal := (zoneF_len org 1 rs 15).1
  have hzoA := zone_of org 1 rs 15
  generalize zoneF org 1 rs 15 = A at hza hal hzoA
  refine ⟨_, _, _, rfl, ?_⟩
  have hle03 := hle02.trans hle3
  refine (Zone_runs (most := 15) (o := org) (n := 2) (rs := bs) (hr2.keep (hk hle03)) hl2 (by omega) (hbs.keep (hk hle03)) (by omega)).mono ?_
  rintro v J4 T4 hle4 ⟨ownb, hzb, hs4⟩
  obtain ⟨pb, db, rfl⟩ := hzb.slice
  have hbl := (zoneF_len org 2 bs 15).1
  have hzoB := zone_of org 2 bs 15
  generalize zoneF org 2 bs 15 = B at hzb hbl hzoB
  refine ⟨_, _, _, rfl, ?_⟩
  have hs4' := hs4.of_right hs3
  refine (SoaAt_runs _ _ _ _).mono ?_
  rintro v J5 T5 hle5 ⟨rfl, rfl⟩
  refine ⟨_, _, _, _, rfl, (SoaAt_runs _ _ _ _).mono ?_⟩
  rintro v J6 T6 hle6 ⟨rfl, rfl⟩
  refine ⟨_, _, _, _, rfl, (SoaAt_runs _ _ _ _).mono ?_⟩
  rintro v J7 T7 hle7 ⟨rfl, rfl⟩
  refine ⟨_, _, _, _, rfl, (SoaAt_runs _ _ _ _).mono ?_⟩
  rintro v J8 T8 hle8 ⟨rfl, rfl⟩
  generalize soaR org 1 = s1 at hzoA
  generalize soaR org 2 = s2 at hzoB
  refine ⟨_, _, _, _, rfl, fun b10 b11 => ?_⟩
  refine StP.tl (StP.whole (vs := encD s1 s2 (none, 0, 0) (none, 0, 0)) rfl rfl ?_)
  refine StP.whole (vs := encD s2 s1 (none, 0, 0) (none, 0, 0)) rfl rfl ?_
  have hle08 := (((hle4.trans hle5).trans hle6).trans hle7).trans hle8
  have hs8 := hs4'.perm (List.append_nil _ ▸ List.Perm.refl _ : (ownb ++ (owna ++ [])).Perm (ownb ++ owna))
  have hs9 : Sub (dB b11 s2 s1 (none, 0, 0) (none, 0, 0) :: dB b10 s1 s2 (none, 0, 0) (none, 0, 0) :: (ownb ++ owna)) (dB b11 s2 s1 (none, 0, 0) (none, 0, 0) :: dB b10 s1 s2 (none, 0, 0) (none, 0, 0) :: T8) := (hs8.cons _).cons _
  refine (Between_runs ((hza.row encR_len).sub hs9.drop.drop.right) ((hzb.row encR_len).sub hs9.drop.drop.left) hzoA.ss hzoB.ss (by omega) (by omega)).mono ?_
  rintro v J10 T10 hle10 ⟨pg, ng, cg, pf, nf, cf, owng, ownf, rfl, hgo, hfo, hs10⟩
  have hng := hgo.len
  have hnf := hfo.len
  subst hng; subst hnf
  refine ⟨_, _, _, _, _, _, rfl, ?_⟩
  have hs11 : Sub (ownf ++ (owng ++ (dB b11 s2 s1 (none, 0, 0) (none, 0, 0) :: dB b10 s1 s2 (none, 0, 0) (none, 0, 0) :: (ownb ++ owna)))) T10 := hs10.of_right ((Sub.refl (owng ++ _)).of_right hs9)
  have hs12 := hs11.perm front22
  have hrows : ∀ (L : SH), L = ownf ++ (owng ++ (ownb ++ owna)) → (∀ {J : IMem}, RowIn J L pf (lessF B A).length 4 encR (lessF B A)) ∧ (∀ {J : IMem}, RowIn J L pg (lessF A B).length 4 encR (lessF A B)) ∧ (∀ {J : IMem}, RowIn J L pb B.length 4 encR B) ∧ (∀ {J : IMem}, RowIn J L pa A.length 4 encR A) := by
    rintro L rfl
    exact ⟨(hfo.row encR_len).sub (Sub.left (Sub.refl _)), (hgo.row encR_len).sub (Sub.right (Sub.refl _)).left, (hzb.row encR_len).sub (Sub.right (Sub.refl _)).right.left, (hza.row encR_len).sub (Sub.right (Sub.refl _)).right.right⟩
  generalize hL : ownf ++ (owng ++ (ownb ++ owna)) = L at hs12
  obtain ⟨rowf, rowg, rowb, rowa⟩ := hrows L hL.symm
  have hAB := delta_leads hzoA hzoB
  have hBA := delta_leads hzoB hzoA
  have hgl := less_len A B
  have hfl := less_len B A
  have hss1 := hzoA.ss
  have hss2 := hzoB.ss
  generalize lessF A B = G at hgo rowg hAB hBA hgl
  generalize lessF B A = Fr at hfo rowf hAB hBA hfl
  unfold bolterlaw10_ApplyBack_b1 bolterlaw10_ApplyBack_b2
  refine ⟨fun m a' an ac b' bn bc d' k' f fn fc x xn xc q i J T => a' = pa ∧ an = A.length ∧ b' = pb ∧ bn = B.length ∧ d' = ⟨b10, 0, none⟩ ∧ k' = ⟨b11, 0, none⟩ ∧ f = pf ∧ fn = Fr.length ∧ x = pg ∧ xn = G.length ∧ q = (G.length : Int) ∧ J10.le J ∧
      ∃ (k : Nat) (own1 own2 : SH) (g n : Sl), i = (k : Int) ∧ k ≤ G.length ∧ m = G.length - k ∧ OwnZ (.slice g.1 g.2.1 g.2.2) (notF (G.take k)) own1 ∧ OwnZ (.slice n.1 n.2.1 n.2.2) (notF (G.take k)) own2 ∧
      Sub (dB b11 s2 s1 (none, 0, 0) n :: dB b10 s1 s2 g (none, 0, 0) :: (own1 ++ (own2 ++ L))) T,
    G.length, ⟨rfl, rfl, rfl, rfl, rfl, rfl, rfl, rfl, rfl, rfl, rfl, IMem.le.refl _, 0, [], [], (none, 0, 0), (none, 0, 0), rfl, Nat.zero_le _, rfl, OwnR.nil, OwnR.nil, hs12⟩, ?_⟩
  rintro m a' an ac b' bn bc d' k' f fn fc x xn xc q i J T - ⟨rfl, rfl, rfl, rfl, rfl, rfl, rfl, rfl, rfl, rfl, rfl, hle, k, own1, own2, g, n, rfl, hkl, rfl, ho1, ho2, hT⟩
  unfold bolterlaw10_ApplyBack_l3 bolterlaw10_ApplyBack_b4 bolterlaw10_ApplyBack_b5 bolterlaw10_ApplyBack_b6
  refine bcase_dec (fun h => ?_) (fun h => ?_)
  · obtain ⟨r, hr⟩ := get_lt (xs := G) (k := k) (by omega)
    obtain ⟨ad, rfl, hc⟩ := (rowg (J := J)).sub hT.drop.drop.right.right |>.cell hr
    obtain ⟨c0, c1, c2, c3⟩ := CellsR hc
    have hsn := notF_snoc hr
    have hnl := notF_len (G.take k)
    rw [List.length_take] at hnl
    have hnext : IntKind.wrap .i64 ((k : Int) + 1) = ((k + 1 : Nat) : Int) := by rw [wrap_i64 (by omega) (by omega)]; rfl
    refine ⟨by omega, by omega, _, c0, _, c1, _, c2, _, c3, fun b15 => StP.rec (x := r) ⟨_, Cell.at0 rfl, bcase_of (fun h6 => ?_) (fun h6 => ?_)⟩⟩
    · have hso : isSoa r = false := by simpa [isSoa] using h6
      rw [hso, if_neg Bool.false_ne_true] at hsn
      have hT' : Sub (own1 ++ (own2 ++ (dB b11 s2 s1 (none, 0, 0) n :: dB b10 s1 s2 g (none, 0, 0) :: rB b15 r :: L))) (rB b15 r :: T) :=
        (hT.cons (rB b15 r)).re (by intro a; simp only [cnt_cons, cnt_app, cnt_nil]; omega)
      have hFF : Sub (dB b11 s2 s1 (none, 0, 0) n :: dB b10 s1 s2 g (none, 0, 0) :: rB b15 r :: L) (rB b15 r :: T) := hT'.right.right
      refine ⟨_, keep_of hFF, _, _, _, Cell.tl (Cell.at0 rfl), _, Cell.tl (Cell.tl (Cell.at0 rfl)), _, Cell.tl (Cell.tl (Cell.at0 rfl)), _, Cell.tl (Cell.tl (Cell.at0 rfl)), _, Cell.tl (Cell.tl (Cell.at0 rfl)), _, _, _, Cell.at0 rfl, _, Cell.tl (Cell.tl (Cell.at0 rfl)), _, Cell.tl (Cell.tl (Cell.at0 rfl)), _, Cell.tl (Cell.tl (Cell.at0 rfl)), _, Cell.tl (Cell.tl (Cell.at0 rfl)), ?_⟩
      refine App2 (r := r) hT' ho1 ho2 (by omega) (by omega) ?_
      intro p1 n1 d1 q2 m2 e2 own1' own2' T2 g1 g2 hs2
      refine StP.gone (g' := (p1, n1, d1)) (hs2.re (L := dB b10 s1 s2 g (none, 0, 0) :: dB b11 s2 s1 (none, 0, 0) n :: (own1' ++ (own2' ++ L))) (by intro a; simp only [cnt_cons, cnt_app, cnt_nil]; omega)) ?_
      intro T3 hs3
      refine StP.new (n' := (q2, m2, e2)) (hs3.re (L := dB b11 s2 s1 (none, 0, 0) n :: dB b10 s1 s2 (p1, n1, d1) (none, 0, 0) :: (own1' ++ (own2' ++ L))) (by intro a; simp only [cnt_cons, cnt_app, cnt_nil]; omega)) ?_
      intro T4 hs4
      exact ⟨G.length - (k + 1), by omega, rfl, rfl, rfl, rfl, rfl, rfl, rfl, rfl, rfl, rfl, rfl, hle, k + 1, own1', own2', (p1, n1, d1), (q2, m2, e2), hnext, by omega, rfl, by rw [hsn]; exact g1, by rw [hsn]; exact g2, hs4⟩
    · have hso : isSoa r = true := by simpa [isSoa] using h6
      rw [hso, if_pos rfl, List.append_nil] at hsn
      exact ⟨G.length - (k + 1), by omega, rfl, rfl, rfl, rfl, rfl, rfl, rfl, rfl, rfl, rfl, rfl, hle, k + 1, own1, own2, g, n, hnext, by omega, rfl, by rw [hsn]; exact ho1, by rw [hsn]; exact ho2, hT.skip _⟩
  · have hke : k = G.length := by omega
    subst hke
    rw [List.take_length] at ho1 ho2
    have hng := ho1.len
    have hnn := ho2.len
    obtain ⟨gp, gn, gc⟩ := g
    obtain ⟨np, nn, nc⟩ := n
    dsimp only at hng hnn
    subst hng; subst hnn
    have hnl := notF_len G
    generalize notF G = NG at ho1 ho2 hAB hBA hnl hT
    -- the first half is done: what stays
    have hLL : ∀ (L2 : SH), L2 = own1 ++ (own2 ++ L) → (∀ {J : IMem}, RowIn J L2 gp NG.length 4 encR NG) ∧ (∀ {J : IMem}, RowIn J L2 np NG.length 4 encR NG) ∧ Sub L L2 := by
      rintro L2 rfl
      exact ⟨(ho1.row encR_len).sub (Sub.left (Sub.refl _)), (ho2.row encR_len).sub (Sub.right (Sub.refl _)).left, (Sub.right (Sub.refl _)).right⟩
    generalize hL2 : own1 ++ (own2 ++ L) = L2 at hT
    obtain ⟨rown1, rown2, hLL2⟩ := hLL L2 hL2.symm
    unfold bolterlaw10_ApplyBack_b7 bolterlaw10_ApplyBack_b8
    refine ⟨fun m a'' an ac b'' bn bc d' k' x xn xc q i J' T' => a'' = a' ∧ an = A.length ∧ b'' = b' ∧ bn = B.length ∧ d' = ⟨b10, 0, none⟩ ∧ k' = ⟨b11, 0, none⟩ ∧ x = f ∧ xn = Fr.length ∧ q = (Fr.length : Int) ∧ J.le J' ∧
        ∃ (k : Nat) (own3 own4 : SH) (g n : Sl), i = (k : Int) ∧ k ≤ Fr.length ∧ m = Fr.length - k ∧ OwnZ (.slice n.1 n.2.1 n.2.2) (notF (Fr.take k)) own3 ∧ OwnZ (.slice g.1 g.2.1 g.2.2) (notF (Fr.take k)) own4 ∧
        Sub (dB b11 s2 s1 g (np, NG.length, nc) :: dB b10 s1 s2 (gp, NG.length, gc) n :: (own3 ++ (own4 ++ L2))) T',
      Fr.length, ⟨rfl, rfl, rfl, rfl, rfl, rfl, rfl, rfl, rfl, IMem.le.refl _, 0, [], [], (none, 0, 0), (none, 0, 0), rfl, Nat.zero_le _, rfl, OwnR.nil, OwnR.nil, hT⟩, ?_⟩
    rintro m a'' an ac b'' bn bc d' k' x xn xc q i J' T' - ⟨rfl, rfl, rfl, rfl, rfl, rfl, rfl, rfl, rfl, hle', k, own3, own4, g, n, rfl, hkl, rfl, ho3, ho4, hT'⟩
    unfold bolterlaw10_ApplyBack_l9 bolterlaw10_ApplyBack_b10 bolterlaw10_ApplyBack_b11 bolterlaw10_ApplyBack_b12
    refine bcase_dec (fun h => ?_) (fun h => ?_)
    · obtain ⟨r, hr⟩ := get_lt (xs := Fr) (k := k) (by omega)
      obtain ⟨ad, rfl, hc⟩ := (rowf (J := J')).sub (hLL2.trans hT'.drop.drop.right.right) |>.cell hr
      obtain ⟨c0, c1, c2, c3⟩ := CellsR hc
      have hsn := notF_snoc hr
      have hnl := notF_len (Fr.take k)
      rw [List.length_take] at hnl
      have hnext : IntKind.wrap .i64 ((k : Int) + 1) = ((k + 1 : Nat) : Int) := by rw [wrap_i64 (by omega) (by omega)]; rfl
      refine ⟨by omega, by omega, _, c0, _, c1, _, c2, _, c3, fun b17 => StP.rec (x := r) ⟨_, Cell.at0 rfl, bcase_of (fun h6 => ?_) (fun h6 => ?_)⟩⟩
      · have hso : isSoa r = false := by simpa [isSoa] using h6
        rw [hso, if_neg Bool.false_ne_true] at hsn
        have hT2 : Sub (own3 ++ (own4 ++ (dB b11 s2 s1 g (np, NG.length, nc) :: dB b10 s1 s2 (gp, NG.length, gc) n :: rB b17 r :: L2))) (rB b17 r :: T') :=
          (hT'.cons (rB b17 r)).re (by intro a; simp only [cnt_cons, cnt_app, cnt_nil]; omega)
        have hFF : Sub (dB b11 s2 s1 g (np, NG.length, nc) :: dB b10 s1 s2 (gp, NG.length, gc) n :: rB b17 r :: L2) (rB b17 r :: T') := hT2.right.right
        refine ⟨_, keep_of hFF, _, _, _, Cell.tl (Cell.at0 rfl), _, Cell.tl (Cell.tl (Cell.at0 rfl)), _, Cell.tl (Cell.tl (Cell.at0 rfl)), _, Cell.tl (Cell.tl (Cell.at0 rfl)), _, Cell.tl (Cell.tl (Cell.at0 rfl)), _, _, _, Cell.at0 rfl, _, Cell.tl (Cell.tl (Cell.at0 rfl)), _, Cell.tl (Cell.tl (Cell.at0 rfl)), _, Cell.tl (Cell.tl (Cell.at0 rfl)), _, Cell.tl (Cell.tl (Cell.at0 rfl)), ?_⟩
        refine App2 (r := r) hT2 ho3 ho4 (by omega) (by omega) ?_
        intro p1 n1 d1 q2 m2 e2 own3' own4' T2 g1 g2 hs2
        refine StP.new (n' := (p1, n1, d1)) (hs2.re (L := dB b10 s1 s2 (gp, NG.length, gc) n :: dB b11 s2 s1 g (np, NG.length, nc) :: (own3' ++ (own4' ++ L2))) (by intro a; simp only [cnt_cons, cnt_app, cnt_nil]; omega)) ?_
        intro T3 hs3
        refine StP.gone (g' := (q2, m2, e2)) (hs3.re (L := dB b11 s2 s1 g (np, NG.length, nc) :: dB b10 s1 s2 (gp, NG.length, gc) (p1, n1, d1) :: (own3' ++ (own4' ++ L2))) (by intro a; simp only [cnt_cons, cnt_app, cnt_nil]; omega)) ?_
        intro T4 hs4
        exact ⟨Fr.length - (k + 1), by omega, rfl, rfl, rfl, rfl, rfl, rfl, rfl, rfl, rfl, hle', k + 1, own3', own4', (q2, m2, e2), (p1, n1, d1), hnext, by omega, rfl, by rw [hsn]; exact g1, by rw [hsn]; exact g2, hs4⟩
      · have hso : isSoa r = true := by simpa [isSoa] using h6
        rw [hso, if_pos rfl, List.append_nil] at hsn
        exact ⟨Fr.length - (k + 1), by omega, rfl, rfl, rfl, rfl, rfl, rfl, rfl, rfl, rfl, hle', k + 1, own3, own4, g, n, hnext, by omega, rfl, by rw [hsn]; exact ho3, by rw [hsn]; exact ho4, hT'.skip _⟩
    · have hke : k = Fr.length := by omega
      subst hke
      rw [List.take_length] at ho3 ho4
      have hng := ho4.len
      have hnn := ho3.len
      obtain ⟨g2p, g2n, g2c⟩ := g
      obtain ⟨n2p, n2n, n2c⟩ := n
      dsimp only at hng hnn
      subst hng; subst hnn
      have hnl2 := notF_len Fr
      generalize notF Fr = NF at ho3 ho4 hAB hBA hnl2 hT'
      have hd10 : Sub (dB b10 s1 s2 (gp, NG.length, gc) (n2p, NF.length, n2c) :: dB b11 s2 s1 (g2p, NF.length, g2c) (np, NG.length, nc) :: (own3 ++ (own4 ++ L2))) T' := hT'.re (by intro a; simp only [cnt_cons, cnt_app, cnt_nil]; omega)
      have hl3 : Sub own3 T' := hT'.drop.drop.left
      have hl4 : Sub own4 T' := hT'.drop.drop.right.left
      have hL2' : Sub L2 T' := hT'.drop.drop.right.right
      unfold bolterlaw10_ApplyBack_b13 bolterlaw10_ApplyBack_b14
      refine ⟨_, dcell hd10 rfl, _, dcell hd10 rfl, _, dcell hd10 rfl, _, dcell hd10 rfl, _, dcell hd10 rfl, _, dcell hd10 rfl, _, dcell hd10 rfl, _, dcell hd10 rfl, _, _, _, dcell hd10 rfl, _, _, _, dcell hd10 rfl, ?_⟩
      refine (Delta_runs (zs := A) (gs := NG) (ns := NF) (src := s1) (dst := s2) (rowa.sub (hLL2.trans hL2')) hss1 (by omega) (rown1.sub hL2') (by omega) ((ho3.row encR_len).sub hl3) (by omega)).mono ?_
      rintro v J11 T11 hle11 ⟨p11, n11, d11, own11, rfl, ho11, hs11⟩
      rw [hAB] at ho11 ⊢
      have hn11 := ho11.len
      dsimp only at hn11
      subst hn11
      have hd11 := hT'.trans hs11.right
      refine ⟨_, _, _, _, rfl, _, dcell hd11 rfl, _, dcell hd11 rfl, _, dcell hd11 rfl, _, dcell hd11 rfl, _, dcell hd11 rfl, _, dcell hd11 rfl, _, dcell hd11 rfl, _, dcell hd11 rfl, _, _, _, dcell hd11 rfl, _, _, _, dcell hd11 rfl, ?_⟩
      refine (Delta_runs (zs := B) (gs := NF) (ns := NG) (src := s2) (dst := s1) ((ho11.row encR_len).sub hs11.left) hss2 (by omega) ((ho4.row encR_len).sub (hl4.trans hs11.right)) (by omega) (rown2.sub (hL2'.trans hs11.right)) (by omega)).mono ?_
      rintro v J12 T12 hle12 ⟨p12, n12, d12, own12, rfl, ho12, hs12'⟩
      rw [hBA] at ho12 ⊢
      have hn12 := ho12.len
      dsimp only at hn12
      subst hn12
      refine ⟨_, _, _, _, rfl, true, rfl, bcase_t rfl ⟨true, rfl, bcase_t rfl ?_⟩⟩
      have hLT := (hLL2.trans hL2').trans (hs11.right.trans hs12'.right)
      refine (Same_runs ((ho11.row encR_len).sub (hs11.left.trans hs12'.right)) (rowb.sub hLT) (by omega)).mono ?_
      rintro v J13 T13 hle13 ⟨⟨f1, rfl, hf1⟩, rfl⟩
      obtain rfl := hf1.2 rfl
      refine ⟨_, rfl, bcase_t rfl ?_⟩
      refine (Same_runs ((ho12.row encR_len).sub hs12'.left) (rowa.sub hLT) (by omega)).mono ?_
      rintro v J14 T14 hle14 ⟨⟨f2, rfl, hf2⟩, rfl⟩
      obtain rfl := hf2.2 rfl
      exact ⟨_, rfl, rfl⟩
end Go.Proofs.YtdajglfbbcbgpaaDoor
