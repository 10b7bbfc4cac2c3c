/- ApplyBetween. -/
import Derived.Test.YtdajglfbbcbgpaaDoorYa7
namespace Go.Proofs.YtdajglfbbcbgpaaDoor
open Go.Px
set_option linter.unusedVariables false

def bothF (a b : List Rc) : List Rc := a.filter fun x => has b x
theorem mem_both {a b : List Rc} {x : Rc} : x ∈ bothF a b ↔ x ∈ a ∧ x ∈ b := by
  unfold bothF
  rw [List.mem_filter, has_iff]
theorem both_snoc {xs b : List Rc} {k : Nat} {x : Rc} (h : xs[k]? = some x) : bothF (xs.take (k + 1)) b = bothF (xs.take k) b ++ (if has b x then [x] else []) := by
  unfold bothF
  rw [take_snoc h, List.filter_append]
  congr 1
  cases hp : has b x <;> simp [List.filter, hp]
theorem SS.both {a : List Rc} (h : SS a) (b : List Rc) : SS (bothF a b) := h.sublist List.filter_sublist
theorem both_comm {a b : List Rc} (ha : SS a) (hb : SS b) : bothF a b = bothF b a := SS.ext (ha.both b) (hb.both a) fun x => by rw [mem_both, mem_both]; exact And.comm
theorem both_less (b : List Rc) : ∀ a : List Rc, (bothF a b).length + (lessF a b).length = a.length
  | [] => rfl
  | x :: a => by
    have ih := both_less b a
    unfold bothF lessF at ih ⊢
    cases h : has b x <;> simp [List.filter, h] <;> omega
theorem both_len (a b : List Rc) : (bothF a b).length ≤ a.length := List.length_filter_le _ _
theorem u32_of {x : Int} (h : (Lit.int .u32 x).wf = true) : 0 ≤ x ∧ x ≤ 4294967295 := by
  simp only [Lit.wf, IntKind.min, IntKind.max, IntKind.bits, IntKind.signed] at h
  simp at h; omega
theorem ApplyBetween_row (W : World) (hg : W.cell? ⟨0, 0, none⟩ = some hErr) (o : Int) (a1 : Option Addr) (l1 c1 : Nat) (a2 : Option Addr) (l2 c2 : Nat) (n m : Int)
    (w0 : (Lit.int .u8 o).wf = true) (w1 : ActsW W a1 l1 c1) (z1 : l1 ≤ 140737488355328) (w2 : ActsW W a2 l2 c2) (z2 : l2 ≤ 140737488355328) (w3 : (Lit.int .u32 n).wf = true) (w4 : (Lit.int .u32 m).wf = true) :
    Runs Tryd.prog 5 #[.int .u8 o, .slice a1 l1 c1, .slice a2 l2 c2, .int .u32 n, .int .u32 m] (imW W) [] fun v _ _ => v = .bool true := by
  obtain ⟨acts, rfl, hr1, hl1, hok1⟩ := acts_of w1
  obtain ⟨bcts, rfl, hr2, hl2, hok2⟩ := acts_of w2
  obtain ⟨rs, hrs⟩ := recs_of hok1
  obtain ⟨bs, hbs⟩ := recs_of hok2
  have ho := u8_of w0
  have hg0 : Cell (imW W) [] ⟨0, 0, none⟩ hErr := cell_im hg
  have hk : ∀ {J : IMem} {T : SH}, (imW W).le J → Keep (imW W) [] J T := fun {J T} h => ⟨h, T, by simp⟩
  refine bolterlaw10_ApplyBetween_fn _ _ _ _ _ _ _ _ _ _ _ _ ?_
  unfold bolterlaw10_ApplyBetween
  refine (awake10_runs hg0).mono ?_
  rintro v J1 T1 hle1 ⟨rfl, rfl⟩
  refine ⟨_, rfl, bcase_f rfl ?_⟩
  refine (Origin_runs o ho.1 _ _).mono ?_
  rintro v J2 T2 hle2 ⟨rfl, rfl⟩
  have hosz := origN_size o
  generalize origN o = org at hosz
  refine ⟨_, rfl, ?_⟩
  have hle02 := hle1.trans hle2
  refine (Zone_runs (most := 30) (o := org) (n := n.tmod 3) (rs := rs) (hr1.keep (hk hle02)) hl1 (by omega) (hrs.keep (hk hle02)) (by omega)).mono ?_
  rintro v J3 T3 hle3 ⟨owna, hza, hs3⟩
  obtain ⟨pa, da, rfl⟩ := hza.slice
  have hal := (zoneF_len org (n.tmod 3) rs 30).1
  have has_ := zoneF_SS org (n.tmod 3) rs 30
  generalize zoneF org (n.tmod 3) rs 30 = A at hza hal has_
  refine ⟨_, _, _, rfl, ?_⟩
  have hle03 := hle02.trans hle3
  refine (Zone_runs (most := 30) (o := org) (n := m.tmod 3) (rs := bs) (hr2.keep (hk hle03)) hl2 (by omega) (hbs.keep (hk hle03)) (by omega)).mono ?_
  rintro v J4 T4 hle4 ⟨ownb, hzb, hs4⟩
  obtain ⟨pb, db, rfl⟩ := hzb.slice
  have hbl := (zoneF_len org (m.tmod 3) bs 30).1
  have hbs_ := zoneF_SS org (m.tmod 3) bs 30
  generalize zoneF org (m.tmod 3) bs 30 = B at hzb hbl hbs_
  refine ⟨_, _, _, rfl, ?_⟩
  have hs4' := hs4.of_right hs3
  refine (Between_runs ((hza.row encR_len (I := J4)).sub hs4'.right.left) ((hzb.row encR_len (I := J4)).sub hs4'.left) has_ hbs_ (by omega) (by omega)).mono ?_
  rintro v J5 T5 hle5 ⟨pg, ng, cg, pf, nf, cf, owng, ownf, rfl, hgo, hfo, hs5⟩
  have hng := hgo.len
  have hnf := hfo.len
  subst hng; subst hnf
  refine ⟨_, _, _, _, _, _, rfl, ?_⟩
  have hs5' : Sub (ownf ++ (owng ++ (ownb ++ owna))) T5 := hs5.of_right (Sub.refl (owng ++ T4) |>.of_right (by simpa using hs4'.perm (List.append_nil _ ▸ List.Perm.refl _)))
  generalize hL : ownf ++ (owng ++ (ownb ++ owna)) = L at hs5'
  have rowf : ∀ {J : IMem} {T : SH}, Sub L T → RowIn J T pf (lessF B A).length 4 encR (lessF B A) := fun h => RowIn.sub h (hL ▸ (hfo.row encR_len).sub (Sub.left (Sub.refl _)))
  have rowg : ∀ {J : IMem} {T : SH}, Sub L T → RowIn J T pg (lessF A B).length 4 encR (lessF A B) := fun h => RowIn.sub h (hL ▸ (hgo.row encR_len).sub (Sub.right (Sub.refl _)).left)
  have rowb : ∀ {J : IMem} {T : SH}, Sub L T → RowIn J T pb B.length 4 encR B := fun h => RowIn.sub h (hL ▸ (hzb.row encR_len).sub (Sub.right (Sub.refl _)).right.left)
  have rowa : ∀ {J : IMem} {T : SH}, Sub L T → RowIn J T pa A.length 4 encR A := fun h => RowIn.sub h (hL ▸ (hza.row encR_len).sub (Sub.right (Sub.refl _)).right.right)
  have hbl2 := both_less B A
  have hbl3 := both_less A B
  rw [← both_comm has_ hbs_] at hbl3
  unfold bolterlaw10_ApplyBetween_b1 bolterlaw10_ApplyBetween_b2
  refine ⟨fun m ap an ac bp bn bc gp gn gc fp fn fc re rn rc x xn xc q i J T => ap = pa ∧ an = A.length ∧ bp = pb ∧ bn = B.length ∧ gp = pg ∧ gn = (lessF A B).length ∧ fp = pf ∧ fn = (lessF B A).length ∧ x = pa ∧ xn = A.length ∧ q = (A.length : Int) ∧ J5.le J ∧ ∃ (k : Nat) (own : SH), i = (k : Int) ∧ k ≤ A.length ∧ m = A.length - k ∧ OwnZ (.slice re rn rc) (bothF (A.take k) B) own ∧ Sub (own ++ L) T,
    A.length, ⟨rfl, rfl, rfl, rfl, rfl, rfl, rfl, rfl, rfl, rfl, rfl, IMem.le.refl _, 0, [], rfl, Nat.zero_le _, rfl, OwnR.nil, hs5'⟩, ?_⟩
  rintro m ap an ac bp bn bc gp gn gc fp fn fc re rn rc x xn xc q i J T - ⟨rfl, rfl, rfl, rfl, rfl, rfl, rfl, rfl, hxe, rfl, rfl, hle, k, own, rfl, hkl, rfl, hro, hT⟩
  unfold bolterlaw10_ApplyBetween_l3 bolterlaw10_ApplyBetween_b4
  have hbk := both_len (A.take k) B
  rw [List.length_take] at hbk
  refine bcase_dec (fun h => ?_) (fun h => ?_)
  · obtain ⟨r, hr⟩ := get_lt (xs := A) (k := k) (by omega)
    obtain ⟨a', hae, hc⟩ := (rowa (J := J) hT.right).cell hr
    rw [hxe, hae]
    obtain ⟨c0, c1, c2, c3⟩ := CellsR hc
    have hsn := both_snoc (b := B) hr
    have hnext : IntKind.wrap .i64 ((k : Int) + 1) = ((k + 1 : Nat) : Int) := by rw [wrap_i64 (by omega) (by omega)]; rfl
    refine ⟨by omega, by omega, _, c0, _, c1, _, c2, _, c3, fun b18 => StP.rec (x := r) ⟨_, Cell.at0 rfl, _, Cell.at0 rfl, _, Cell.at0 rfl, _, Cell.at0 rfl, (Has2_runs (r := r) (rowb (hT.right.skip _)) (by omega) hbs_).mono ?_⟩⟩
    rintro v J6 T6 hle6 ⟨rfl, rfl⟩
    refine ⟨_, rfl, bcase_of (fun h2 => ?_) (fun h2 => ?_)⟩
    · rw [h2, if_pos rfl] at hsn
      refine ⟨_, Cell.at0 rfl, _, Cell.at0 rfl, _, Cell.at0 rfl, _, Cell.at0 rfl, fun b52 => AppZ (r := r) (hT.skip _) hro (by omega) ?_⟩
      intro p3 n3 c3 own3 T7 ho3 hs7
      exact ⟨A.length - (k + 1), by omega, rfl, rfl, rfl, rfl, rfl, rfl, rfl, rfl, rfl, rfl, rfl, hle.trans hle6, k + 1, own3, hnext, by omega, rfl, by rw [hsn]; exact ho3, hs7⟩
    · rw [h2, if_neg Bool.false_ne_true, List.append_nil] at hsn
      exact ⟨A.length - (k + 1), by omega, rfl, rfl, rfl, rfl, rfl, rfl, rfl, rfl, rfl, rfl, rfl, hle.trans hle6, k + 1, own, hnext, by omega, rfl, by rw [hsn]; exact hro, hT.skip _⟩
  · have hke : k = A.length := by omega
    subst hke
    rw [List.take_length] at hro
    have hrn := hro.len
    subst hrn
    unfold bolterlaw10_ApplyBetween_b5 bolterlaw10_ApplyBetween_b6
    rw [wrap_i64 (by omega) (by omega), wrap_i64 (by omega) (by omega)]
    refine bcase_bne (fun h => by omega) (fun h => bcase_bne (fun h => by omega) (fun h => ?_))
    unfold bolterlaw10_ApplyBetween_b7 bolterlaw10_ApplyBetween_b8
    have hgl := less_len A B
    have hgs := has_.less B
    have hgm : ∀ x, x ∈ lessF A B → x ∈ A ∧ x ∉ B := fun x h => mem_less.1 h
    generalize hG : lessF A B = G at hgl hgs hgm rowg
    refine ⟨fun m ap' an ac bp' bn bc gp' gn gc fp' fn fc re' rn rd x xn xc q i J' T' => ap' = ap ∧ an = A.length ∧ bp' = bp ∧ bn = B.length ∧ gp' = gp ∧ gn = G.length ∧ fp' = fp ∧ fn = (lessF B A).length ∧ re' = re ∧ rn = (bothF A B).length ∧ rd = rc ∧ x = gp ∧ xn = G.length ∧ q = (G.length : Int) ∧ J.le J' ∧ Sub (own ++ L) T' ∧ ∃ (k : Nat), i = (k : Int) ∧ k ≤ G.length ∧ m = G.length - k,
      G.length, ⟨rfl, rfl, rfl, rfl, rfl, rfl, rfl, rfl, rfl, rfl, rfl, rfl, rfl, rfl, IMem.le.refl _, hT, 0, rfl, Nat.zero_le _, rfl⟩, ?_⟩
    rintro m ap' an ac bp' bn bc gp' gn gc fp' fn fc re' rn rd x xn xc q i J' T' - ⟨rfl, rfl, rfl, rfl, rfl, rfl, rfl, rfl, rfl, rfl, rfl, hge, rfl, rfl, hle', hT', k, rfl, hkl, rfl⟩
    unfold bolterlaw10_ApplyBetween_l9 bolterlaw10_ApplyBetween_b10 bolterlaw10_ApplyBetween_b11
    refine bcase_dec (fun h => ?_) (fun h => ?_)
    · obtain ⟨r, hr⟩ := get_lt (xs := G) (k := k) (by omega)
      obtain ⟨a', hae, hc⟩ := (rowg (J := J') hT'.right).cell hr
      rw [hge, hae]
      obtain ⟨c0, c1, c2, c3⟩ := CellsR hc
      have hrm := hgm r (List.mem_of_getElem? hr)
      refine ⟨by omega, by omega, _, c0, _, c1, _, c2, _, c3, fun b20 => StP.rec (x := r) ⟨_, Cell.at0 rfl, _, Cell.at0 rfl, _, Cell.at0 rfl, _, Cell.at0 rfl, has B r, Has2_runs (r := r) (rowb (hT'.right.skip _)) (by omega) hbs_, ?_⟩⟩
      rw [has_false.2 hrm.2]
      refine bcase_f rfl ⟨_, Cell.at0 rfl, _, Cell.at0 rfl, _, Cell.at0 rfl, _, Cell.at0 rfl, has A r, Has2_runs (r := r) (rowa (hT'.right.skip _)) (by omega) has_, ?_⟩
      rw [has_iff.2 hrm.1]
      refine bcase_f rfl ?_
      have nxt : ∀ b : Bool, b = false → ∀ (T2 : SH), Sub (own ++ L) T2 → bolterlaw10_ApplyBetween_b12 (fun a_12 a_12n a_12c b_13 b_13n b_13c gone_14 gone_14n gone_14c fresh_15 fresh_15n fresh_15c rest_16 rest_16n rest_16c x73 x73n x73c x74 x75 I_1 S_1 => ∃ m', m' < G.length - k ∧ (a_12 = ap' ∧ a_12n = A.length ∧ b_13 = bp' ∧ b_13n = B.length ∧ gone_14 = some a' ∧ gone_14n = G.length ∧ fresh_15 = fp' ∧ fresh_15n = (lessF B A).length ∧ rest_16 = re' ∧ rest_16n = (bothF A B).length ∧ rest_16c = rd ∧ x73 = some a' ∧ x73n = G.length ∧ x74 = (G.length : Int) ∧ J.le I_1 ∧ Sub (own ++ L) S_1 ∧ ∃ (k : Nat), x75 = (k : Int) ∧ k ≤ G.length ∧ m' = G.length - k))
          (fun v _ _ => v = .bool true) ap' A.length ac bp' B.length bc (some a') G.length gc fp' (lessF B A).length fc re' (bothF A B).length rd (some a') G.length xc (G.length : Int) (k : Int) b J' T2 := by
        rintro b rfl T2 hT2
        unfold bolterlaw10_ApplyBetween_b12 bolterlaw10_ApplyBetween_b13
        refine bcase_f rfl ⟨G.length - (k + 1), by omega, rfl, rfl, rfl, rfl, rfl, rfl, rfl, rfl, rfl, rfl, rfl, rfl, rfl, rfl, hle', hT2, k + 1, ?_, by omega, rfl⟩
        rw [wrap_i64 (by omega) (by omega)]; rfl
      refine bcase_dec (fun h1 => ?_) (fun h1 => ?_)
      · rw [wrap_i64 (by omega) (by omega)]
        obtain ⟨k', rfl⟩ : ∃ k', k = k' + 1 := ⟨k - 1, by omega⟩
        obtain ⟨r', hr'⟩ := get_lt (xs := G) (k := k') (by omega)
        have ek : (((k' + 1 : Nat) : Int) - 1) = (k' : Int) := by omega
        rw [ek]
        obtain ⟨a2, hae2, hc2⟩ := (rowg (J := J') hT'.right).cell hr'
        rw [hae] at hae2; injection hae2 with hae2; subst hae2
        obtain ⟨e0, e1, e2, e3⟩ := CellsR hc2
        refine ⟨by omega, by omega, _, e0.tl, _, e1.tl, _, e2.tl, _, e3.tl, _, Cell.at0 rfl, _, Cell.at0 rfl, _, Cell.at0 rfl, _, Cell.at0 rfl, _, Compare_runs r' r _ _, nxt _ ?_ _ (hT'.skip _)⟩
        have hlt := hgs.get (Nat.lt_succ_self k') hr' hr
        exact decide_eq_false (by omega)
      · exact nxt false rfl _ (hT'.skip _)
    · unfold bolterlaw10_ApplyBetween_b14
      refine AppR (xs := bothF A B) (ys := lessF B A) hT' hro (rowf hT'.right) (by omega) ?_
      intro p3 n3 c3 own3 T7 ho3 hs7
      have hn3 := ho3.len
      subst hn3
      refine (Sorted_runs ((ho3.row encR_len).sub hs7.left) (by rw [List.length_append]; omega)).mono ?_
      rintro v J8 T8 hle8 ⟨own8, ho8, hs8⟩
      have hsort : sortR (bothF A B ++ lessF B A) = B := sortR_eq hbs_ fun x => by
        rw [List.mem_append, mem_both, mem_less]
        constructor
        · intro hx
          by_cases hxa : x ∈ A
          · exact .inl ⟨hxa, hx⟩
          · exact .inr ⟨hx, hxa⟩
        · rintro (h | h)
          · exact h.2
          · exact h.1
      rw [hsort] at ho8
      obtain ⟨p8, d8, rfl⟩ := ho8.slice
      refine ⟨_, _, _, rfl, ?_⟩
      refine (Same_runs ((ho8.row encR_len).sub hs8.left) (rowb (hs7.right.trans hs8.right)) (by omega)).mono ?_
      rintro v J9 T9 hle9 ⟨⟨f, rfl, hf⟩, rfl⟩
      obtain rfl := hf.2 rfl
      exact ⟨_, rfl, rfl⟩
end Go.Proofs.YtdajglfbbcbgpaaDoor
