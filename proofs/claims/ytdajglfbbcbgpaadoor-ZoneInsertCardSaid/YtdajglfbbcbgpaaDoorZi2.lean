/- ZoneInsert. -/
import Derived.Test.YtdajglfbbcbgpaaDoorEr2
namespace Go.Proofs.YtdajglfbbcbgpaaDoor
open Go.Px
set_option linter.unusedVariables false

theorem ZoneInsert_row (W : World) (hg : W.cell? ⟨0, 0, none⟩ = some hErr) (a : Option Addr) (len cap : Nat) (x0 : Option Addr) (x0l x0c : Nat) (x1 x2 : Int) (x3 : Option Addr) (x3l x3c : Nat) (x4 : ByteArray) (y0 : Option Addr) (y0l y0c : Nat) (y1 y2 : Int) (y3 : Option Addr) (y3l y3c : Nat) (y4 : ByteArray)
    (w : ActsW W a len cap) (z : len ≤ 140737488355328) (wx : AcW W ((x0, x0l, x0c), x1, x2, (x3, x3l, x3c), x4)) (wy : AcW W ((y0, y0l, y0c), y1, y2, (y3, y3l, y3c), y4)) :
    Runs Tryd.prog 3 #[.slice a len cap, .agg #[.slice x0 x0l x0c, .int .u8 x1, .int .u32 x2, .slice x3 x3l x3c, .string x4], .agg #[.slice y0 y0l y0c, .int .u8 y1, .int .u32 y2, .slice y3 y3l y3c, .string y4]] (imW W) [] fun v _ _ => v = .bool true := by
  obtain ⟨acts, rfl, hrow, hl, hok⟩ := acts_of w
  obtain ⟨xn, hxn⟩ := slb_of wx.1
  obtain ⟨xd, hxd⟩ := slb_of wx.2.2.2.1
  have hxt := wx.2.2.2.2
  obtain ⟨yn, hyn⟩ := slb_of wy.1
  obtain ⟨yd, hyd⟩ := slb_of wy.2.2.2.1
  have hyt := wy.2.2.2.2
  have hg0 : Cell (imW W) [] ⟨0, 0, none⟩ hErr := cell_im hg
  refine bolterlaw08_ZoneInsert_fn _ _ _ _ _ _ _ _ _ _ _ _ _ _ _ _ _ _ _ _ _ _ _ _ ?_
  unfold bolterlaw08_ZoneInsert bolterlaw08_ZoneInsert_b1
  intro b4 b5
  refine (awake_runs _ _).mono ?_
  rintro v J T hle ⟨rfl, rfl⟩
  refine ⟨_, rfl, bcase_f rfl ?_⟩
  have hk0 : ∀ (L : SH), Keep (imW W) [] J L := fun L => ⟨hle, L, by simp⟩
  refine (Records_runs (most := 40) (hrow.keep (hk0 _)) hl (by omega) (fun x hx => (hok x hx).keep (hk0 _))).mono ?_
  rintro v J1 T1 hle1 ⟨rs, own, hrl, _, hsm, ho, hs⟩
  obtain ⟨p, d, rfl⟩ := ho.slice
  refine ⟨_, _, _, rfl, (Sorted_runs ((ho.row encR_len (I := J1)).sub hs.left) (by omega)).mono ?_⟩
  rintro v J2 T2 hle2 ⟨own2, ho2, hs2⟩
  have hSS := sortR_SS rs
  have hmem : ∀ x, x ∈ sortR rs ↔ x ∈ rs := fun x => mem_sortR
  have hzl := sortR_len rs
  have hso : ∀ ys, SS ys → (∀ x, x ∈ ys ↔ x ∈ rs) → sortR rs = ys := fun ys h1 h2 => sortR_eq h1 h2
  generalize hzs : sortR rs = zs at ho2 hSS hmem hzl
  obtain ⟨p2, d2, rfl⟩ := ho2.slice
  refine ⟨_, _, _, rfl, ?_⟩
  have hle02 : (imW W).le J2 := (hle.trans hle1).trans hle2
  have hT2 : Sub (own2 ++ (own ++ _)) T2 := Sub.trans (by
    obtain ⟨G, hG⟩ := hs
    exact ⟨G, by rw [List.append_assoc]; exact List.Perm.append_left own2 hG⟩) hs2
  have hab := hT2.right.right
  have cA : ∀ {o : Nat} {v : Value}, (encA ((x0, x0l, x0c), x1, x2, (x3, x3l, x3c), x4))[o]? = some v → Cell J2 T2 ⟨b4, o, none⟩ v := fun h => Sub.cell' hab (Cell.tl (Cell.at0 (by show (encA ((x0, x0l, x0c), x1, x2, (x3, x3l, x3c), x4)).toArray[_]? = _; rw [List.getElem?_toArray]; exact h)))
  have cB : ∀ {o : Nat} {v : Value}, (encA ((y0, y0l, y0c), y1, y2, (y3, y3l, y3c), y4))[o]? = some v → Cell J2 T2 ⟨b5, o, none⟩ v := fun h => Sub.cell' hab (Cell.at0 (by show (encA ((y0, y0l, y0c), y1, y2, (y3, y3l, y3c), y4)).toArray[_]? = _; rw [List.getElem?_toArray]; exact h))
  generalize hr : recF xn xd ((x0, x0l, x0c), x1, x2, (x3, x3l, x3c), x4) = r
  generalize hs' : recF yn yd ((y0, y0l, y0c), y1, y2, (y3, y3l, y3c), y4) = s
  have runR : ∀ (J' : IMem) (T' : SH), J2.le J' → Runs Tryd.prog 12 #[.agg #[.slice x0 x0l x0c, .int .u8 x1, .int .u32 x2, .slice x3 x3l x3c, .string x4]] J' (T' ++ T2) fun v _ T => v = .agg #[.string r.1, .int .u16 r.2.1, .int .u32 r.2.2.1, .string r.2.2.2] ∧ T = T' ++ T2 := fun J' T' h => by
    rw [← hr]; exact Record_runs (hxn.keep ⟨hle02.trans h, _, List.Perm.of_eq (by simp; rfl)⟩) (hxd.keep ⟨hle02.trans h, _, List.Perm.of_eq (by simp; rfl)⟩) hxt
  have runS : ∀ (J' : IMem) (T' : SH), J2.le J' → Runs Tryd.prog 12 #[.agg #[.slice y0 y0l y0c, .int .u8 y1, .int .u32 y2, .slice y3 y3l y3c, .string y4]] J' (T' ++ T2) fun v _ T => v = .agg #[.string s.1, .int .u16 s.2.1, .int .u32 s.2.2.1, .string s.2.2.2] ∧ T = T' ++ T2 := fun J' T' h => by
    rw [← hs']; exact Record_runs (hyn.keep ⟨hle02.trans h, _, List.Perm.of_eq (by simp; rfl)⟩) (hyd.keep ⟨hle02.trans h, _, List.Perm.of_eq (by simp; rfl)⟩) hyt
  refine ⟨_, _, _, cA rfl, _, cA rfl, _, cA rfl, _, _, _, cA rfl, _, cA rfl, _, _, _, _, runR, _, _, _, cB rfl, _, cB rfl, _, cB rfl, _, _, _, cB rfl, _, cB rfl, _, _, _, _, runS, ?_⟩
  -- from here on: what is there, in whatever order it was laid
  have main : ∀ (br bs : Nat) (T3 : SH), Sub ((bs, Obj.cells (encR s).toArray 36 (0, 0)) :: (br, Obj.cells (encR r).toArray 36 (0, 0)) :: (own2 ++ own)) T3 →
      bolterlaw08_ZoneInsert_b2 (fun v _ _ => v = .bool true) p rs.length d p2 zs.length d2 ⟨br, 0, none⟩ ⟨bs, 0, none⟩ J2 T3 := by
    intro br bs T3 hT3
    generalize hB : ((bs, Obj.cells (encR s).toArray 36 (0, 0)) :: (br, Obj.cells (encR r).toArray 36 (0, 0)) :: (own2 ++ own)) = B at hT3
    have cr : ∀ {J : IMem} {T : SH} {o : Nat} {v : Value}, Sub B T → (encR r)[o]? = some v → Cell J T ⟨br, o, none⟩ v := fun h hj => Sub.cell' h (by rw [← hB]; exact Cell.tl (Cell.at0 (by rw [List.getElem?_toArray]; exact hj)))
    have cs : ∀ {J : IMem} {T : SH} {o : Nat} {v : Value}, Sub B T → (encR s)[o]? = some v → Cell J T ⟨bs, o, none⟩ v := fun h hj => Sub.cell' h (by rw [← hB]; exact Cell.at0 (by rw [List.getElem?_toArray]; exact hj))
    have rowR : ∀ {J : IMem} {T : SH}, Sub B T → RowIn J T p rs.length 4 encR rs := fun h => ((ho.row encR_len).sub (by rw [← hB]; exact ((Sub.right (Sub.refl (own2 ++ own))).skip _).skip _)).sub h
    have rowZ : ∀ {J : IMem} {T : SH}, Sub B T → RowIn J T p2 zs.length 4 encR zs := fun h => ((ho2.row encR_len).sub (by rw [← hB]; exact ((Sub.left (Sub.refl (own2 ++ own))).skip _).skip _)).sub h
    unfold bolterlaw08_ZoneInsert_b2 bolterlaw08_ZoneInsert_b3 bolterlaw08_ZoneInsert_b4
    refine ⟨fun m p' n' c' q' m' e' r' s' had x xn xc ln i J T => p = p' ∧ n' = rs.length ∧ p2 = q' ∧ m' = zs.length ∧ r' = ⟨br, 0, none⟩ ∧ s' = ⟨bs, 0, none⟩ ∧ p = x ∧ xn = rs.length ∧ ln = (rs.length : Int) ∧ J2.le J ∧ Sub B T ∧ ∃ k : Nat, i = (k : Int) ∧ k ≤ rs.length ∧ m = rs.length - k ∧ had = (rs.take k).any (fun x => recB x r),
      rs.length, ⟨rfl, rfl, rfl, rfl, rfl, rfl, rfl, rfl, rfl, IMem.le.refl _, hT3, 0, rfl, Nat.zero_le _, rfl, rfl⟩, ?_⟩
    rintro m p' n' c' q' m' e' r' s' had x xn' xc ln i J3 T4 - ⟨rfl, rfl, rfl, rfl, rfl, rfl, rfl, rfl, rfl, hle3, hT4, k, rfl, hk, rfl, rfl⟩
    unfold bolterlaw08_ZoneInsert_l5 bolterlaw08_ZoneInsert_b6
    refine bcase_dec (fun h => ?_) (fun h => ?_)
    · obtain ⟨x, hxk⟩ := get_lt (xs := rs) (k := k) (by omega)
      obtain ⟨a', rfl, hc⟩ := (rowR (J := J3) hT4).cell hxk
      obtain ⟨c0, c1, c2, c3⟩ := CellsR hc
      have hsn := any_snoc (fun x => recB x r) hxk
      have hnext : IntKind.wrap .i64 ((k : Int) + 1) = ((k + 1 : Nat) : Int) := by rw [wrap_i64 (by omega) (by omega)]; rfl
      refine ⟨by omega, by omega, _, c0, _, c1, _, c2, _, c3, fun b13 => StP.rec (bcase_of (fun g => ?_) (fun g => ?_))⟩
      · exact ⟨rs.length - (k + 1), by omega, rfl, rfl, rfl, rfl, rfl, rfl, rfl, rfl, rfl, hle3, hT4.skip _, k + 1, hnext, by omega, rfl, by rw [hsn, g]; rfl⟩
      · refine ⟨_, Cell.at0 rfl, _, Cell.at0 rfl, _, Cell.at0 rfl, _, Cell.at0 rfl, _, cr (hT4.skip _) rfl, _, cr (hT4.skip _) rfl, _, cr (hT4.skip _) rfl, _, cr (hT4.skip _) rfl, ?_⟩
        exact ⟨rs.length - (k + 1), by omega, rfl, rfl, rfl, rfl, rfl, rfl, rfl, rfl, rfl, hle3, hT4.skip _, k + 1, hnext, by omega, rfl, by rw [hsn, g]; rfl⟩
    · have hke : k = rs.length := by omega
      subst hke
      rw [List.take_length]
      generalize hhad : (rs.any fun x => recB x r) = had
      have hin : had = true ↔ r ∈ zs := by rw [← hhad, any_rec, hmem]
      unfold bolterlaw08_ZoneInsert_b7 bolterlaw08_ZoneInsert_b8
      refine ⟨_, cr hT4 rfl, _, cr hT4 rfl, _, cr hT4 rfl, _, cr hT4 rfl, (ZIns_runs (r := r) (rowZ hT4) (by omega) hSS).mono ?_⟩
      rintro v J5 T5 hle5 ⟨ok, ixs, owni, pi, ni, di, rfl, hoi, hsi, hok1, hok2, hok3, hil⟩
      have hTB : Sub B T5 := hT4.trans hsi.right
      have hokh : ok = !had := by
        cases ok <;> cases had <;> simp_all
      refine ⟨_, _, _, _, rfl, _, cr hTB rfl, _, cr hTB rfl, _, cr hTB rfl, _, cr hTB rfl, (Has_runs (r := r) (rowZ hTB) (by omega) (hSS.mono r)).mono ?_⟩
      rintro v J6 T6 hle6 ⟨⟨kh, f, rfl, hbh, hf⟩, rfl⟩
      have hfh : f = had := by
        have h1 := mem_at hSS hbh
        cases f <;> cases had <;> simp_all
      subst hfh
      refine ⟨_, rfl, bcase_not (bcase_of (fun _ => ?_) (fun g => by simp at g))⟩
      have hgJ : ∀ {J' : IMem}, J2.le J' → Cell J' [] ⟨0, 0, none⟩ hErr := fun h => Cell.le (hle02.trans h) hg0
      have hle36 : J2.le J6 := (hle3.trans hle5).trans hle6
      refine (Number_runs _ (hgJ hle36)).mono ?_
      rintro v J7 T7 hle7 ⟨rfl, rfl⟩
      have hle37 : J2.le J7 := hle36.trans hle7
      have num7 : (f == (((if ok then none else some 7 : Option Int).getD 0) == (7 : Int))) = true := by
        rw [hokh]; cases f <;> rfl
      refine ⟨_, rfl, bcase_not (bcase_of (fun _ => ?_) (fun g => by rw [num7] at g; cases g))⟩
      -- what comes behind the first checks
      have tail : ∀ (J8 : IMem) (T8 : SH), J2.le J8 → Sub B T8 → bolterlaw08_ZoneInsert_b12 (fun v _ _ => v = .bool true) p rs.length c' p2 zs.length e' ⟨bs, 0, none⟩ J8 T8 := by
        intro J8 T8 hle8 hT8
        unfold bolterlaw08_ZoneInsert_b12 bolterlaw08_ZoneInsert_b13 bolterlaw08_ZoneInsert_b14
        refine ⟨_, cs hT8 rfl, _, cs hT8 rfl, _, cs hT8 rfl, _, cs hT8 rfl, (ZDel_runs (r := s) (rowZ hT8) (by omega) hSS).mono ?_⟩
        rintro v J9 T9 hle9 ⟨okd, oxs, owno, po, no, do_, rfl, hoo, hso', hd1, hd2, hd3⟩
        have hTo : Sub (owno ++ B) T9 := Sub.trans (by
          obtain ⟨G, hG⟩ := hT8
          exact ⟨G, by rw [List.append_assoc]; exact List.Perm.append_left owno hG⟩) hso'
        refine ⟨_, _, _, _, rfl, ?_⟩
        refine ⟨fun m p'' n'' c'' q'' m'' e'' s'' po' no' do' f' re ren rec is x xn xc ln i J T => p = p'' ∧ n'' = rs.length ∧ p2 = q'' ∧ m'' = zs.length ∧ s'' = ⟨bs, 0, none⟩ ∧ po = po' ∧ no = no' ∧ f' = errN (if okd then none else some 6) ∧ p2 = x ∧ xn = zs.length ∧ ln = (zs.length : Int) ∧ J9.le J ∧
            ∃ (k : Nat) (ownr : SH), i = (k : Int) ∧ k ≤ zs.length ∧ m = zs.length - k ∧ is = (zs.take k).any (fun x => recB x s) ∧ OwnZ (.slice re ren rec) (without (zs.take k) s) ownr ∧ Sub (ownr ++ (owno ++ B)) T,
          zs.length, ⟨rfl, rfl, rfl, rfl, rfl, rfl, rfl, rfl, rfl, rfl, rfl, IMem.le.refl _, 0, [], rfl, Nat.zero_le _, rfl, rfl, OwnR.nil, hTo⟩, ?_⟩
        rintro m p'' n'' c'' q'' m'' e'' s'' po' no' do' f' re ren rec is x xn xc ln i J10 T10 - ⟨rfl, rfl, rfl, rfl, rfl, rfl, rfl, rfl, rfl, rfl, rfl, hle10, k, ownr, rfl, hk, rfl, rfl, hor, hTr⟩
        have hTB10 : Sub B T10 := (hTr.right).right
        unfold bolterlaw08_ZoneInsert_l15 bolterlaw08_ZoneInsert_b16
        refine bcase_dec (fun h => ?_) (fun h => ?_)
        · obtain ⟨y, hyk⟩ := get_lt (xs := zs) (k := k) (by omega)
          obtain ⟨a', rfl, hc⟩ := (rowZ (J := J10) hTB10).cell hyk
          obtain ⟨c0, c1, c2, c3⟩ := CellsR hc
          have hsn := any_snoc (fun x => recB x s) hyk
          have hws := without_snoc (r := s) hyk
          have hwl : (without (zs.take k) s).length ≤ k := by
            have := without_len (zs.take k) s
            rw [List.length_take] at this; omega
          have hnext : IntKind.wrap .i64 ((k : Int) + 1) = ((k + 1 : Nat) : Int) := by rw [wrap_i64 (by omega) (by omega)]; rfl
          refine ⟨by omega, by omega, _, c0, _, c1, _, c2, _, c3, fun b21 => StP.rec ⟨_, Cell.at0 rfl, _, Cell.at0 rfl, _, Cell.at0 rfl, _, Cell.at0 rfl, _, cs (hTB10.skip _) rfl, _, cs (hTB10.skip _) rfl, _, cs (hTB10.skip _) rfl, _, cs (hTB10.skip _) rfl, bcase_of (fun g => ?_) (fun g => ?_)⟩⟩
          · have g' : recB y s = true := g
            refine ⟨zs.length - (k + 1), by omega, rfl, rfl, rfl, rfl, rfl, rfl, rfl, rfl, rfl, rfl, rfl, hle10, k + 1, ownr, hnext, by omega, rfl, by rw [hsn, g']; simp, ?_, hTr.skip _⟩
            rw [hws, g']; simpa using hor
          · have g' : recB y s = false := g
            refine ⟨_, Cell.at0 rfl, _, Cell.at0 rfl, _, Cell.at0 rfl, _, Cell.at0 rfl, fun b105 => ?_⟩
            obtain ⟨G, hG⟩ := hTr
            refine AppG.own (xs := without (zs.take k) s) (ys := [y]) (el := encR) (own := ownr) (F := (b105, .cells (encR y).toArray 36 (0, 0)) :: (b21, Obj.cells (encR y).toArray 36 (0, 0)) :: ((owno ++ B) ++ G)) encR_len encR_one rfl ?_ hor ⟨?_, rfl⟩ ?_ ?_ ?_
            · exact ((hG.cons _).cons _).trans (by rw [List.append_assoc]; exact perm_mid2)
            · exact Rd.list (L := encR y) rfl (by simp [encR_len])
            · simp only [List.length_singleton, maxLen]; omega
            · simp only [List.length_singleton]; omega
            · intro pp nn dd own4 ho4
              refine ⟨zs.length - (k + 1), by omega, rfl, rfl, rfl, rfl, rfl, rfl, rfl, rfl, rfl, rfl, rfl, hle10, k + 1, own4, hnext, by omega, rfl, by rw [hsn, g']; simp, ?_, ?_⟩
              · rw [hws, g']; exact ho4
              · exact ⟨(b105, _) :: (b21, _) :: G, (List.Perm.append_left own4 (perm_mid2 (A := owno ++ B))).trans (List.Perm.of_eq (List.append_assoc ..).symm)⟩
        · have hke : k = zs.length := by omega
          subst hke
          rw [List.take_length] at hor ⊢
          generalize his : (zs.any fun x => recB x s) = is
          have hisd : is = okd := by
            have h1 : is = true ↔ s ∈ zs := by rw [← his, any_rec]
            cases is <;> cases okd <;> simp_all
          subst hisd
          unfold bolterlaw08_ZoneInsert_b17 bolterlaw08_ZoneInsert_b18 bolterlaw08_ZoneInsert_b19 bolterlaw08_ZoneInsert_b20 bolterlaw08_ZoneInsert_b21
          have hno := hoo.len
          have hnr := hor.len
          refine bcase_not (bcase_of (fun g => ?_) (fun g => ?_))
          · subst g
            refine ⟨true, rfl, bcase_t rfl ?_⟩
            have hox := hd2 rfl
            subst hox
            subst hno; subst hnr
            refine (Same_runs ((hoo.row encR_len).sub hTr.right.left) ((hor.row encR_len).sub hTr.left) ?_).mono ?_
            · have := without_len zs s; omega
            · rintro v J11 T11 hle11 ⟨⟨f, rfl, hf⟩, rfl⟩
              refine ⟨_, rfl, bcase_t (hf.2 rfl) ?_⟩
              refine (Sorted_runs (rowR hTB10) (by omega)).mono ?_
              rintro v J12 T12 hle12 ⟨own12, ho12, hs12⟩
              obtain ⟨p12, d12, rfl⟩ := ho12.slice
              refine ⟨_, _, _, rfl, (Same_runs (rowZ (hTB10.trans hs12.right)) ((ho12.row encR_len).sub hs12.left) (by omega)).mono ?_⟩
              rintro v J13 T13 hle13 ⟨⟨f', rfl, hf'⟩, rfl⟩
              refine ⟨_, rfl, ?_⟩
              rw [hf'.2 hzs.symm]
          · subst g
            have hox := hd3 rfl
            subst hox
            subst hno
            refine bcase_t rfl ?_
            refine (Number_runs _ (hgJ ((hle8.trans hle9).trans hle10))).mono ?_
            rintro v J11 T11 hle11 ⟨rfl, rfl⟩
            exact ⟨_, rfl, rfl⟩
      have t11 : ∀ (J8 : IMem) (T8 : SH), J2.le J8 → Sub B T8 → bolterlaw08_ZoneInsert_b11 (fun v _ _ => v = .bool true) p rs.length c' p2 zs.length e' ⟨bs, 0, none⟩ false J8 T8 := fun J8 T8 h1 h2 => bcase_f rfl (tail J8 T8 h1 h2)
      unfold bolterlaw08_ZoneInsert_b9 bolterlaw08_ZoneInsert_b10
      have hni := hoi.len
      refine bcase_of (fun g => ?_) (fun g => bcase_f rfl ?_)
      · subst g
        have hixs := hok3 (by rw [hokh]; rfl)
        subst hixs
        subst hni
        refine bcase_f rfl (bcase_f rfl ⟨⟨Keep.refl _ _, t11 J7 T7 hle37 hTB⟩, ⟨Keep.refl _ _, t11 J7 T7 hle37 hTB⟩⟩)
      · subst g
        have hokt : ok = true := by rw [hokh]; rfl
        subst hokt
        obtain ⟨hiS, him⟩ := hok2 rfl
        subst hni
        have hsort : sortR (rs ++ [r]) = ixs := sortR_eq hiS fun x => by rw [him, hmem, List.mem_append, List.mem_singleton]
        have hrow7 : ∀ {J : IMem} {T : SH}, Sub T7 T → RowIn J T pi ixs.length 4 encR ixs := fun h => ((hoi.row encR_len).sub hsi.left).sub h
        refine bcase_t rfl ⟨true, rfl, bcase_f rfl ⟨_, cr hTB rfl, _, cr hTB rfl, _, cr hTB rfl, _, cr hTB rfl, ?_, ?_⟩⟩
        · refine AppG.own (xs := ([] : List Rc)) (ys := rs) (el := encR) (own := []) (F := T7) encR_len encR_one rfl (List.Perm.refl _) OwnR.nil ⟨RowIn.rd encR_len (by omega) (rowR hTB), flatMap_one encR_one _⟩ ?_ ?_ ?_
          · simp only [List.length_nil, maxLen]; omega
          · simp only [List.length_nil]; omega
          · intro p1 n1 d1 own1 ho1
            rw [List.nil_append] at ho1
            refine ⟨Sub.keep (IMem.le.refl _) (Sub.right (Sub.refl (own1 ++ T7))), fun b81 => ?_⟩
            refine AppG.own (xs := rs) (ys := [r]) (el := encR) (own := own1) (F := (b81, .cells (encR r).toArray 36 (0, 0)) :: T7) encR_len encR_one rfl perm_mid1 ho1 ⟨Rd.list (L := encR r) rfl (by simp [encR_len]), rfl⟩ ?_ ?_ ?_
            · simp only [List.length_singleton, maxLen]; omega
            · simp only [List.length_singleton]; omega
            · intro p3 n3 d3 own3 ho3
              have hn3 := ho3.len
              subst hn3
              have h37 : Sub T7 (own3 ++ (b81, .cells (encR r).toArray 36 (0, 0)) :: T7) := Sub.trans ((Sub.refl T7).skip _) (Sub.right (Sub.refl _))
              refine (Sorted_runs ((ho3.row encR_len).sub (Sub.left (Sub.refl _))) (by rw [List.length_append, List.length_singleton]; omega)).mono ?_
              rintro v J9 T9 hle9 ⟨own9, ho9, hs9⟩
              rw [hsort] at ho9
              obtain ⟨p9, d9, rfl⟩ := ho9.slice
              refine ⟨_, _, _, rfl, (Same_runs (hrow7 (h37.trans hs9.right)) ((ho9.row encR_len).sub hs9.left) (by omega)).mono ?_⟩
              rintro v J10 T10 hle10 ⟨⟨f, rfl, hf⟩, rfl⟩
              refine ⟨_, rfl, ?_⟩
              rw [hf.2 rfl]
              exact t11 J10 T10 ((hle37.trans hle9).trans hle10) ((hTB.trans h37).trans hs9.right)
        · intro b81
          have h71 : Sub T7 ((b81, Obj.cells (encR r).toArray 36 (0, 0)) :: T7) := (Sub.refl T7).skip _
          refine AppG.own (xs := ([] : List Rc)) (ys := rs) (el := encR) (own := []) (F := (b81, Obj.cells (encR r).toArray 36 (0, 0)) :: T7) encR_len encR_one rfl (List.Perm.refl _) OwnR.nil ⟨RowIn.rd encR_len (by omega) (rowR (hTB.trans h71)), flatMap_one encR_one _⟩ ?_ ?_ ?_
          · simp only [List.length_nil, maxLen]; omega
          · simp only [List.length_nil]; omega
          · intro p1 n1 d1 own1 ho1
            rw [List.nil_append] at ho1
            refine ⟨Sub.keep (IMem.le.refl _) (h71.trans (Sub.right (Sub.refl _))), ?_⟩
            refine AppG.own (xs := rs) (ys := [r]) (el := encR) (own := own1) (F := (b81, .cells (encR r).toArray 36 (0, 0)) :: T7) encR_len encR_one rfl (List.Perm.refl _) ho1 ⟨Rd.keep (Sub.keep (IMem.le.refl _) (Sub.right (Sub.refl (own1 ++ (b81, Obj.cells (encR r).toArray 36 (0, 0)) :: T7)))) (Rd.list (L := encR r) rfl (by simp [encR_len])), rfl⟩ ?_ ?_ ?_
            · simp only [List.length_singleton, maxLen]; omega
            · simp only [List.length_singleton]; omega
            · intro p3 n3 d3 own3 ho3
              have hn3 := ho3.len
              subst hn3
              have h37 : Sub T7 (own3 ++ (b81, .cells (encR r).toArray 36 (0, 0)) :: T7) := Sub.trans ((Sub.refl T7).skip _) (Sub.right (Sub.refl _))
              refine (Sorted_runs ((ho3.row encR_len).sub (Sub.left (Sub.refl _))) (by rw [List.length_append, List.length_singleton]; omega)).mono ?_
              rintro v J9 T9 hle9 ⟨own9, ho9, hs9⟩
              rw [hsort] at ho9
              obtain ⟨p9, d9, rfl⟩ := ho9.slice
              refine ⟨_, _, _, rfl, (Same_runs (hrow7 (h37.trans hs9.right)) ((ho9.row encR_len).sub hs9.left) (by omega)).mono ?_⟩
              rintro v J10 T10 hle10 ⟨⟨f, rfl, hf⟩, rfl⟩
              refine ⟨_, rfl, ?_⟩
              rw [hf.2 rfl]
              exact t11 J10 T10 ((hle37.trans hle9).trans hle10) ((hTB.trans h37).trans hs9.right)
  rw [← List.append_assoc] at hT2
  have base : Sub (own2 ++ own) T2 := hT2.left
  refine ⟨fun b9 => ⟨((Sub.refl T2).skip _).keep (IMem.le.refl _), fun b10 => ⟨(((Sub.refl T2).skip _).skip _).keep (IMem.le.refl _), ?_⟩⟩, fun b10 => ⟨((Sub.refl T2).skip _).keep (IMem.le.refl _), fun b9 => ⟨(((Sub.refl T2).skip _).skip _).keep (IMem.le.refl _), ?_⟩⟩⟩
  · exact StP.tl (StP.at0 (o := 0) (vs := encR r) (Nat.le_refl 4) rfl (StP.at0 (o := 0) (vs := encR s) (Nat.le_refl 4) rfl (main b9 b10 _ ((base.cons _).cons _))))
  · exact StP.at0 (o := 0) (vs := encR r) (Nat.le_refl 4) rfl (StP.tl (StP.at0 (o := 0) (vs := encR s) (Nat.le_refl 4) rfl (main b9 b10 _ (((base.cons _).cons _).perm (List.Perm.swap _ _ _)))))
end Go.Proofs.YtdajglfbbcbgpaaDoor
