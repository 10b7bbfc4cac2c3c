/- Zones by numbers are right. -/
import Derived.Test.YtdajglfbbcbgpaaDoorYn1
import Derived.Test.YtdajglfbbcbgpaaDoorYa9
namespace Go.Proofs.YtdajglfbbcbgpaaDoor
open Go.Px
set_option linter.unusedVariables false
set_option linter.unusedSimpArgs false

theorem texts_one {d : ByteArray} {u : UInt8} (h : d[0]? = some u) (hs : d.size = 1 + u.toNat) : textsN d = true := by
  unfold textsN
  rw [goT, h]
  dsimp only
  obtain ⟨f, hf⟩ : ∃ f, d.size = f + 1 := ⟨d.size - 1, by omega⟩
  rw [hf, goT, at_none (by omega)]
  exact decide_eq_true ⟨by omega, by omega⟩
theorem mayD_2 {x : ByteArray} (h : IsName x) : mayD 2 x = true := isName_iff.1 h
theorem mayD_5 {x : ByteArray} (h : IsName x) : mayD 5 x = true := isName_iff.1 h
theorem mayD_1 {x : ByteArray} (h : x.size = 4) : mayD 1 x = true := decide_eq_true h
theorem mayD_28 {x : ByteArray} (h : x.size = 16) : mayD 28 x = true := decide_eq_true h
theorem mayD_99 {x : ByteArray} (h : x.size ≤ 512) : mayD 99 x = true := decide_eq_true h
theorem mayD_16 {x : ByteArray} (h : textsN x = true) (hs : x.size ≤ 512) : mayD 16 x = true := by
  show (textsN x && decide (x.size ≤ 512)) = true
  rw [h, decide_eq_true hs]; rfl
theorem dataF_may (m : Int) {x s : ByteArray} (hx : IsName x) (hs : s.size ≤ 30) : (dataF m x s).1 ≠ 41 ∧ ((dataF m x s).1 ≠ 6 → mayD (dataF m x s).1 (dataF m x s).2 = true) := by
  have h1 : dA.size = 4 := rfl
  have h3 : dQ.size = 16 := rfl
  have h5 : ∀ u : UInt8, (⟨#[u]⟩ : ByteArray).size = 1 := fun _ => rfl
  unfold dataF
  split
  · exact ⟨(by show (1 : Int) ≠ 41; decide), fun _ => mayD_1 (by rw [ex_size, app_size, h1]; omega)⟩
  · split
    · exact ⟨(by show (2 : Int) ≠ 41; decide), fun _ => mayD_2 hx⟩
    · split
      · exact ⟨(by show (5 : Int) ≠ 41; decide), fun _ => mayD_5 hx⟩
      · split
        · exact ⟨(by show (6 : Int) ≠ 41; decide), fun h => absurd rfl h⟩
        · split
          · refine ⟨(by show (16 : Int) ≠ 41; decide), fun _ => mayD_16 (texts_one (u := UInt8.ofNat (min 255 s.size)) ?_ ?_) ?_⟩
            · have hp : 0 < ((⟨#[UInt8.ofNat (min 255 s.size)]⟩ : ByteArray) ++ s.extract 0 (min 255 s.size)).size := by rw [app_size, h5]; omega
              rw [getElem?_pos _ 0 hp]
              congr 1
            · rw [app_size, h5, ex_size, ofNatU (by omega)]; omega
            · rw [app_size, h5, ex_size]; omega
          · split
            · exact ⟨(by show (28 : Int) ≠ 41; decide), fun _ => mayD_28 (by rw [ex_size, app_size, h3]; omega)⟩
            · exact ⟨(by show (99 : Int) ≠ 41; decide), fun _ => mayD_99 (by rw [ex_size]; omega)⟩
/-- a zone's record -/
structure ZOK (o : ByteArray) (r : Rc) : Prop where
  may : mayR r = true
  below : belowB r.1 o = true
  small : SmallR r
  own : r.2.1 = 6 → r.1 = o
  name : IsName r.1
theorem mayR_of {r : Rc} (h1 : IsName r.1) (h2 : r.2.1 ≠ 41) (h3 : mayD r.2.1 r.2.2.2 = true) : mayR r = true := by
  unfold mayR
  rw [isName_iff.1 h1, decide_eq_true h2, h3]; rfl
theorem cut_zero {d : ByteArray} {l : List UInt8} (h : d.data.toList = 0 :: l) : cutN d = (⟨#[]⟩, ⟨l.toArray⟩, true) := by
  have hsz : d.size = l.length + 1 := by rw [← dlen, h]; rfl
  have h0 : d[0]? = some 0 := by
    rw [getElem?_pos d 0 (by omega)]
    congr 1
    have : d.data.toList[0]? = some 0 := by rw [h]; rfl
    rw [List.getElem?_eq_getElem (by rw [dlen]; omega)] at this
    injection this
  have e0 : d.extract 0 0 = ⟨#[]⟩ := ext_list (by rw [ex_list]; simp)
  have e1 : d.extract 1 d.size = ⟨l.toArray⟩ := ext_list (by
    rw [ex_list, h, List.drop_succ_cons, List.drop_zero, List.take_of_length_le (by omega)])
  have h00 : (0 : UInt8).toNat = 0 := rfl
  have hn : (labN ⟨#[]⟩).isSome = true := isName_iff.1 isName_nil
  unfold cutN
  rw [goC, h0]
  dsimp only
  rw [if_pos h00, e0, if_pos hn, Nat.zero_add, e1]
theorem nameW_nil : nameW [] = ⟨#[]⟩ := rfl
theorem soaD_list (n : Int) : (soaD n).data.toList = 0 :: 0 :: ([n, IntKind.wrap .u32 10, IntKind.wrap .u32 3, IntKind.wrap .u32 40, 1].flatMap put1) := by
  unfold soaD mkD
  rw [nameW_nil]
  simp only [ByteArray.data_append, Array.toList_append]
  rfl
theorem soaD_size (n : Int) : (soaD n).size = 22 := by rw [← dlen, soaD_list]; rfl
theorem soaN_soaD (n : Int) : soaN (soaD n) = true := by
  have h1 := cut_zero (soaD_list n)
  have h2 := cut_zero (d := ⟨(0 :: ([n, IntKind.wrap .u32 10, IntKind.wrap .u32 3, IntKind.wrap .u32 40, 1].flatMap put1)).toArray⟩) (l := [n, IntKind.wrap .u32 10, IntKind.wrap .u32 3, IntKind.wrap .u32 40, 1].flatMap put1) rfl
  unfold soaN
  rw [h1]
  dsimp only
  rw [h2]
  rfl
theorem ZOK.soa {o : ByteArray} (n : Int) (ho : IsName o) : ZOK o (soaR o n) where
  may := mayR_of ho (by show (6 : Int) ≠ 41; decide) (soaN_soaD n)
  below := below_self ho
  small := ⟨by obtain ⟨_, _, _, h⟩ := ho; exact h, by show (soaD n).size ≤ 600; rw [soaD_size]; decide, by show (0 : Int) ≤ 6 ∧ (6 : Int) ≤ 99; decide⟩
  own := fun _ => rfl
  name := ho
theorem ZOK.tx {o : ByteArray} (t : Int) (ho : IsName o) : ZOK o (txR o t) where
  may := mayR_of ho (by show (16 : Int) ≠ 41; decide) (mayD_16 (texts_one (u := 1) rfl rfl) (by show (2 : Nat) ≤ 512; decide))
  below := below_self ho
  small := ⟨by obtain ⟨_, _, _, h⟩ := ho; exact h, by show (2 : Nat) ≤ 600; decide, by show (0 : Int) ≤ 16 ∧ (16 : Int) ≤ 99; decide⟩
  own := fun h => by cases h
  name := ho
theorem join_ok {n o : ByteArray} (hn : IsName n) (ho : IsName o) : IsName (joinR o n) ∧ belowB (joinR o n) o = true := by
  unfold joinR joinN
  rw [isName_iff.1 hn, isName_iff.1 ho]
  simp only [Bool.true_and]
  by_cases h : n.size + o.size ≤ 254
  · rw [if_pos (decide_eq_true h), if_pos rfl]
    exact below_app hn ho h
  · rw [decide_eq_false h, if_neg Bool.false_ne_true, if_neg Bool.false_ne_true]
    exact ⟨ho, below_self ho⟩
theorem ZOK.under {o : ByteArray} {r : Rc} (soas : Bool) (ho : IsName o) (hr : NumR r) : ZOK o (underR soas o r) := by
  obtain ⟨nm', dt, x, rfl⟩ := hr
  have hsm := recF_small nm' dt x
  have hmay := dataF_may ((IntKind.wrap .u16 x.2.1).tmod 8) (x := nameW dt) (s := x.2.2.2.2.extract 0 (min 30 x.2.2.2.2.size)) (nameW_name dt) (by rw [ex_size]; omega)
  have hname : IsName (recF nm' dt x).1 := nameW_name nm'
  have e1 : (recF nm' dt x).2.1 = (dataF ((IntKind.wrap .u16 x.2.1).tmod 8) (nameW dt) (x.2.2.2.2.extract 0 (min 30 x.2.2.2.2.size))).1 := rfl
  have e2 : (recF nm' dt x).2.2.2 = (dataF ((IntKind.wrap .u16 x.2.1).tmod 8) (nameW dt) (x.2.2.2.2.extract 0 (min 30 x.2.2.2.2.size))).2 := rfl
  rw [← e1, ← e2] at hmay
  generalize recF nm' dt x = r at hsm hmay hname
  unfold underR
  split
  · split
    · exact ZOK.soa _ ho
    · exact ZOK.tx _ ho
  · rename_i h6
    obtain ⟨j1, j2⟩ := join_ok hname ho
    exact ⟨mayR_of j1 hmay.1 (hmay.2 h6), j2, ⟨by obtain ⟨_, _, _, h⟩ := j1; exact h, hsm.dt, hsm.ty⟩, fun h => absurd h h6, j1⟩
theorem ZOK.zone {o : ByteArray} {rs : List Rc} {most : Nat} {n : Int} (ho : IsName o) (hr : ∀ r ∈ rs, NumR r) : ∀ r ∈ zoneF o n rs most, ZOK o r := fun r h => by
  rcases mem_zoneF.1 h with h | rfl
  · obtain ⟨x, hx, rfl⟩ := List.mem_map.1 h
    exact ZOK.under false ho (hr x (List.mem_of_mem_take hx))
  · exact ZOK.soa n ho
theorem cntS_one {zs : List Rc} {s : Rc} (h : ZoneOf zs s) : cntS zs = 1 := by
  unfold cntS
  have hnd : (zs.filter isSoa).Nodup := (SS.nodup h.ss).sublist List.filter_sublist
  have hall : ∀ x ∈ zs.filter isSoa, x = s := fun x hx => h.one x (List.mem_filter.1 hx).1 (List.mem_filter.1 hx).2
  have hmem : s ∈ zs.filter isSoa := List.mem_filter.2 ⟨h.mem, h.soa⟩
  cases hf : zs.filter isSoa with
  | nil => rw [hf] at hmem; cases hmem
  | cons x l =>
    rw [hf] at hnd hall
    cases l with
    | nil => rfl
    | cons y l =>
      have hx := hall x (List.mem_cons_self ..)
      have hy := hall y (List.mem_cons_of_mem _ (List.mem_cons_self ..))
      have := (List.nodup_cons.1 hnd).1
      rw [hx, hy] at this
      exact absurd (List.mem_cons_self ..) this
theorem right_of {zs : List Rc} {s : Rc} {o : ByteArray} (h : ZoneOf zs s) (hz : ∀ r ∈ zs, ZOK o r) (hl : zs.length ≤ 18) : RightP zs o where
  each := fun k r hr => by
    have hm := List.mem_of_getElem? hr
    exact ⟨(hz r hm).may, (hz r hm).below, fun hk x hx => h.ss.get (by omega) hx hr, (hz r hm).own⟩
  one := cntS_one h
  many := by omega
  size := by
    have := sizeR_small fun r hr => (hz r hr).small
    omega
theorem origN_name (n : Int) : IsName (origN n) := nameW_name _
theorem soaD_ne : soaD 1 ≠ soaD 2 := fun h => by
  have h1 := soaD_list 1
  rw [h, soaD_list] at h1
  revert h1
  decide
end Go.Proofs.YtdajglfbbcbgpaaDoor
