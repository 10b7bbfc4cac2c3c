/- A whole zone comes: plain laws; the document's examples. -/
import Derived.Test.YthlkeokfmedjhaaGreatM1TransferComes
import Derived.Test.YthlkeokfmedjhaaGreatM2TransferComes
import Derived.Test.YthlkeokfmedjhaaGreatM3TransferComes
import Derived.Test.YthlkeokfmedjhaaGreatM4TransferComes
import Derived.Test.YthlkeokfmedjhaaGreatM5TransferComes
import Derived.Test.YthlkeokfmedjhaaGreatM6TransferComes
namespace Go.Proofs.YthlkeokfmedjhaaGreat
open Go.Px
set_option linter.unusedVariables false
set_option linter.unusedSimpArgs false

/-! ### the times of an SOA by a number -/
theorem soaD_bytes (n : Int) : (soaD n) = ⟨(0 :: 0 :: ([n, IntKind.wrap .u32 10, IntKind.wrap .u32 3, IntKind.wrap .u32 40, 1].flatMap put1)).toArray⟩ := ext_list (by rw [soaD_list])
theorem soaT_soaD (n : Int) : cutN (soaD n) = (⟨#[]⟩, ⟨(0 :: ([n, IntKind.wrap .u32 10, IntKind.wrap .u32 3, IntKind.wrap .u32 40, 1].flatMap put1)).toArray⟩, true) ∧ cutN (cutN (soaD n)).2.1 = (⟨#[]⟩, ⟨([n, IntKind.wrap .u32 10, IntKind.wrap .u32 3, IntKind.wrap .u32 40, 1].flatMap put1).toArray⟩, true) := by
  have h1 := cut_zero (soaD_list n)
  refine ⟨h1, ?_⟩
  rw [h1]
  exact cut_zero rfl
theorem be_put {n : Int} (h0 : 0 ≤ n) (h1 : n < 4294967296) {l r : List UInt8} {k : Nat} (hk : l.length = k) : g32 ⟨(l ++ put1 n ++ r).toArray⟩ k = n := by
  subst hk
  have hat : ∀ j (u : UInt8), (put1 n)[j]? = some u → bat ⟨(l ++ put1 n ++ r).toArray⟩ (l.length + j) = u.toNat := by
    intro j u hj
    refine bat_of ?_
    have hlt : j < (put1 n).length := by
      rcases Nat.lt_or_ge j (put1 n).length with h | h
      · exact h
      · rw [List.getElem?_eq_none h] at hj; cases hj
    have hsz : l.length + j < (⟨(l ++ put1 n ++ r).toArray⟩ : ByteArray).size := by
      show _ < (l ++ put1 n ++ r).toArray.size
      simp only [List.size_toArray, List.length_append]; omega
    rw [getElem?_pos (⟨(l ++ put1 n ++ r).toArray⟩ : ByteArray) (l.length + j) hsz]
    congr 1
    show (l ++ put1 n ++ r).toArray[l.length + j] = u
    simp only [List.getElem_toArray, List.append_assoc]
    rw [List.getElem_append_right (by omega)]
    simp only [Nat.add_sub_cancel_left]
    rw [List.getElem_append_left hlt]
    rw [List.getElem?_eq_getElem hlt] at hj
    injection hj
  have b0 := hat 0 _ rfl
  have b1 := hat 1 _ rfl
  have b2 := hat 2 _ rfl
  have b3 := hat 3 _ rfl
  unfold g32 g16
  rw [Nat.add_zero] at b0
  rw [b0, b1, b2, show l.length + 2 + 1 = l.length + 3 by omega, b3]
  have v : ∀ x : Int, ((u8w x).toNat : Int) = x % 256 := fun x => by rw [u8w_v, wrap_u8_eq]
  have e24 : (2 : Int) ^ (min (24 : Int).toNat (IntKind.bits .u32)) = 16777216 := by decide
  have e16 : (2 : Int) ^ (min (16 : Int).toNat (IntKind.bits .u32)) = 65536 := by decide
  have e8 : (2 : Int) ^ (min (8 : Int).toNat (IntKind.bits .u32)) = 256 := by decide
  have v0 := v (n.fdiv 16777216); have v1 := v (n.fdiv 65536); have v2 := v (n.fdiv 256); have v3 := v n
  rw [e24, e16, e8]
  have d0 : n.fdiv 16777216 = n / 16777216 := Int.fdiv_eq_ediv_of_nonneg _ (by decide)
  have d1 : n.fdiv 65536 = n / 65536 := Int.fdiv_eq_ediv_of_nonneg _ (by decide)
  have d2 : n.fdiv 256 = n / 256 := Int.fdiv_eq_ediv_of_nonneg _ (by decide)
  rw [d0] at v0 ⊢
  rw [d1] at v1 ⊢
  rw [d2] at v2 ⊢
  omega
theorem soaS_soaD {n : Int} (h0 : 0 ≤ n) (h1 : n < 4294967296) : soaS (soaD n) = (⟨#[]⟩, ⟨#[]⟩, n, 10, 3, 40, 1) := by
  obtain ⟨c1, c2⟩ := soaT_soaD n
  have ht : soaT (soaD n) = ⟨([n, IntKind.wrap .u32 10, IntKind.wrap .u32 3, IntKind.wrap .u32 40, 1].flatMap put1).toArray⟩ := by unfold soaT; rw [c2]
  rw [soaS, if_pos (soaN_soaD n), c2, c1, ht]
  have w1 : IntKind.wrap .u32 10 = 10 := by decide
  have w2 : IntKind.wrap .u32 3 = 3 := by decide
  have w3 : IntKind.wrap .u32 40 = 40 := by decide
  rw [w1, w2, w3]
  have hfl : [n, 10, 3, 40, 1].flatMap put1 = put1 n ++ (put1 10 ++ (put1 3 ++ (put1 40 ++ put1 1))) := by simp only [List.flatMap_cons, List.flatMap_nil, List.append_nil]
  have hpl : ∀ x : Int, (put1 x).length = 4 := fun _ => rfl
  rw [hfl]
  have e0 : g32 ⟨(put1 n ++ (put1 10 ++ (put1 3 ++ (put1 40 ++ put1 1)))).toArray⟩ 0 = n := be_put (l := []) h0 h1 rfl
  have e1 : g32 ⟨(put1 n ++ (put1 10 ++ (put1 3 ++ (put1 40 ++ put1 1)))).toArray⟩ 4 = 10 := by
    rw [← List.append_assoc]; exact be_put (by decide) (by decide) (hpl _)
  have e2 : g32 ⟨(put1 n ++ (put1 10 ++ (put1 3 ++ (put1 40 ++ put1 1)))).toArray⟩ 8 = 3 := by
    rw [← List.append_assoc, ← List.append_assoc]; exact be_put (by decide) (by decide) (by rw [List.length_append, hpl, hpl])
  have e3 : g32 ⟨(put1 n ++ (put1 10 ++ (put1 3 ++ (put1 40 ++ put1 1)))).toArray⟩ 12 = 40 := by
    rw [← List.append_assoc, ← List.append_assoc, ← List.append_assoc]; exact be_put (by decide) (by decide) (by rw [List.length_append, List.length_append, hpl, hpl, hpl])
  have e4 : g32 ⟨(put1 n ++ (put1 10 ++ (put1 3 ++ (put1 40 ++ put1 1)))).toArray⟩ 16 = 1 := by
    rw [← List.append_assoc, ← List.append_assoc, ← List.append_assoc, ← List.append_nil (put1 n ++ put1 10 ++ put1 3 ++ put1 40 ++ put1 1)]; exact be_put (by decide) (by decide) (by rw [List.length_append, List.length_append, List.length_append, hpl, hpl, hpl, hpl])
  rw [e0, e1, e2, e3, e4]
theorem times_of {zs : List Rc} {o : ByteArray} {n : Int} (h : ZoneOf zs (soaR o n)) (h0 : 0 ≤ n) (h1 : n < 4294967296) : timesT zs = (⟨#[]⟩, ⟨#[]⟩, n, 10, 3, 40, 1) := by
  have hf := find_of h.soa h.mem h.one
  have hz : soaZ zs = soaR o n := by unfold soaZ; rw [hf]; rfl
  have hb : soaB (soaR o n) = true := by show (true && soaN (soaD n)) = true; rw [soaN_soaD]; rfl
  unfold timesT
  rw [hz, if_pos hb]
  exact (if_pos (rfl : (soaR o n).2.1 = 6)).trans (soaS_soaD h0 h1)

/-! ### a zone by numbers is right -/
theorem under_dt {o : ByteArray} {r : Rc} (hr : NumR r) : (underR false o r).2.2.2.size ≤ 254 := by
  obtain ⟨nm', dt, x, rfl⟩ := hr
  unfold underR
  split
  · rw [if_neg Bool.false_ne_true]; show (2 : Nat) ≤ 254; decide
  · rename_i h6
    show (recF nm' dt x).2.2.2.size ≤ 254
    have hx := nameW_size dt
    unfold recF at h6 ⊢
    dsimp only at h6 ⊢
    generalize (IntKind.wrap .u16 x.2.1).tmod 8 = m at h6 ⊢
    have hs : (x.2.2.2.2.extract 0 (min 30 x.2.2.2.2.size)).size ≤ 30 := by rw [ex_size]; omega
    generalize x.2.2.2.2.extract 0 (min 30 x.2.2.2.2.size) = s at h6 hs ⊢
    have h1 : dA.size = 4 := rfl
    have h2 : dS.size = 20 := rfl
    have h3 : dQ.size = 16 := rfl
    have h4 : d0.size = 1 := rfl
    have h5 : ∀ u : UInt8, (⟨#[u]⟩ : ByteArray).size = 1 := fun _ => rfl
    unfold dataF at h6 ⊢
    by_cases g1 : m = 0 ∨ m = 1
    · rw [if_pos g1]; simp only [app_size, ex_size, h1, h2, h3, h4, h5]; omega
    · rw [if_neg g1] at h6 ⊢
      by_cases g2 : m = 2
      · rw [if_pos g2]; exact hx
      · rw [if_neg g2] at h6 ⊢
        by_cases g3 : m = 3
        · rw [if_pos g3]; exact hx
        · rw [if_neg g3] at h6 ⊢
          by_cases g4 : m = 4
          · rw [if_pos g4] at h6; exact absurd rfl h6
          · rw [if_neg g4]
            repeat' split
            all_goals simp only [app_size, ex_size, h1, h2, h3, h4, h5]
            all_goals omega
theorem sizeR_le {k : Nat} : ∀ {xs : List Rc}, (∀ r ∈ xs, szR r ≤ k) → sizeR xs ≤ xs.length * k
  | [], _ => by simp [sizeR]
  | x :: xs, h => by
    have h1 := sizeR_le (xs := xs) (fun r hr => h r (List.mem_cons_of_mem _ hr))
    have h2 := h x (List.mem_cons_self ..)
    have h3 : sizeR (x :: xs) = szR x + sizeR xs := by simp [sizeR]
    rw [h3, List.length_cons, Nat.succ_mul]; omega
theorem right_zone {o : ByteArray} {n : Int} {rs : List Rc} {most : Nat} (ho : IsName o) (hr : ∀ r ∈ rs, NumR r) (hm : most ≤ 30) : RightP (zoneF o n rs most) o := by
  have hz := ZOK.zone (most := most) (n := n) ho hr
  have hl := zoneF_len o n rs most
  have hs : sizeR (zoneF o n rs most) ≤ (zoneF o n rs most).length * 518 := sizeR_le fun r h => by
    have hnm := (hz r h).small.nm
    have hdt : r.2.2.2.size ≤ 254 := by
      rcases mem_zoneF.1 h with h | rfl
      · obtain ⟨x, hx, rfl⟩ := List.mem_map.1 h
        exact under_dt (hr x (List.mem_of_mem_take hx))
      · show (soaD n).size ≤ 254
        rw [soaD_size]; decide
    show 10 + r.1.size + r.2.2.2.size ≤ 518
    omega
  have hzone := zone_of o n rs most
  refine ⟨fun k r hr => ?_, cntS_one hzone, by omega, by omega⟩
  have hm := List.mem_of_getElem? hr
  exact ⟨(hz r hm).may, (hz r hm).below, fun hk x hx => hzone.ss.get (by omega) hx hr, (hz r hm).own⟩

/-! ### a zone as its master sends it -/
def ansF (s : Rc) (zs : List Rc) : List Rc := s :: (zs.filter nS ++ [s])
theorem chk_right {zs : List Rc} {o : ByteArray} (h : RightP zs o) : chkF zs o = 0 := chk_ok h
theorem nodup_head {s : Rc} {zs : List Rc} (h : ZoneOf zs s) : (s :: zs.filter nS).Nodup := by
  refine List.nodup_cons.2 ⟨fun hm => ?_, (SS.nodup h.ss).sublist List.filter_sublist⟩
  have := (List.mem_filter.1 hm).2
  rw [nS, h.soa] at this; cases this
theorem head_mem {s : Rc} {zs : List Rc} (h : ZoneOf zs s) (x : Rc) : x ∈ s :: zs.filter nS ↔ x ∈ zs := by
  constructor
  · intro hx
    rcases List.mem_cons.1 hx with rfl | hx
    · exact h.mem
    · exact (List.mem_filter.1 hx).1
  · intro hx
    cases hs : isSoa x with
    | true => rw [h.one x hx hs]; exact List.mem_cons_self ..
    | false => exact List.mem_cons_of_mem _ (List.mem_filter.2 ⟨hx, by rw [nS, hs]; rfl⟩)
theorem rep_head {s : Rc} {zs : List Rc} {o : ByteArray} (h : ZoneOf zs s) (hr : RightP zs o) : repF (s :: zs.filter nS) o = (none, zs) := by
  have hnd : (msR (s :: zs.filter nS)).Nodup := (msR_perm _).nodup_iff.2 (nodup_head h)
  have he : msR (s :: zs.filter nS) = zs := (msR_eq hnd).symm.trans (sortR_eq h.ss fun x => (head_mem h x).symm)
  rw [rep_ok hnd (by rw [he]; exact chk_right hr), he]
theorem right_ans {s : Rc} {zs : List Rc} {o : ByteArray} (h : ZoneOf zs s) (hz : ∀ r ∈ zs, ZOK o r) : rightT o (ansF s zs) = true := by
  have hm : ∀ r ∈ zs, mayT o r = true := fun r hr => by
    have k := hz r hr
    unfold mayT
    rw [k.may, k.below]
    cases hs : isSoa r with
    | false => rfl
    | true =>
      have : r.1 = o := k.own (by have := hs; unfold isSoa at this; exact eq_of_beq this)
      rw [this]; simp
  have hall : (ansF s zs).all (mayT o) = true := by
    rw [List.all_eq_true]
    intro r hr
    rcases List.mem_cons.1 hr with rfl | hr
    · exact hm _ h.mem
    · rcases List.mem_append.1 hr with hr | hr
      · exact hm r (List.mem_filter.1 hr).1
      · rw [List.mem_singleton.1 hr]; exact hm _ h.mem
  unfold rightT
  rw [hall]
  exact h.soa
theorem full_ans {s : Rc} {zs : List Rc} {o : ByteArray} (h : ZoneOf zs s) (hz : ∀ r ∈ zs, ZOK o r) : fullT o (ansF s zs) = (none, s :: zs.filter nS) := by
  have hl : (ansF s zs).length = (zs.filter nS).length + 2 := by simp [ansF]
  have ht : (ansF s zs).take ((ansF s zs).length - 1) = s :: zs.filter nS := by
    rw [hl, show (zs.filter nS).length + 2 - 1 = (s :: zs.filter nS).length by simp]
    show (s :: (zs.filter nS ++ [s])).take _ = _
    rw [← List.cons_append]
    exact List.take_left
  rw [full_yes ⟨right_ans h hz, by omega, ?_, ?_⟩, ht]
  · rw [hl]
    show (s :: (zs.filter nS ++ [s]))[(zs.filter nS).length + 1]? = some s
    rw [List.getElem?_cons_succ, List.getElem?_append_right (Nat.le_refl _), Nat.sub_self]; rfl
  · rw [ht, List.drop_succ_cons, List.drop_zero, List.all_eq_true]
    exact fun r hr => (List.mem_filter.1 hr).2
theorem made_ans {t : Tr} {s : Rc} {zs : List Rc} (h : ZoneOf zs s) (hz : ∀ r ∈ zs, ZOK t.org r) (hr : RightP zs t.org) (hq : t.q.2.1 = 252) (hg : t.got = ansF s zs) : madeT t = (none, zs) := by
  unfold madeT
  rw [if_pos hq, hg, full_ans h hz]
  exact rep_head h hr
theorem recB_self (r : Rc) : recB r r = true := recB_iff.2 rfl
theorem done_ans {s : Rc} {zs : List Rc} : doneT (ansF s zs) = true := by
  have h2 : 2 ≤ ((ansF s zs).filter (recB · s)).length := by
    show 2 ≤ ((s :: (zs.filter nS ++ [s])).filter (recB · s)).length
    simp only [List.filter_cons, List.filter_append, recB_self, if_true, List.length_cons, List.length_append, List.filter_nil, List.length_nil]
    omega
  cases hf : zs.filter nS with
  | nil =>
    unfold ansF at h2 ⊢
    rw [hf] at h2 ⊢
    show decide (_ ≥ (if isSoa s && !recB s s then (3 : Int) else 2)) = true
    rw [recB_self]
    simp only [Bool.not_true, Bool.and_false, Bool.false_eq_true, if_false]
    exact decide_eq_true (by omega)
  | cons x l =>
    have hx : isSoa x = false := by
      have : x ∈ zs.filter nS := by rw [hf]; exact List.mem_cons_self ..
      have := (List.mem_filter.1 this).2
      simpa using this
    unfold ansF at h2 ⊢
    rw [hf] at h2 ⊢
    show decide (_ ≥ (if isSoa x && !recB x s then (3 : Int) else 2)) = true
    rw [hx]
    simp only [Bool.false_and, Bool.false_eq_true, if_false]
    exact decide_eq_true (by omega)
end Go.Proofs.YthlkeokfmedjhaaGreat
/- The document's examples of a transfer; TransferOver. -/
namespace Go.Proofs.YthlkeokfmedjhaaGreat
open Go.Px
set_option linter.unusedVariables false
set_option linter.unusedSimpArgs false

theorem zsz : SizeOK ([] : List Rc) := fun r h => (by cases h)
theorem awake11_runs (I : IMem) (S : SH) : Runs Tryz.prog 7 #[] I S fun v _ T => v = .bool true ∧ T = S := by
  refine Runs.drop (bolterlaw11_awake_fn _ _ _ ?_)
  unfold bolterlaw11_awake bolterlaw11_awake_b1
  have t1 : tickT (tr0 ⟨#[]⟩) 0 7 = (⟨⟨#[]⟩, [], false, 0, 0, (7, 252, false, zR0), true, 4, []⟩, ((7, 252, false, zR0), true)) := by rfl
  have t2 : tickT ⟨⟨#[]⟩, [], false, 0, 0, (7, 252, false, zR0), true, 4, []⟩ 3 8 = (⟨⟨#[]⟩, [], false, 0, 0, (7, 252, false, zR0), true, 4, []⟩, (rq0, false)) := by rfl
  have t3 : tickT ⟨⟨#[]⟩, [], false, 0, 0, (7, 252, false, zR0), true, 4, []⟩ 4 8 = (⟨⟨#[]⟩, [], false, 9, 0, (7, 252, false, zR0), false, 4, []⟩, (rq0, false)) := by rfl
  have t4 : tickT ⟨⟨#[]⟩, [], false, 9, 0, (7, 252, false, zR0), false, 4, []⟩ 9 9 = (⟨⟨#[]⟩, [], false, 9, 0, (9, 252, false, zR0), true, 13, []⟩, ((9, 252, false, zR0), true)) := by rfl
  refine (TOf_runs _ _ _).mono ?_
  rintro v J1 T1 hle1 ⟨b, own1, rfl, h1, hs1⟩
  refine ⟨_, rfl, bcase_f rfl ((Tick_runs h1 hs1 0 7 (Nat.zero_le _) zsz).mono ?_)⟩
  rintro v J2 T2 hle2 ⟨rfl, own2, h2, hs2⟩
  rw [t1] at h2 ⊢
  refine ⟨_, _, _, _, _, _, _, _, rfl, fun b2 => StP.all (vs := encQ (7, 252, false, zR0)) rfl rfl ?_⟩
  refine (Tick_runs h2 (TrAt.frame (e := 0) (b := 0) (s := tr0 ⟨#[]⟩) (x := qB b2 (7, 252, false, zR0)) hs2) 3 8 (Nat.zero_le _) zsz).mono ?_
  rintro v J3 T3 hle3 ⟨rfl, own3, h3, hs3⟩
  rw [t2] at h3 ⊢
  refine ⟨_, _, _, _, _, _, _, _, rfl, fun b4 => StP.all (vs := encQ rq0) rfl rfl ?_⟩
  refine (Tick_runs h3 (TrAt.frame (e := 0) (b := 0) (s := tr0 ⟨#[]⟩) (x := qB b4 rq0) hs3) 4 8 (Nat.zero_le _) zsz).mono ?_
  rintro v J4 T4 hle4 ⟨rfl, own4, h4, hs4⟩
  rw [t3] at h4 ⊢
  refine ⟨_, _, _, _, _, _, _, _, rfl, fun b6 => StP.all (vs := encQ rq0) rfl rfl ?_⟩
  refine (Tick_runs h4 (TrAt.frame (e := 0) (b := 0) (s := tr0 ⟨#[]⟩) (x := qB b6 rq0) hs4) 9 9 (Nat.zero_le _) zsz).mono ?_
  rintro v J5 T5 hle5 ⟨rfl, own5, h5, hs5⟩
  rw [t4] at h5 ⊢
  refine ⟨_, _, _, _, _, _, _, _, rfl, fun b8 => StP.all (vs := encQ (9, 252, false, zR0)) rfl rfl ?_⟩
  have hb2 : Sub (qB b2 (7, 252, false, zR0) :: S) (qB b8 (9, 252, false, zR0) :: T5) := hs5.right.drop.drop.skip _
  refine bcase_t rfl ⟨_, Cell.among hb2 rfl, bcase_t rfl ⟨_, Cell.among hb2 rfl, bcase_t rfl (bcase_t rfl (bcase_t rfl (bcase_t rfl ⟨_, Cell.at0 rfl, S, hb2.drop, rfl, rfl⟩)))⟩⟩

/-! ### a zone that comes whole: the state behind it -/
theorem ask0 (o : ByteArray) (id : Int) : askT (tr0 o) 0 id 252 = ⟨o, [], false, 0, 0, (id, 252, false, zR0), true, 4, []⟩ := rfl
/-- a zone is there since a time -/
def here (o : ByteArray) (zs : List Rc) (now : Int) (q : Rq) (til : Int) : Tr := ⟨o, zs, true, now + 10, now + 40, q, false, til, []⟩
theorem wr {x : Int} (h1 : -1000000 ≤ x) (h2 : x ≤ 100000000000) : IntKind.wrap .i64 x = x := wrap_i64 (by omega) (by omega)
theorem turn_here {t : Tr} {o : ByteArray} {n now : Int} {zs : List Rc} (h : ZoneOf zs (soaR o n)) (h0 : 0 ≤ n) (h1 : n < 4294967296) (hn0 : 0 ≤ now) (hn1 : now ≤ 1000000) (ho : t.org = o) :
    turnT t now zs = (here o zs now t.q t.til, (decide (((lessF t.zone zs).length : Int) + ((lessF zs t.zone).length : Int) > 0), rq0, false)) ∨ 100000000000 < ((lessF t.zone zs).length : Int) + ((lessF zs t.zone).length : Int) := by
  by_cases hb : ((lessF t.zone zs).length : Int) + ((lessF zs t.zone).length : Int) ≤ 100000000000
  · left
    unfold turnT zoneT closeT here
    rw [times_of h h0 h1]
    dsimp only
    rw [wr (by omega) hb, wr (x := 40) (by decide) (by decide), wr (x := 10) (by decide) (by decide), if_pos (by decide : (10 : Int) > 1), wr (by omega) (by omega), wr (by omega) (by omega), ho]
  · right; omega
theorem take_whole {t : Tr} {o : ByteArray} {n now id : Int} {zs : List Rc} (h : ZoneOf zs (soaR o n)) (hz : ∀ r ∈ zs, ZOK o r) (hr : RightP zs o) (h0 : 0 ≤ n) (h1 : n < 4294967296) (hn0 : 0 ≤ now) (hn1 : now ≤ 1000000) (ho : t.org = o) (hq : t.q.2.1 = 252) (hg : t.got = ansF (soaR o n) zs) (hzl : t.zone.length ≤ 256) :
    take2 t now id = (here o zs now t.q t.til, (decide (((lessF t.zone zs).length : Int) + ((lessF zs t.zone).length : Int) > 0), rq0, false)) := by
  have hl : t.got.length ≤ 258 := by
    have := hr.many
    have h2 : (zs.filter nS).length ≤ zs.length := List.length_filter_le _ _
    rw [hg]; simp [ansF]; omega
  rw [take2_done (by omega) (by rw [hg]; exact done_ans), made_ans h (ho ▸ hz) (ho ▸ hr) hq hg]
  show turnT t now zs = _
  rcases turn_here (t := t) h h0 h1 hn0 hn1 ho with h | h
  · exact h
  · have a1 := less_len t.zone zs
    have a2 := less_len zs t.zone
    have := hr.many
    omega
end Go.Proofs.YthlkeokfmedjhaaGreat
/- TransferComes: a zone that its master sends comes whole, in however many messages. -/
namespace Go.Proofs.YthlkeokfmedjhaaGreat
open Go.Px
set_option linter.unusedVariables false
set_option linter.unusedSimpArgs false

theorem ans_len (s : Rc) (zs : List Rc) : (ansF s zs).length = (zs.filter nS).length + 2 := by simp [ansF]
theorem not_done {s : Rc} {zs : List Rc} (hs : isSoa s = true) {k : Nat} (h2 : 2 ≤ k) (hk : k < (ansF s zs).length) : doneT ((ansF s zs).take k) = false := by
  rw [ans_len] at hk
  cases hf : zs.filter nS with
  | nil => rw [hf] at hk; simp at hk; omega
  | cons x l =>
    have hall : ∀ y ∈ x :: l, isSoa y = false := fun y hy => by
      have := (List.mem_filter.1 (hf ▸ hy)).2
      simpa using this
    obtain ⟨j, rfl⟩ : ∃ j, k = j + 2 := ⟨k - 2, by omega⟩
    have e : (ansF s zs).take (j + 2) = s :: x :: (l ++ [s]).take j := by unfold ansF; rw [hf]; rfl
    have hjl : j ≤ l.length := by rw [hf, List.length_cons] at hk; omega
    rw [e, List.take_append_of_le_length hjl]
    have hns : ∀ y, isSoa y = false → recB y s = false := fun y hy => recB_false.2 fun he => by rw [he, hs] at hy; cases hy
    have hlt : ((l.take j).filter (recB · s)) = [] := List.filter_eq_nil_iff.2 fun y hy => by
      rw [hns y (hall y (List.mem_cons_of_mem _ (List.mem_of_mem_take hy)))]; exact Bool.false_ne_true
    show decide ((((s :: x :: l.take j).filter (recB · s)).length : Int) ≥ (if isSoa x && !recB x s then (3 : Int) else 2)) = false
    rw [hall x (List.mem_cons_self ..)]
    simp only [List.filter_cons, recB_self, if_true, hns x (hall x (List.mem_cons_self ..)), Bool.false_eq_true, if_false, hlt, Bool.false_and]
    rfl
theorem less_nil (zs : List Rc) : lessF zs [] = zs := by
  unfold lessF
  refine List.filter_eq_self.2 fun x _ => ?_
  rw [has_false.2 (fun h => by cases h)]; rfl
/-- the state while a zone comes -/
def coming (o : ByteArray) (til : Int) (got : List Rc) : Tr := ⟨o, [], false, 0, 0, (5, 252, false, zR0), true, til, got⟩
theorem coming_ok {o : ByteArray} {til : Int} {got : List Rc} (h1 : got.length ≤ 1024) (h2 : ∀ r ∈ got, SmallR r) : TOK (coming o til got) := ⟨List.Pairwise.nil, .inl rfl, fun r h => (by cases h), h1, h2⟩
theorem take_part {o : ByteArray} {n til id : Int} {zs : List Rc} {p q : Nat} {m : Ms} (h : ZoneOf zs (soaR o n)) (hz : ∀ r ∈ zs, ZOK o r) (hr : RightP zs o) (h0 : 0 ≤ n) (h1 : n < 4294967296)
    (hfit : fitsT (coming o til ((ansF (soaR o n) zs).take p)) m = true) (hc : m.code = 0) (ht : m.trunc = false) (hq : p + q ≤ (ansF (soaR o n) zs).length) (hq2 : 2 ≤ p + q) :
    takeT (coming o til ((ansF (soaR o n) zs).take p)) 1 id m (((ansF (soaR o n) zs).drop p).take q) =
      if p + q = (ansF (soaR o n) zs).length then (here o zs 1 (5, 252, false, zR0) 5, (true, rq0, false)) else (coming o 5 ((ansF (soaR o n) zs).take (p + q)), (false, rq0, false)) := by
  have hg : gotT (coming o til ((ansF (soaR o n) zs).take p)) 1 (((ansF (soaR o n) zs).drop p).take q) = coming o 5 ((ansF (soaR o n) zs).take (p + q)) := by
    unfold gotT coming
    dsimp only
    rw [wr (x := 1 + 4) (by decide) (by decide), List.take_add]; rfl
  rw [takeT_got ⟨rfl, hfit⟩ (by rw [hc, ht]; simp) (by show (252 : Int) ≠ 6; decide), hg]
  split
  · rename_i he
    rw [he, List.take_length]
    have := take_whole (t := coming o 5 (ansF (soaR o n) zs)) (now := 1) (id := id) h hz hr h0 h1 (by decide) (by decide) rfl rfl rfl (Nat.zero_le _)
    rw [this]
    have e : decide (((lessF (coming o 5 (ansF (soaR o n) zs)).zone zs).length : Int) + ((lessF zs (coming o 5 (ansF (soaR o n) zs)).zone).length : Int) > 0) = true := by
      refine decide_eq_true ?_
      show ((lessF [] zs).length : Int) + ((lessF zs []).length : Int) > 0
      rw [less_nil]
      have : 0 < zs.length := List.length_pos_of_mem h.mem
      omega
    rw [e]; rfl
  · rename_i he
    have hlt : p + q < (ansF (soaR o n) zs).length := by omega
    have hl : (ansF (soaR o n) zs).length ≤ 258 := by
      have := hr.many
      have h2 : (zs.filter nS).length ≤ zs.length := List.length_filter_le _ _
      rw [ans_len]; omega
    exact take2_more (by show ¬ ((ansF (soaR o n) zs).take (p + q)).length > 1024; rw [List.length_take]; omega) (by show ¬ doneT ((ansF (soaR o n) zs).take (p + q)) = true; rw [not_done h.soa hq2 hlt]; exact Bool.false_ne_true)
theorem here_ok {o : ByteArray} {n now til : Int} {q : Rq} {zs : List Rc} (h : ZoneOf zs (soaR o n)) (hz : ∀ r ∈ zs, ZOK o r) (hr : RightP zs o) : TOK (here o zs now q til) := ⟨h.ss, .inr hr, fun r hr' => (hz r hr').small, Nat.zero_le _, fun r h => (by cases h)⟩
abbrev KT : Value → IMem → SH → Prop := fun v _ _ => v = .bool true
theorem comes_end {o : ByteArray} {n : Int} {zs : List Rc} {zp : Option Addr} {zc b : Nat} {ownt ownz F S : SH} {J : IMem} (h : ZoneOf zs (soaR o n)) (hzl : zs.length ≤ 256) (ht : TrAt 52 b (here o zs 1 (5, 252, false, zR0) 5) ownt) (hz : OwnZ (.slice zp zs.length zc) zs ownz) (hs : Sub (ownt ++ (ownz ++ F)) S) :
    bolterlaw11_TransferComes_b18 KT zp zs.length zc (some ⟨b, 0, none⟩) true J S := by
  unfold bolterlaw11_TransferComes_b18 bolterlaw11_TransferComes_b19
  refine (Open_runs ht hs).mono ?_
  rintro v J2 T2 hle2 ⟨rfl, rfl⟩
  refine ⟨_, _, _, _, _, _, _, _, rfl, fun b24 => StP.all (vs := encQ rq0) rfl rfl ?_⟩
  have hs2 : Sub (ownt ++ (qB b24 rq0 :: (ownz ++ F))) (qB b24 rq0 :: T2) := TrAt.frame (e := 0) (b := 0) (s := tr0 o) hs
  have ht' := ht
  obtain ⟨z, g, oz, og, rfl, hzz, hgg⟩ := ht'
  have hzn : z.2.1 = zs.length := hzz.len
  refine bcase_t rfl ⟨_, _, _, Cell.at_ (add_mk _ _ _) (Cell.among hs2 rfl), ?_⟩
  rw [hzn]
  refine (Same_runs (xs := zs) (ys := zs) (hzn ▸ ((hzz.row encR_len).sub hs2.left.drop.left)) ((hz.row encR_len).sub hs2.right.drop.left) (by omega)).mono ?_
  rintro v J3 T3 hle3 ⟨⟨f, rfl, hf⟩, rfl⟩
  have hft : f = true := hf.2 rfl
  subst hft
  refine ⟨_, rfl, bcase_t rfl ⟨_, Cell.at_ (add_mk _ _ _) (Cell.among hs2 rfl), bcase_t rfl (bcase_t rfl ?_)⟩⟩
  refine (Live_runs ht hs2 40).mono ?_
  rintro v J4 T4 hle4 ⟨rfl, rfl⟩
  refine ⟨_, rfl, bcase_t rfl ((Live_runs ht hs2 41).mono ?_)⟩
  rintro v J5 T5 hle5 ⟨rfl, rfl⟩
  exact ⟨_, rfl, bcase_t rfl ⟨_, Cell.at_ (add_mk _ _ _) (Cell.among hs2 rfl), rfl⟩⟩
end Go.Proofs.YthlkeokfmedjhaaGreat
/- TransferComes: the walk. -/
namespace Go.Proofs.YthlkeokfmedjhaaGreat
open Go.Px
set_option linter.unusedVariables false
set_option linter.unusedSimpArgs false

theorem strEq_self (o : ByteArray) : (o == o) = true := ba_beq.2 rfl
abbrev q5 : Rq := (5, 252, false, zR0)
structure CInv (o : ByteArray) (n : Int) (zs : List Rc) (bt b12 : Nat) (ownz owna : SH) (I0 : IMem) (rs : Option Addr) (rsn rsc : Nat) (ch : Bool) (k : Int) (J : IMem) (T : SH) (p : Nat) : Prop where
  le : I0.le J
  pl : p ≤ (ansF (soaR o n) zs).length
  rn : rsn = ((ansF (soaR o n) zs).drop p).length
  row : RowIn J owna rs rsn 4 encR ((ansF (soaR o n) zs).drop p)
  rc : rsn ≤ rsc
  kk : ∃ j : Nat, k = (j : Int) ∧ j ≤ p ∧ (j = 0 ↔ p = 0)
  p2 : 0 < p → 2 ≤ p
  st : ∃ ownt, Sub (ownt ++ (ownz ++ (owna ++ [qB b12 q5]))) T ∧ (p < (ansF (soaR o n) zs).length → ch = false ∧ TrAt 52 bt (coming o (if p = 0 then 4 else 5) ((ansF (soaR o n) zs).take p)) ownt) ∧ (p = (ansF (soaR o n) zs).length → ch = true ∧ TrAt 52 bt (here o zs 1 q5 5) ownt)
theorem comes_step {o : ByteArray} {n : Int} {zs : List Rc} {zp rs cut : Option Addr} {zc bt b12 rsn rsc cutn cutc : Nat} {ownz owna : SH} {I0 J : IMem} {T : SH} {ch : Bool} {k : Int} {p q : Nat} {again : Option Addr → Nat → Nat → ByteArray → Option Addr → Nat → Nat → Option Addr → Addr → Bool → Option Addr → Nat → Nat → Bool → Int → IMem → SH → Prop}
    (h : ZoneOf zs (soaR o n)) (hz : ∀ r ∈ zs, ZOK o r) (hr : RightP zs o) (h0 : 0 ≤ n) (h1 : n < 4294967296) (hi : CInv o n zs bt b12 ownz owna I0 rs rsn rsc ch k J T p) (hp : p < (ansF (soaR o n) zs).length) (hq1 : 1 ≤ q) (hq : q ≤ rsn) (hpq : 2 ≤ p + q)
    (hag : ∀ (rs' : Option Addr) (rsn' rsc' : Nat) (ch' : Bool) (J' : IMem) (T' : SH), CInv o n zs bt b12 ownz owna I0 rs' rsn' rsc' ch' (IntKind.wrap .i64 (k + 1)) J' T' (p + q) → again cut cutn cutc o zp zs.length zc (some ⟨bt, 0, none⟩) ⟨b12, 0, none⟩ true rs' rsn' rsc' ch' (IntKind.wrap .i64 (k + 1)) J' T') :
    bolterlaw11_TransferComes_b12 again KT cut cutn cutc o zp zs.length zc (some ⟨bt, 0, none⟩) ⟨b12, 0, none⟩ true rs rsn rsc ch k (q : Int) J T := by
  obtain ⟨ownt, hs, hlt, _⟩ := hi.st
  obtain ⟨rfl, ht⟩ := hlt hp
  have hrn := hi.rn
  have hrc := hi.rc
  have hlen : rsn = (ansF (soaR o n) zs).length - p := by rw [hrn, List.length_drop]
  obtain ⟨ans, hans⟩ : ∃ ans, ans = ansF (soaR o n) zs := ⟨_, rfl⟩
  have hasm : ∀ r ∈ ansF (soaR o n) zs, SmallR r := fun r hr' => by
    rcases List.mem_cons.1 hr' with rfl | hr'
    · exact (hz _ h.mem).small
    · rcases List.mem_append.1 hr' with hr' | hr'
      · exact (hz r (List.mem_filter.1 hr').1).small
      · rw [List.mem_singleton.1 hr']; exact (hz _ h.mem).small
  have hal : (ansF (soaR o n) zs).length ≤ 258 := by
    have := hr.many
    have h2 : (zs.filter nS).length ≤ zs.length := List.length_filter_le _ _
    rw [ans_len]; omega
  have hF1 : Sub (qB b12 q5 :: []) T := hs.right.right.right
  unfold bolterlaw11_TransferComes_b12
  refine ⟨[qB b12 q5], Sub.keep (IMem.le.refl J) hF1, _, Cell.at0 rfl, _, Cell.at_ (add_mk _ _ _) (Cell.at0 rfl), by omega, by omega, fun b20 => ⟨Sub.keep (IMem.le.refl J) (hF1.skip _), ?_⟩⟩
  obtain ⟨m, hm⟩ : ∃ m : Ms, m = ⟨5, true, 0, false, false, false, false, 0, o, 252, (slA rs rsc 0 4, (q : Int).toNat - 0, rsc - 0), (none, 0, 0), (none, 0, 0), 0⟩ := ⟨_, rfl⟩
  refine StP.all (vs := encM ⟨5, true, 0, false, false, false, false, 0, o, 252, (slA rs rsc 0 4, (q : Int).toNat - 0, rsc - 0), (none, 0, 0), (none, 0, 0), 0⟩) rfl rfl ?_
  rw [← hm]
  unfold bolterlaw11_TransferComes_b13
  have hs2 : Sub (ownt ++ (mB b20 m :: (ownz ++ (owna ++ [qB b12 q5])))) (mB b20 m :: T) := TrAt.frame (e := 0) (b := 0) (s := tr0 o) hs
  have hM : ∀ {J : IMem} (i : Nat) {v : Value}, (encM m)[i]? = some v → Cell J (mB b20 m :: T) ((⟨b20, 0, none⟩ : Addr).add i) v := fun {J} i {v} hk => Cell.at_ (a' := ⟨b20, i, none⟩) (by rw [add_mk, Nat.zero_add]) (Cell.at0 (by rw [List.getElem?_toArray]; exact hk))
  refine ⟨by omega, by omega, _, hM 0 rfl, _, hM 1 rfl, _, hM 2 rfl, _, hM 3 rfl, _, hM 4 rfl, _, hM 5 rfl, _, hM 6 rfl, _, hM 7 rfl, _, hM 8 rfl, _, hM 9 rfl, _, _, _, hM 10 rfl, _, _, _, hM 11 rfl, _, _, _, hM 12 rfl, _, hM 13 rfl, ?_⟩
  have hm1 : m.an.2.1 = (((ansF (soaR o n) zs).drop p).take q).length := by
    rw [hm, List.length_take, ← hrn]
    show (q : Int).toNat - 0 = min q rsn
    omega
  have hqn : (((ansF (soaR o n) zs).drop p).take q).length = q := by rw [List.length_take, ← hrn]; omega
  have hmrow : RowIn J (mB b20 m :: (ownz ++ (owna ++ [qB b12 q5]))) m.an.1 (((ansF (soaR o n) zs).drop p).take q).length 4 encR (((ansF (soaR o n) zs).drop p).take q) := by
    have e : m.an.1 = rs := by rw [hm]; exact slA_zero _ _ _
    rw [e, hqn]
    exact (hi.row.take hq).sub (Sub.skip (Sub.refl (ownz ++ (owna ++ [qB b12 q5]))).right.left _)
  have hfit : fitsT (coming o (if p = 0 then 4 else 5) ((ansF (soaR o n) zs).take p)) m = true := by
    rw [hm]
    have e : (o == o) = true := strEq_self o
    unfold fitsT coming
    simp [e]
  refine (Take_runs (m := m) (xs := ((ansF (soaR o n) zs).drop p).take q) (now := 1) (id := 9) ht hs2 (coming_ok (by rw [List.length_take]; omega) fun r hr' => hasm r (List.mem_of_mem_take hr')) fun _ => ⟨hm1, hmrow, by rw [hqn]; omega, fun r hr' => hasm r (List.mem_of_mem_drop (List.mem_of_mem_take hr'))⟩).mono ?_
  rintro v J2 T2 hle2 ⟨rfl, own2, ht2, hs3⟩
  rw [take_part h hz hr h0 h1 hfit (by rw [hm]) (by rw [hm]) (by omega) hpq] at ht2 ⊢
  have hkk := hi.kk
  obtain ⟨j, rfl, hjp, hj0⟩ := hkk
  have e1 : IntKind.wrap .i64 ((j : Int) + 1) = ((j + 1 : Nat) : Int) := by rw [wrap_i64 (by omega) (by omega)]; rfl
  have hdd : ((ansF (soaR o n) zs).drop p).drop q = (ansF (soaR o n) zs).drop (p + q) := List.drop_drop ..
  have hrow2 : RowIn J2 owna (slA rs rsc (q : Int).toNat 4) (rsn - (q : Int).toNat) 4 encR ((ansF (soaR o n) zs).drop (p + q)) := by
    rw [Int.toNat_natCast, ← hdd]
    exact (hi.row.drop hq hrc).le hle2
  have hn2 : rsn - (q : Int).toNat = ((ansF (soaR o n) zs).drop (p + q)).length := by rw [List.length_drop, hlen]; omega
  have hdrop : ∀ {x : Nat × Obj} {T' : SH}, Sub (x :: T2) T' → Sub (own2 ++ (ownz ++ (owna ++ [qB b12 q5]))) T' := fun hx => (hs3.trans hx.drop).re (by intro a; simp only [cnt_cons, cnt_app]; omega)
  by_cases he : p + q = (ansF (soaR o n) zs).length
  · rw [if_pos he] at ht2 ⊢
    refine ⟨_, _, _, _, _, _, _, _, _, rfl, fun b22 => StP.all (vs := encQ rq0) rfl rfl ?_⟩
    unfold bolterlaw11_TransferComes_b14 bolterlaw11_TransferComes_b15 bolterlaw11_TransferComes_b16 bolterlaw11_TransferComes_b17
    have hz0 : rsn - (q : Int).toNat = 0 := by omega
    refine bcase_f rfl (bcase_f rfl (bcase_f (by rw [hz0]; rfl) (hag _ _ _ _ _ _ ⟨hi.le.trans hle2, by omega, hn2, hrow2, by omega, ⟨j + 1, e1, by omega, ⟨fun h => by omega, fun h => by omega⟩⟩, fun _ => hpq, own2, hdrop (Sub.refl _), fun hl => by omega, fun _ => ⟨rfl, ht2⟩⟩)))
  · rw [if_neg he] at ht2 ⊢
    refine ⟨_, _, _, _, _, _, _, _, _, rfl, fun b22 => StP.all (vs := encQ rq0) rfl rfl ?_⟩
    unfold bolterlaw11_TransferComes_b14 bolterlaw11_TransferComes_b15 bolterlaw11_TransferComes_b16 bolterlaw11_TransferComes_b17
    have hz0 : (((rsn - (q : Int).toNat : Nat) : Int) == (0 : Int)) = false := by rw [beq_eq_false_iff_ne]; omega
    refine bcase_f rfl (bcase_f rfl (bcase_f (by rw [hz0]; rfl) (hag _ _ _ _ _ _ ⟨hi.le.trans hle2, by omega, hn2, hrow2, by omega, ⟨j + 1, e1, by omega, ⟨fun h => by omega, fun h => by omega⟩⟩, fun _ => hpq, own2, hdrop (Sub.refl _), fun _ => ⟨rfl, by rw [if_neg (show ¬ p + q = 0 by omega)]; exact ht2⟩, fun hl => absurd hl he⟩)))
theorem comes_loop {o : ByteArray} {n : Int} {zs : List Rc} {zp rs cut : Option Addr} {zc bt b12 rsn rsc cutc : Nat} {ns : List Int} {ownz owna : SH} {I0 J : IMem} {T : SH}
    (h : ZoneOf zs (soaR o n)) (hz : ∀ r ∈ zs, ZOK o r) (hr : RightP zs o) (h0 : 0 ≤ n) (h1 : n < 4294967296) (hoz : OwnZ (.slice zp zs.length zc) zs ownz) (hcut : RowIn I0 [] cut ns.length 1 elI8 ns) (hcl : ns.length ≤ 9223372036854775807) (hns : ∀ x ∈ ns, 0 ≤ x ∧ x ≤ 255) (hi : CInv o n zs bt b12 ownz owna I0 rs rsn rsc false 0 J T 0) :
    bolterlaw11_TransferComes_b7 KT cut ns.length cutc o zp zs.length zc (some ⟨bt, 0, none⟩) ⟨b12, 0, none⟩ true rs rsn rsc false 0 J T := by
  have hal : (ansF (soaR o n) zs).length ≤ 258 := by
    have := hr.many
    have h2 : (zs.filter nS).length ≤ zs.length := List.length_filter_le _ _
    rw [ans_len]; omega
  have hal2 : 2 ≤ (ansF (soaR o n) zs).length := by rw [ans_len]; omega
  unfold bolterlaw11_TransferComes_b7
  refine ⟨fun m cu cun cuc o' z zn zc' t r ok rs rsn rsc ch k J T => cu = cut ∧ cun = ns.length ∧ o' = o ∧ z = zp ∧ zn = zs.length ∧ zc' = zc ∧ t = some ⟨bt, 0, none⟩ ∧ r = ⟨b12, 0, none⟩ ∧ ok = true ∧ ∃ p, m = (ansF (soaR o n) zs).length - p ∧ CInv o n zs bt b12 ownz owna I0 rs rsn rsc ch k J T p,
    (ansF (soaR o n) zs).length, ⟨rfl, rfl, rfl, rfl, rfl, rfl, rfl, rfl, rfl, 0, rfl, hi⟩, ?_⟩
  rintro m cu cun cuc o' z zn zc' t r ok rs rsn rsc ch k J T - ⟨rfl, rfl, rfl, rfl, rfl, rfl, rfl, rfl, rfl, p, rfl, hi⟩
  have hrn := hi.rn
  rw [List.length_drop] at hrn
  have hpl := hi.pl
  unfold bolterlaw11_TransferComes_l8
  refine bcase_dec (fun hg => ?_) (fun hg => ?_)
  · have hp : p < (ansF (soaR o' n) zs).length := by omega
    have step : ∀ q : Nat, 1 ≤ q → q ≤ rsn → 2 ≤ p + q → bolterlaw11_TransferComes_b12 (fun d1 d2 d3 d4 d5 d6 d7 d8 d9 d10 rs rsn rsc ch k J T => ∃ m', m' < (ansF (soaR o' n) zs).length - p ∧ (d1 = cu ∧ d2 = ns.length ∧ d4 = o' ∧ d5 = z ∧ d6 = zs.length ∧ d7 = zc' ∧ d8 = some ⟨bt, 0, none⟩ ∧ d9 = ⟨b12, 0, none⟩ ∧ d10 = true ∧ ∃ p, m' = (ansF (soaR o' n) zs).length - p ∧ CInv o' n zs bt b12 ownz owna I0 rs rsn rsc ch k J T p)) KT cu ns.length cuc o' z zs.length zc' (some ⟨bt, 0, none⟩) ⟨b12, 0, none⟩ true rs rsn rsc ch k (q : Int) J T := fun q hq1 hq hpq =>
      comes_step h hz hr h0 h1 hi hp hq1 hq hpq fun rs' rsn' rsc' ch' J' T' hc => ⟨(ansF (soaR o' n) zs).length - (p + q), by omega, rfl, rfl, rfl, rfl, rfl, rfl, rfl, rfl, rfl, p + q, rfl, hc⟩
    obtain ⟨j, rfl, hjp, hj0⟩ := hi.kk
    have part : ∀ q : Nat, 1 ≤ q → q ≤ rsn → bolterlaw11_TransferComes_b10 (fun d1 d2 d3 d4 d5 d6 d7 d8 d9 d10 rs rsn rsc ch k J T => ∃ m', m' < (ansF (soaR o' n) zs).length - p ∧ (d1 = cu ∧ d2 = ns.length ∧ d4 = o' ∧ d5 = z ∧ d6 = zs.length ∧ d7 = zc' ∧ d8 = some ⟨bt, 0, none⟩ ∧ d9 = ⟨b12, 0, none⟩ ∧ d10 = true ∧ ∃ p, m' = (ansF (soaR o' n) zs).length - p ∧ CInv o' n zs bt b12 ownz owna I0 rs rsn rsc ch k J T p)) KT cu ns.length cuc o' z zs.length zc' (some ⟨bt, 0, none⟩) ⟨b12, 0, none⟩ true rs rsn rsc ch (j : Int) (q : Int) J T := by
      intro q hq1 hq
      unfold bolterlaw11_TransferComes_b10 bolterlaw11_TransferComes_b11
      refine bcase_beq (fun hk => ?_) (fun hk => ?_)
      · have hp0 : p = 0 := hj0.1 (by omega)
        refine bcase_beq (fun hq' => ?_) (fun hq' => ?_)
        · exact step 2 (by decide) (by omega) (by omega)
        · exact step q hq1 hq (by omega)
      · have := hi.p2
        exact bcase_f rfl (step q hq1 hq (by omega))
    unfold bolterlaw11_TransferComes_b9
    refine bcase_dec (fun hc => ?_) (fun hc => part rsn (by omega) (Nat.le_refl _))
    obtain ⟨x, hx⟩ := get_lt (xs := ns) (k := j) (by omega)
    have hxb := hns x (List.mem_of_getElem? hx)
    obtain ⟨a', rfl, hcx⟩ := (hcut.keep (J := J) (T := T) ⟨hi.le, T, by simp⟩).cell hx
    have c0 := hcx 0 _ rfl
    have e0 : (a'.add (j * 1)).add 0 = a'.add (j * 1) := by simp [Addr.add]
    rw [e0] at c0
    refine ⟨by omega, by omega, x, c0, bcase_f (decide_eq_false (by omega)) ?_⟩
    have hmod : x.tmod (rsn : Int) = x % (rsn : Int) := Int.tmod_eq_emod_of_nonneg hxb.1
    have hm1 := Int.emod_nonneg x (show (rsn : Int) ≠ 0 by omega)
    have hm2 := Int.emod_lt_of_pos x (show (0 : Int) < (rsn : Int) by omega)
    rw [wrap_i64 (x := x) (by omega) (by omega), hmod, wrap_i64 (by omega) (by omega)]
    obtain ⟨q, hq⟩ : ∃ q : Nat, 1 + x % (rsn : Int) = (q : Int) := ⟨(1 + x % (rsn : Int)).toNat, by omega⟩
    rw [hq]
    exact part q (by omega) (by omega)
  · have hp : p = (ansF (soaR o' n) zs).length := by omega
    obtain ⟨ownt, hs, _, he⟩ := hi.st
    obtain ⟨rfl, ht⟩ := he hp
    exact comes_end h hr.many ht hoz hs
end Go.Proofs.YthlkeokfmedjhaaGreat
/- TransferComes: the row. -/
namespace Go.Proofs.YthlkeokfmedjhaaGreat
open Go.Px
set_option linter.unusedVariables false
set_option linter.unusedSimpArgs false

theorem snoc_ns {xs : List Rc} {k : Nat} {x : Rc} (h : xs[k]? = some x) : (xs.take (k + 1)).filter nS = (xs.take k).filter nS ++ (if isSoa x = true then [] else [x]) := by
  rw [filter_snoc nS h]
  unfold nS
  cases isSoa x <;> rfl
theorem comes_main {o : ByteArray} {n : Int} {zs : List Rc} {zp cut : Option Addr} {zc bt b12 b44 cutc : Nat} {ns : List Int} {ownz ownt : SH} {I0 J : IMem} {T : SH}
    (h : ZoneOf zs (soaR o n)) (hz : ∀ r ∈ zs, ZOK o r) (hr : RightP zs o) (h0 : 0 ≤ n) (h1 : n < 4294967296) (hoz : OwnZ (.slice zp zs.length zc) zs ownz) (hcut : RowIn I0 [] cut ns.length 1 elI8 ns) (hcl : ns.length ≤ 9223372036854775807) (hns : ∀ x ∈ ns, 0 ≤ x ∧ x ≤ 255)
    (hle : I0.le J) (ht : TrAt 52 bt (coming o 4 []) ownt) (hs : Sub (ownt ++ (ownz ++ [qB b12 q5])) T) :
    bolterlaw11_TransferComes_b1 KT cut ns.length cutc o zp zs.length zc (some ⟨bt, 0, none⟩) ⟨b12, 0, none⟩ true (some ⟨b44, 0, none⟩) 1 1 J (rB b44 (soaR o n) :: T) := by
  have hzl := hr.many
  unfold bolterlaw11_TransferComes_b1 bolterlaw11_TransferComes_b2
  refine ⟨fun m cu cun cuc o' z zn zc' t r ok rs rsn rsc x xn xc q i J' T' => cu = cut ∧ cun = ns.length ∧ o' = o ∧ z = zp ∧ zn = zs.length ∧ zc' = zc ∧ t = some ⟨bt, 0, none⟩ ∧ r = ⟨b12, 0, none⟩ ∧ ok = true ∧ x = zp ∧ xn = zs.length ∧ q = (zs.length : Int) ∧ I0.le J' ∧ ∃ (k : Nat) (own : SH), i = (k : Int) ∧ k ≤ zs.length ∧ m = zs.length - k ∧ OwnZ (.slice rs rsn rsc) (soaR o n :: (zs.take k).filter nS) own ∧ Sub (own ++ (ownt ++ (ownz ++ [qB b12 q5]))) T',
    zs.length, ⟨rfl, rfl, rfl, rfl, rfl, rfl, rfl, rfl, rfl, rfl, rfl, rfl, hle, 0, [rB b44 (soaR o n)], rfl, Nat.zero_le _, rfl, .inr ⟨b44, 1, [], rfl, rfl, rfl, by decide⟩, hs.cons _⟩, ?_⟩
  rintro m cu cun cuc o' z zn zc' t r ok rs rsn rsc x xn xc q i J' T' - ⟨rfl, rfl, rfl, rfl, rfl, rfl, rfl, rfl, rfl, rfl, rfl, rfl, hle', k, own, rfl, hk, rfl, ho, hsub⟩
  have hrow : RowIn J' T' x zs.length 4 encR zs := (hoz.row encR_len).sub hsub.right.right.left
  unfold bolterlaw11_TransferComes_l3
  refine bcase_dec (fun hg => ?_) (fun hg => ?_)
  · obtain ⟨y, hy⟩ := get_lt (xs := zs) (k := k) (by omega)
    obtain ⟨a', rfl, hc⟩ := hrow.cell hy
    obtain ⟨c0, c1, c2, c3⟩ := CellsR hc
    have e1 : IntKind.wrap .i64 ((k : Int) + 1) = ((k + 1 : Nat) : Int) := by rw [wrap_i64 (by omega) (by omega)]; rfl
    have hfl : ((zs.take k).filter nS).length ≤ k := Nat.le_trans (List.length_filter_le _ _) (by rw [List.length_take]; omega)
    unfold bolterlaw11_TransferComes_b4
    refine ⟨by omega, by omega, _, c0, _, c1, _, c2, _, c3, fun b16 => StP.rec (x := y) ⟨_, Cell.at0 rfl, bcase_bne (fun h6 => ?_) (fun h6 => ?_)⟩⟩
    · have hns' : ¬ isSoa y = true := by show ¬ (y.2.1 == 6) = true; simpa using h6
      refine ⟨_, Cell.at0 rfl, _, Cell.at0 rfl, _, Cell.at0 rfl, _, Cell.at0 rfl, fun b56 => AppZ (r := y) (F := ownt ++ (ownz ++ [qB b12 q5])) (hsub.skip _) ho (by rw [List.length_cons]; omega) ?_⟩
      intro p' n' d' own' T5 ho5 hs5
      refine ⟨zs.length - (k + 1), by omega, rfl, rfl, rfl, rfl, rfl, rfl, rfl, rfl, rfl, rfl, rfl, rfl, hle', k + 1, own', e1, by omega, rfl, ?_, hs5⟩
      rw [snoc_ns hy, if_neg hns']; exact ho5
    · have hns' : isSoa y = true := by show (y.2.1 == 6) = true; simpa using h6
      refine ⟨zs.length - (k + 1), by omega, rfl, rfl, rfl, rfl, rfl, rfl, rfl, rfl, rfl, rfl, rfl, rfl, hle', k + 1, own, e1, by omega, rfl, ?_, hsub.skip _⟩
      rw [snoc_ns hy, if_pos hns', List.append_nil]; exact ho
  · have hke : k = zs.length := by omega
    subst hke
    rw [List.take_length] at ho
    have hfl : (zs.filter nS).length ≤ zs.length := List.length_filter_le _ _
    have hol := ho.len
    have hrr : RowIn J' T' rs rsn 4 encR (soaR o' n :: zs.filter nS) := (ho.row encR_len).sub hsub.left
    obtain ⟨a', rfl, hc⟩ := hrr.cell (i := 0) (x := soaR o' n) rfl
    obtain ⟨c0, c1, c2, c3⟩ := CellsR hc
    unfold bolterlaw11_TransferComes_b5
    refine ⟨by decide, by rw [hol, List.length_cons]; omega, _, c0, _, c1, _, c2, _, c3, fun b63 => AppZ (r := soaR o' n) (F := ownt ++ (ownz ++ [qB b12 q5])) hsub ho (by rw [List.length_cons]; omega) ?_⟩
    intro p' n' d' own' T5 ho5 hs5
    have hans : soaR o' n :: zs.filter nS ++ [soaR o' n] = ansF (soaR o' n) zs := rfl
    rw [hans] at ho5
    have hol5 := ho5.len
    have hoc := OwnR.cap (by decide) ho5
    unfold bolterlaw11_TransferComes_b6
    refine comes_loop (I0 := I0) (owna := own') h hz hr h0 h1 hoz hcut hcl hns ⟨hle', Nat.zero_le _, hol5, ho5.row encR_len, by omega, ⟨0, rfl, Nat.le_refl _, ⟨fun _ => rfl, fun _ => rfl⟩⟩, fun h => by omega, ownt, ?_, fun _ => ⟨rfl, ht⟩, fun hl => by rw [ans_len] at hl; omega⟩
    exact hs5.re (by intro a; simp only [cnt_cons, cnt_app, cnt_nil]; omega)
theorem u32_of' {x : Int} (h : (Lit.int .u32 x).wf = true) : 0 ≤ x ∧ x ≤ 4294967295 := by
  simp only [Lit.wf, IntKind.min, IntKind.max, IntKind.bits, IntKind.signed] at h
  simp at h; omega
theorem TransferComes_row (W : World) (o : Int) (a1 : Option Addr) (l1 c1 : Nat) (n : Int) (a3 : Option Addr) (l3 c3 : Nat)
    (w0 : (Lit.int .u8 o).wf = true) (w1 : ActsW W a1 l1 c1) (z1 : l1 ≤ 140737488355328) (w2 : (Lit.int .u32 n).wf = true) (w3 : SlW W (a3, l3, c3)) (z3 : l3 ≤ 140737488355328) :
    Runs Tryz.prog 5 #[.int .u8 o, .slice a1 l1 c1, .int .u32 n, .slice a3 l3 c3] (imW W) [] fun v _ _ => v = .bool true := by
  obtain ⟨acts, rfl, hr1, hl1, hok1⟩ := acts_of w1
  obtain ⟨rs, hrs⟩ := recs_of hok1
  obtain ⟨_, _, ns, hsl, hwf⟩ := w3
  have hcut := RowIn.of_slin (I := imW W) (el := elI8) (fun x => by show 0 < 1; decide) hsl
  have hnl : l3 = ns.length := hsl.1.symm
  subst hnl
  have ho := u8_of w0
  have hn := u32_of' w2
  have hk : ∀ {J : IMem} {T : SH}, (imW W).le J → Keep (imW W) [] J T := fun {J T} h => ⟨h, T, by simp⟩
  refine bolterlaw11_TransferComes_fn _ _ _ _ _ _ _ _ _ _ _ ?_
  unfold bolterlaw11_TransferComes
  refine (awake11_runs _ _).mono ?_
  rintro v J1 T1 hle1 ⟨rfl, rfl⟩
  refine ⟨_, rfl, bcase_f rfl ((Origin_runs o ho.1 _ _).mono ?_)⟩
  rintro v J2 T2 hle2 ⟨rfl, rfl⟩
  have hosz := origN_size o
  have hon := origN_name o
  generalize origN o = org at hosz hon
  have hle02 := hle1.trans hle2
  refine ⟨_, rfl, (Zone_runs (most := 20) (o := org) (n := n) (rs := rs) (hr1.keep (hk hle02)) hl1 (by omega) (hrs.keep (hk hle02)) (by omega)).mono ?_⟩
  rintro v J3 T3 hle3 ⟨ownz, hoz, hs3⟩
  obtain ⟨zp, zc, rfl⟩ := hoz.slice
  have hzone := zone_of org n rs 20
  have hzok := ZOK.zone (most := 20) (n := n) hon hrs.num
  have hright := right_zone (n := n) (most := 20) hon hrs.num (by decide)
  generalize zoneF org n rs 20 = zs at hoz hzone hzok hright
  refine ⟨_, _, _, rfl, (TOf_runs _ _ _).mono ?_⟩
  rintro v J4 T4 hle4 ⟨bt, ownt, rfl, ht, hs4⟩
  have hs4' : Sub (ownt ++ ownz) T4 := ((Sub.refl ownt).both hs3.left).trans hs4
  have t1 : tickT (tr0 org) 0 5 = (coming org 4 [], (q5, true)) := by rfl
  refine ⟨_, rfl, (Tick_runs ht hs4' 0 5 (Nat.zero_le _) zsz).mono ?_⟩
  rintro v J5 T5 hle5 ⟨rfl, own5, ht5, hs5⟩
  rw [t1] at ht5 ⊢
  refine ⟨_, _, _, _, _, _, _, _, rfl, fun b12 => StP.all (vs := encQ q5) rfl rfl ?_⟩
  refine (SoaAt_runs _ _ _ _).mono ?_
  rintro v J6 T6 hle6 ⟨rfl, rfl⟩
  refine ⟨_, _, _, _, rfl, fun b44 => ?_⟩
  refine comes_main (I0 := imW W) hzone hzok hright hn.1 (by omega) hoz hcut (by omega) (fun x hx => u8_of (hwf x hx)) (((((hle02.trans hle3).trans hle4).trans hle5).trans hle6)) ht5 ?_
  exact (hs5.cons (qB b12 q5)).re (by intro a; simp only [cnt_cons, cnt_app, cnt_nil]; omega)
end Go.Proofs.YthlkeokfmedjhaaGreat
