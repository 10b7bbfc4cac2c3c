/- Records in order; the records of a name; the same records; ZoneAt. -/
import Derived.Test.YtdajglfbbcbgpaaDoorZs1
import Derived.Test.YtdajglfbbcbgpaaDoorT3
namespace Go.Proofs.YtdajglfbbcbgpaaDoor
open Go.Px
set_option linter.unusedVariables false

theorem OwnR.cap {α : Type} {el : α → List Value} {sz : Nat} (hsz : 0 < sz) {e : TypeId} {A : Option Addr} {n c : Nat} {xs : List α} {own : SH} (h : OwnR e sz el (.slice A n c) xs own) : xs.length ≤ c := by
  rcases h with ⟨hv, rfl, _⟩ | ⟨g, cap, rest, hv, _, hcap, _⟩
  · exact Nat.zero_le _
  · injection hv with h1 h2 h3
    subst h3
    have : xs.length * sz ≤ c * sz := by omega
    exact Nat.le_of_mul_le_mul_right this hsz
abbrev ltR (r x : Rc) : Bool := decide (cmpR x r < 0)
def hasR (out : List Rc) (k : Nat) (r : Rc) : Bool := match out[k]? with
  | some x => ((x.1 : ByteArray) == (r.1 : ByteArray)) && (((x.2.1 : Int) == (r.2.1 : Int)) && (((x.2.2.1 : Int) == (r.2.2.1 : Int)) && (((x.2.2.2 : ByteArray) == (r.2.2.2 : ByteArray)) && true)))
  | none => false
theorem hasR_iff {out : List Rc} {k : Nat} {r : Rc} : hasR out k r = true ↔ out[k]? = some r := by
  unfold hasR
  split
  · rename_i x hx
    rw [hx, recEq]; simp
  · rename_i hx; rw [hx]; simp
def atR (out : List Rc) (r : Rc) : Nat := (out.takeWhile (ltR r)).length
def insR (out : List Rc) (r : Rc) : List Rc := if hasR out (atR out r) r then out else out.take (atR out r) ++ r :: out.drop (atR out r)
def sortR (rs : List Rc) : List Rc := rs.foldl insR []
theorem atR_le (out : List Rc) (r : Rc) : atR out r ≤ out.length := (List.takeWhile_prefix _).length_le
theorem tw_lt {out : List Rc} {r x : Rc} {p : Rc → Bool} : ∀ {out : List Rc} {j : Nat}, j < (out.takeWhile p).length → out[j]? = some x → p x = true
  | [], j, h, _ => by simp at h
  | y :: out, j, h, hx => by
    rw [List.takeWhile_cons] at h
    split at h
    · rename_i hy
      cases j with
      | zero => simp at hx; rw [← hx]; exact hy
      | succ j => exact tw_lt (out := out) (j := j) (r := r) (by simpa using h) (by simpa using hx)
    · simp at h
theorem tw_at {p : Rc → Bool} : ∀ {out : List Rc} {x : Rc}, out[(out.takeWhile p).length]? = some x → p x = false
  | [], x, h => by simp at h
  | y :: out, x, h => by
    rw [List.takeWhile_cons] at h
    split at h
    · exact tw_at (by simpa using h)
    · rename_i hy
      simp at h; rw [← h]; simpa using hy
theorem insR_length (out : List Rc) (r : Rc) : (insR out r).length ≤ out.length + 1 := by
  unfold insR
  split
  · omega
  · have := atR_le out r
    rw [List.length_append, List.length_take, List.length_cons, List.length_drop]; omega
theorem insR_mem {out : List Rc} {r x : Rc} (h : x ∈ insR out r) : x ∈ out ∨ x = r := by
  unfold insR at h
  split at h
  · exact .inl h
  · rcases List.mem_append.1 h with h | h
    · exact .inl (List.mem_of_mem_take h)
    · rcases List.mem_cons.1 h with h | h
      · exact .inr h
      · exact .inl (List.mem_of_mem_drop h)
theorem sort_snoc {rs : List Rc} {k : Nat} {r : Rc} (h : rs[k]? = some r) : (rs.take (k + 1)).foldl insR [] = insR ((rs.take k).foldl insR []) r := by
  rw [take_snoc h, List.foldl_append]; rfl
theorem foldl_mem : ∀ (rs out : List Rc) (x : Rc), x ∈ rs.foldl insR out → x ∈ out ∨ x ∈ rs
  | [], out, x, h => .inl h
  | r :: rs, out, x, h => by
    rcases foldl_mem rs _ x h with h | h
    · rcases insR_mem h with h | h
      · exact .inl h
      · exact .inr (by rw [h]; exact List.mem_cons_self ..)
    · exact .inr (List.mem_cons_of_mem _ h)
theorem foldl_len : ∀ (rs out : List Rc), (rs.foldl insR out).length ≤ out.length + rs.length
  | [], out => by simp
  | r :: rs, out => by
    have h1 := foldl_len rs (insR out r)
    have h2 := insR_length out r
    simp only [List.foldl_cons, List.length_cons]; omega
theorem sortR_len (rs : List Rc) : (sortR rs).length ≤ rs.length := by have := foldl_len rs []; simpa [sortR] using this
theorem sortR_mem {rs : List Rc} {x : Rc} (h : x ∈ sortR rs) : x ∈ rs := by
  rcases foldl_mem rs [] x h with h | h
  · cases h
  · exact h

theorem Sorted_runs {rs : List Rc} {a : Option Addr} {c : Nat} {I : IMem} {S : SH} (hx : RowIn I S a rs.length 4 encR rs) (hl : rs.length ≤ 1000000) :
    Runs Tryd.prog 11 #[.slice a rs.length c] I S fun v _ T => ∃ own, OwnZ v (sortR rs) own ∧ Sub (own ++ S) T := by
  refine bolterlaw08_Sorted_fn _ _ _ _ _ _ ?_
  unfold bolterlaw08_Sorted bolterlaw08_Sorted_b1 bolterlaw08_Sorted_b2
  refine ⟨fun m o on oc x xn xc q i J T => x = a ∧ xn = rs.length ∧ q = (rs.length : Int) ∧ I.le J ∧ ∃ (k : Nat) (own : SH), i = (k : Int) ∧ k ≤ rs.length ∧ m = rs.length - k ∧ OwnZ (.slice o on oc) ((rs.take k).foldl insR []) own ∧ Sub (own ++ S) T,
    rs.length, ⟨rfl, rfl, rfl, IMem.le.refl I, 0, [], rfl, Nat.zero_le _, rfl, OwnR.nil, Sub.refl _⟩, ?_⟩
  rintro m o on oc x xn xc q i J T - ⟨rfl, rfl, rfl, hle, k, own, rfl, hk, rfl, ho, hs⟩
  unfold bolterlaw08_Sorted_l3 bolterlaw08_Sorted_b4 bolterlaw08_Sorted_b5 bolterlaw08_Sorted_b14
  refine bcase_dec (fun h => ?_) (fun h => ?_)
  · obtain ⟨r, hrk⟩ := get_lt (xs := rs) (k := k) (by omega)
    obtain ⟨a', rfl, hc⟩ := ((hx.sub hs.right).le hle).cell hrk
    obtain ⟨c0, c1, c2, c3⟩ := CellsR hc
    have hsn := sort_snoc hrk
    have hzl : ((rs.take k).foldl insR []).length ≤ k := by
      have := foldl_len (rs.take k) []
      rw [List.length_take] at this
      simp only [List.length_nil] at this; omega
    generalize (rs.take k).foldl insR [] = zs at ho hsn hzl
    have hon := ho.len
    subst hon
    have hcap := OwnR.cap (by omega) ho
    refine ⟨by omega, by omega, _, c0, _, c1, _, c2, _, c3, fun b5 => StP.rec ?_⟩
    have hs5 : Sub (own ++ S) ((b5, Obj.cells (encR r).toArray 36 (0, 0)) :: T) := hs.skip _
    generalize hT5 : ((b5, Obj.cells (encR r).toArray 36 (0, 0)) :: T) = T5 at hs5
    have hcr : ∀ (J' : IMem) {j : Nat} {v : Value}, (encR r)[j]? = some v → Cell J' T5 ⟨b5, j, none⟩ v := fun J' j v hj => by
      rw [← hT5]; exact Cell.at0 (by rw [List.getElem?_toArray]; exact hj)
    have hzr : ∀ J', RowIn J' T5 o zs.length 4 encR zs := fun J' => (ho.row encR_len (I := J')).sub hs5.left
    have hle5 : I.le J := hle
    refine ⟨fun m o' on' oc' r' at_ x' xn' xc' q' i' J' T' => o' = o ∧ on' = zs.length ∧ oc' = oc ∧ r' = ⟨b5, 0, none⟩ ∧ x' = some a' ∧ xn' = rs.length ∧ q' = (rs.length : Int) ∧ i' = (k : Int) ∧ J.le J' ∧ T' = T5 ∧ ∃ j : Nat, at_ = (j : Int) ∧ j ≤ atR zs r ∧ m = zs.length - j,
      zs.length, ⟨rfl, rfl, rfl, rfl, rfl, rfl, rfl, rfl, IMem.le.refl J, rfl, 0, rfl, Nat.zero_le _, rfl⟩, ?_⟩
    rintro m o' on' oc' r' at_ x' xn' xc' q' i' J' T' - ⟨rfl, rfl, rfl, rfl, rfl, rfl, rfl, rfl, hle', rfl, j, rfl, hj, rfl⟩
    unfold bolterlaw08_Sorted_l6 bolterlaw08_Sorted_b7 bolterlaw08_Sorted_b8
    have hle2 := atR_le zs r
    have stop : j = atR zs r → bolterlaw08_Sorted_b9 (fun out_3 out_3n out_3c x9 x9n x9c x10 x11 I_1 S_1 => ∃ m', m' < rs.length - k ∧ (x9 = some a' ∧ x9n = rs.length ∧ x10 = (rs.length : Int) ∧ I.le I_1 ∧ ∃ (k : Nat) (own : SH), x11 = (k : Int) ∧ k ≤ rs.length ∧ m' = rs.length - k ∧ OwnZ (.slice out_3 out_3n out_3c) ((rs.take k).foldl insR []) own ∧ Sub (own ++ S) S_1))
        (fun v _ T => ∃ own, OwnZ v (sortR rs) own ∧ Sub (own ++ S) T) o' zs.length oc' ⟨b5, 0, none⟩ (j : Int) (some a') rs.length xc' (rs.length : Int) (k : Int) J' T' := by
      intro hjk
      have hnext : IntKind.wrap .i64 ((k : Int) + 1) = ((k + 1 : Nat) : Int) := by rw [wrap_i64 (by omega) (by omega)]; rfl
      have key : ∀ is : Bool, is = hasR zs j r → bolterlaw08_Sorted_b10 (fun out_3 out_3n out_3c x9 x9n x9c x10 x11 I_1 S_1 => ∃ m', m' < rs.length - k ∧ (x9 = some a' ∧ x9n = rs.length ∧ x10 = (rs.length : Int) ∧ I.le I_1 ∧ ∃ (k : Nat) (own : SH), x11 = (k : Int) ∧ k ≤ rs.length ∧ m' = rs.length - k ∧ OwnZ (.slice out_3 out_3n out_3c) ((rs.take k).foldl insR []) own ∧ Sub (own ++ S) S_1))
          (fun v _ T => ∃ own, OwnZ v (sortR rs) own ∧ Sub (own ++ S) T) o' zs.length oc' ⟨b5, 0, none⟩ (j : Int) is (some a') rs.length xc' (rs.length : Int) (k : Int) J' T' := by
        intro is his
        unfold bolterlaw08_Sorted_b10 bolterlaw08_Sorted_b11 bolterlaw08_Sorted_b12 bolterlaw08_Sorted_b13
        simp only [slA_zero, Nat.sub_zero, Int.toNat_natCast]
        refine bcase_of (fun hn => ?_) (fun hn => ?_)
        · have hnot : hasR zs (atR zs r) r = false := by rw [← hjk, ← his]; simpa using hn
          have hins : insR zs r = zs.take j ++ r :: zs.drop j := by rw [insR, hnot, hjk]; rfl
          refine ⟨by omega, by omega, ?_⟩
          have htl : (zs.take j).length = j := by rw [List.length_take]; omega
          have hdl : (zs.drop j).length = zs.length - j := List.length_drop
          refine AppG.own (xs := ([] : List Rc)) (ys := zs.take j) (el := encR) (own := []) (F := T') encR_len encR_one rfl (List.Perm.refl _) OwnR.nil ⟨?_, flatMap_one encR_one _⟩ ?_ ?_ ?_
          · rw [htl]; exact RowIn.rd encR_len (by omega) ((hzr J').take (by omega))
          · rw [htl]; simp only [List.length_nil, maxLen]; omega
          · rw [htl]; simp only [List.length_nil]; omega
          · intro p1 n1 d1 own1 ho1
            rw [List.nil_append] at ho1
            have hcr1 : ∀ {o : Nat} {v : Value}, (encR r)[o]? = some v → Cell J' (own1 ++ T') ⟨b5, o, none⟩ v := fun hj => Sub.cell (Sub.right (Sub.refl (own1 ++ T'))) (IMem.le.refl _) (hcr J' hj)
            refine ⟨_, hcr1 rfl, _, hcr1 rfl, _, hcr1 rfl, _, hcr1 rfl, by omega, by omega, fun b50 => ?_⟩
            refine AppG.own (xs := zs.take j) (ys := [r]) (el := encR) (own := own1) (F := (b50, .cells (encR r).toArray 36 (0, 0)) :: T') encR_len encR_one rfl perm_mid1 ho1 ⟨?_, rfl⟩ ?_ ?_ ?_
            · exact Rd.list (L := encR r) rfl (by simp [encR_len])
            · rw [htl]; simp only [List.length_singleton, maxLen]; omega
            · rw [htl]; simp only [List.length_singleton]; omega
            · intro p2 n2 d2 own2 ho2
              refine AppG.own (xs := zs.take j ++ [r]) (ys := zs.drop j) (el := encR) (own := own2) (F := (b50, .cells (encR r).toArray 36 (0, 0)) :: T') encR_len encR_one rfl (List.Perm.refl _) ho2 ⟨?_, flatMap_one encR_one _⟩ ?_ ?_ ?_
              · rw [hdl]
                exact RowIn.rd encR_len (by omega) (((hzr J').drop (by omega) hcap).sub (((Sub.refl T').skip _).trans (Sub.right (Sub.refl _))))
              · rw [List.length_append, htl, hdl]; simp only [List.length_singleton, maxLen]; omega
              · rw [List.length_append, htl, hdl]; simp only [List.length_singleton]; omega
              · intro p3 n3 d3 own3 ho3
                refine ⟨rs.length - (k + 1), by omega, (by first | rfl | trivial), (by first | rfl | trivial), (by first | rfl | trivial), hle.trans hle', k + 1, own3, hnext, by omega, rfl, ?_, ?_⟩
                · rw [hsn, hins]
                  simpa using ho3
                · obtain ⟨G, hG⟩ := hs5.right
                  exact ⟨(b50, Obj.cells (encR r).toArray 36 (0, 0)) :: G, by
                    rw [List.append_assoc]
                    refine List.Perm.append_left own3 ?_
                    exact (hG.cons _).trans perm_mid1⟩
        · have hyes : hasR zs (atR zs r) r = true := by rw [← hjk, ← his]; simpa using hn
          have hins : insR zs r = zs := by rw [insR, hyes]; rfl
          refine ⟨rs.length - (k + 1), by omega, (by first | rfl | trivial), (by first | rfl | trivial), (by first | rfl | trivial), hle.trans hle', k + 1, own, hnext, by omega, rfl, ?_, hs5⟩
          rw [hsn, hins]; exact ho
      unfold bolterlaw08_Sorted_b9
      refine bcase_dec (fun hjl => ?_) (fun hjl => ?_)
      · obtain ⟨y, hy⟩ := get_lt (xs := zs) (k := j) (by omega)
        obtain ⟨a2, rfl, hc2⟩ := (hzr J').cell hy
        obtain ⟨e0, e1, e2, e3⟩ := CellsR hc2
        refine ⟨by omega, by omega, _, e0, _, e1, _, e2, _, e3, _, hcr J' rfl, _, hcr J' rfl, _, hcr J' rfl, _, hcr J' rfl, key _ ?_⟩
        unfold hasR; rw [hy]
      · refine key _ ?_
        unfold hasR; rw [List.getElem?_eq_none (by omega)]
    refine bcase_dec (fun hjl => ?_) (fun hjl => ?_)
    · obtain ⟨y, hy⟩ := get_lt (xs := zs) (k := j) (by omega)
      obtain ⟨a2, rfl, hc2⟩ := (hzr J').cell hy
      obtain ⟨e0, e1, e2, e3⟩ := CellsR hc2
      refine ⟨by omega, by omega, _, e0, _, e1, _, e2, _, e3, _, hcr J' rfl, _, hcr J' rfl, _, hcr J' rfl, _, hcr J' rfl, _, compare_runs y r _ _, ?_⟩
      refine bcase_dec (fun hlt => ?_) (fun hlt => ?_)
      · have hja : j < atR zs r := by
          rcases Nat.lt_or_ge j (atR zs r) with g | g
          · exact g
          · have hje : j = atR zs r := by omega
            rw [hje] at hy
            have := tw_at (p := ltR r) hy
            rw [ltR, decide_eq_false_iff_not] at this
            exact absurd hlt this
        refine ⟨zs.length - (j + 1), by omega, rfl, rfl, rfl, rfl, rfl, rfl, rfl, rfl, hle', rfl, j + 1, ?_, by omega, rfl⟩
        rw [wrap_i64 (by omega) (by omega)]; rfl
      · refine stop ?_
        rcases Nat.lt_or_ge j (atR zs r) with g | g
        · have := tw_lt (r := r) (out := zs) g hy
          rw [ltR, decide_eq_true_eq] at this
          exact absurd this hlt
        · omega
    · exact bcase_f rfl (stop (by omega))
  · have : k = rs.length := by omega
    subst this
    rw [List.take_length] at ho
    exact ⟨own, ho, hs⟩

theorem Same_runs {xs ys : List Rc} {a b : Option Addr} {ca cb : Nat} {I : IMem} {S : SH} (hx : RowIn I S a xs.length 4 encR xs) (hy : RowIn I S b ys.length 4 encR ys) (hl : xs.length ≤ 9223372036854775807) :
    Runs Tryd.prog 16 #[.slice a xs.length ca, .slice b ys.length cb] I S fun v _ T => (∃ f : Bool, v = .bool f ∧ (f = true ↔ xs = ys)) ∧ T = S := by
  refine bolterlaw05_SameRecords_fn _ _ _ _ _ _ _ _ _ ?_
  unfold bolterlaw05_SameRecords bolterlaw05_SameRecords_b1 bolterlaw05_SameRecords_b2
  refine bcase_bne (fun h => ⟨⟨false, rfl, ?_⟩, rfl⟩) (fun h => ?_)
  · constructor
    · intro e; cases e
    · intro e; rw [e] at h; exact absurd rfl h
  · have hlen : xs.length = ys.length := by omega
    refine ⟨fun m a' an ac b' bn bc q i J T => a' = a ∧ an = xs.length ∧ b' = b ∧ bn = ys.length ∧ q = (xs.length : Int) ∧ I.le J ∧ T = S ∧ ∃ k : Nat, i = (k : Int) ∧ k ≤ xs.length ∧ m = xs.length - k ∧ xs.take k = ys.take k,
      xs.length, ⟨rfl, rfl, rfl, rfl, rfl, IMem.le.refl I, rfl, 0, rfl, Nat.zero_le _, rfl, rfl⟩, ?_⟩
    rintro m a' an ac b' bn bc q i J T - ⟨rfl, rfl, rfl, rfl, rfl, hle, rfl, k, rfl, hk, rfl, ht⟩
    unfold bolterlaw05_SameRecords_l3 bolterlaw05_SameRecords_b4 bolterlaw05_SameRecords_b5 bolterlaw05_SameRecords_b6 bolterlaw05_SameRecords_b7 bolterlaw05_SameRecords_b8
    refine bcase_dec (fun h => ?_) (fun h => ⟨⟨true, rfl, ?_⟩, rfl⟩)
    · obtain ⟨x, hxk⟩ := get_lt (xs := xs) (k := k) (by omega)
      obtain ⟨y, hyk⟩ := get_lt (xs := ys) (k := k) (by omega)
      obtain ⟨a1, rfl, hc⟩ := (hx.le hle).cell hxk
      obtain ⟨a2, rfl, hd⟩ := (hy.le hle).cell hyk
      obtain ⟨c0, c1, c2, c3⟩ := CellsR hc
      obtain ⟨d0, d1, d2, d3⟩ := CellsR hd
      refine ⟨by omega, by omega, _, c0, _, c1, _, c2, _, c3, by omega, by omega, _, d0, _, d1, _, d2, _, d3, bcase_not (bcase_of (fun g => ?_) (fun g => ⟨⟨false, rfl, ?_⟩, rfl⟩))⟩
      · have := recEq.1 g
        subst this
        refine ⟨xs.length - (k + 1), by omega, rfl, rfl, rfl, rfl, rfl, hle, rfl, k + 1, ?_, by omega, rfl, ?_⟩
        · rw [wrap_i64 (by omega) (by omega)]; rfl
        · rw [take_snoc hxk, take_snoc hyk, ht]
      · constructor
        · intro e; cases e
        · intro e
          rw [e, hyk] at hxk
          injection hxk with hxk
          rw [recEq.2 hxk.symm] at g; cases g
    · have : k = xs.length := by omega
      subst this
      rw [List.take_length, hlen, List.take_length] at ht
      exact ⟨fun _ => ht, fun _ => rfl⟩

def ofN (n : ByteArray) (r : Rc) : Bool := r.1.toList == n.toList
theorem filter_snoc {xs : List Rc} {k : Nat} {x : Rc} (p : Rc → Bool) (h : xs[k]? = some x) : (xs.take (k + 1)).filter p = (xs.take k).filter p ++ (if p x then [x] else []) := by
  rw [take_snoc h, List.filter_append]
  congr 1
  cases hp : p x <;> simp [List.filter, hp]
theorem sizeR_small : ∀ {xs : List Rc}, (∀ r ∈ xs, SmallR r) → sizeR xs ≤ xs.length * 900
  | [], _ => by simp [sizeR]
  | x :: xs, h => by
    have h1 := sizeR_small (xs := xs) (fun r hr => h r (List.mem_cons_of_mem _ hr))
    have h2 := h x (List.mem_cons_self ..)
    have h3 : sizeR (x :: xs) = szR x + sizeR xs := by simp [sizeR]
    have h4 : szR x = 10 + x.1.size + x.2.2.2.size := rfl
    have := h2.nm; have := h2.dt
    rw [h3, List.length_cons, Nat.succ_mul]; omega
theorem nil_slb {I : IMem} {S : SH} : Slb I S (none, 0, 0) [] := ⟨⟨rfl, fun i x h => by simp at h⟩, rfl, by simp, fun y h => by cases h⟩

end Go.Proofs.YtdajglfbbcbgpaaDoor
