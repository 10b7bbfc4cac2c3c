/- Deletion out of a row of one's own, and out of a zone. -/
import Derived.Test.YtdajglfbbcbgpaaDoorZp1
namespace Go.Proofs.YtdajglfbbcbgpaaDoor
open Go.Px
set_option linter.unusedVariables false

theorem Delete_runs {xs : List Rc} {i : Nat} {own : SH} {a : Option Addr} {n c : Nat} (hv : OwnZ (.slice a n c) xs own) (hi : i < xs.length) (hl : (xs.length + 1) * 40 ≤ 140737488355328) (I : IMem) (F : SH) :
    Runs Tryd.prog 37 #[.slice a n c, .int .i64 (i : Int), .int .i64 ((i + 1 : Nat) : Int)] I (own ++ F) fun v _ T => ∃ own', OwnZ v (xs.take i ++ xs.drop (i + 1)) own' ∧ Sub (own' ++ F) T := by
  refine slices_Delete_api_Record_fn _ _ _ _ _ _ _ _ ?_
  unfold slices_Delete_api_Record slices_Delete_api_Record_b1 slices_Delete_api_Record_b2
  have hn := hv.len
  subst hn
  have hcap := OwnR.cap (by omega) hv
  rcases hv with ⟨hv, rfl, rfl⟩ | ⟨g, cap, rest, hv, rfl, hcp, hcm⟩
  · simp at hi
  · injection hv with h1 h2 h3
    subst h1; subst h3
    simp only [slA_zero, Nat.sub_zero, Int.toNat_natCast]
    have hA : ((xs.take i).flatMap encR).length = i * 4 := by rw [flatMap_len encR_len, List.length_take]; congr 1; omega
    have hB : ((xs.drop (i + 1)).flatMap encR).length = (xs.length - (i + 1)) * 4 := by rw [flatMap_len encR_len, List.length_drop]
    obtain ⟨x, hx⟩ := get_lt hi
    have hsplit : xs.flatMap encR = (xs.take i).flatMap encR ++ (encR x ++ (xs.drop (i + 1)).flatMap encR) := by
      conv => lhs; rw [← List.take_append_drop i xs]
      rw [List.flatMap_append]
      congr 1
      rw [List.drop_eq_getElem_cons hi, List.flatMap_cons]
      rw [List.getElem?_eq_getElem hi] at hx
      injection hx with hx; rw [hx]
    generalize hAe : (xs.take i).flatMap encR = A at hA hsplit
    generalize hBe : (xs.drop (i + 1)).flatMap encR = B at hB hsplit
    have hAB : (A ++ B).length = (xs.length - 1) * 4 := by rw [List.length_append, hA, hB]; omega
    have e1 : slA (some ⟨g, 0, none⟩) c (i + 1) 4 = if c = i + 1 then some ⟨g, 0, none⟩ else some ⟨g, (i + 1) * 4, none⟩ := by
      unfold slA; split
      · rfl
      · show some ((⟨g, 0, none⟩ : Addr).add _) = _; rw [add_mk, Nat.zero_add]
    have m1 : i + (xs.length - (i + 1)) = xs.length - 1 := by omega
    rw [hsplit]
    have hLL : (A ++ (encR x ++ B) ++ rest).length = c * 4 := by rw [List.length_append, ← hsplit, flatMap_len encR_len]; omega
    refine ⟨by omega, by omega, by omega, by omega, by omega, by omega, bcase_beq (fun h => by omega) (fun _ => ⟨by omega, by omega, by omega, by omega, ?_⟩)⟩
    refine ⟨_, [], _, some ⟨g, 0, none⟩, i, c, xs.length - (i + 1), [], B, List.Perm.refl _, List.Perm.refl _, rfl, ⟨?_, by rw [← hBe]; exact flatMap_one encR_one _⟩, ?_, ?_, fun _ => .inr ⟨_, rfl, ?_⟩, fun h => by omega⟩
    · rw [e1]
      split
      · have : B = [] := List.eq_nil_of_length_eq_zero (by rw [hB]; omega)
        have h0 : xs.length - (i + 1) = 0 := by omega
        rw [this, h0]; exact Rd.none
      · refine Rd.list (L := A ++ (encR x ++ B) ++ rest) ?_ ?_
        · rw [List.append_assoc, show (i + 1) * 4 = i * 4 + 4 by omega, ← List.drop_drop, drop_at hA, List.append_assoc, drop_at (encR_len x), take_at hB]
        · rw [hLL]; omega
    · simp only [maxLen]; omega
    · omega
    · rw [add_mk, Nat.zero_add]
      refine StP.list (L := A ++ (encR x ++ B) ++ rest) (by rw [hLL, hB]; omega) (by rw [← hBe]; exact flatMap_one encR_one _) ?_
      have t1 : (A ++ (encR x ++ B) ++ rest).take (i * 4) = A := by rw [List.append_assoc, take_at hA]
      have t2 : ∃ y, ((A ++ (encR x ++ B) ++ rest).drop (i * 4 + B.length)) = y ++ rest ∧ y.length = 4 := by
        refine ⟨(encR x ++ B).drop B.length, ?_, by rw [List.length_drop, List.length_append, encR_len]; omega⟩
        rw [List.append_assoc, ← List.drop_drop, drop_at hA, List.drop_append_of_le_length (by rw [List.length_append]; omega)]
      obtain ⟨y, t2, hy⟩ := t2
      rw [t1, t2]
      rw [m1]
      have e2 : slA (some ⟨g, 0, none⟩) c (xs.length - 1) 4 = some ⟨g, (xs.length - 1) * 4, none⟩ := by
        unfold slA; rw [if_neg (by omega)]; show some ((⟨g, 0, none⟩ : Addr).add _) = _; rw [add_mk, Nat.zero_add]
      dsimp only
      rw [e2]
      have m2 : xs.length - (xs.length - 1) = 1 := by omega
      rw [m2]
      refine ⟨by omega, by omega, by omega, by omega, .inr ⟨_, rfl, by omega, StP.list (L := A ++ B ++ (y ++ rest)) ?_ rfl ?_⟩⟩
      · rw [List.length_append, hAB, List.length_append, hy]
        show _ + 4 ≤ _
        omega
      · rw [take_at hAB]
        have t3 : (A ++ B ++ (y ++ rest)).drop ((xs.length - 1) * 4 + (repV 1 zR).length) = rest := by
          rw [← List.drop_drop, drop_at hAB]; exact drop_at hy
        rw [t3]
        have hlen : (xs.take i ++ xs.drop (i + 1)).length = xs.length - 1 := by rw [List.length_append, List.length_take, List.length_drop]; omega
        refine ⟨[_], .inr ⟨g, c, repV 1 zR ++ rest, by rw [hlen], ?_, ?_, hcm⟩, ⟨[], by rw [List.append_nil]; exact List.Perm.refl _⟩⟩
        · rw [List.flatMap_append, hAe, hBe, List.append_assoc (A ++ B)]
        · rw [hlen, List.length_append]
          show (xs.length - 1) * 4 + (4 + rest.length) = c * 4
          omega
theorem ZDelete_runs {xs : List Rc} {a : Option Addr} {c : Nat} {r : Rc} {I : IMem} {S : SH} (hx : RowIn I S a xs.length 4 encR xs) (hl : (xs.length + 1) * 40 ≤ 140737488355328) (hm : Mono xs r) :
    Runs Tryd.prog 17 #[.slice a xs.length c, vR r] I S fun v _ T => ∃ k, Below xs r k ∧ ((xs[k]? ≠ some r ∧ v = .tuple #[.slice none 0 0, .iface 43 (.int .i64 6)] ∧ Sub S T) ∨
      (xs[k]? = some r ∧ ∃ p n d own', v = .tuple #[.slice p n d, .nilIface] ∧ OwnZ (.slice p n d) (xs.take k ++ xs.drop (k + 1)) own' ∧ Sub (own' ++ S) T)) := by
  refine zone_Delete_fn _ _ _ _ _ _ _ _ _ _ ?_
  unfold zone_Delete
  intro b3
  refine ⟨_, Cell.at0 rfl, _, Cell.at0 rfl, _, Cell.at0 rfl, _, Cell.at0 rfl, ?_⟩
  have hsk : Sub S ((b3, Obj.cells #[.string r.1, .int .u16 r.2.1, .int .u32 r.2.2.1, .string r.2.2.2] 36 (0, 0)) :: S) := (Sub.refl S).skip _
  refine (Search_runs (r := r) (hx.sub hsk) (by omega) hm).mono ?_
  rintro v J T hle ⟨⟨k, f, rfl, hb, hf⟩, rfl⟩
  refine ⟨_, _, rfl, bcase_not (bcase_of (fun h => ?_) (fun h => ⟨k, hb, .inl ⟨fun e => (by rw [hf.2 e] at h; cases h), rfl, hsk⟩⟩))⟩
  have hk := hf.1 h
  have hlt := lt_get hk
  refine (Clone_runs ((hx.sub hsk).le hle) (by omega)).mono ?_
  rintro v J' T' hle' ⟨own1, ho, hsub⟩
  obtain ⟨p, c', rfl⟩ := ho.slice
  have e : IntKind.wrap .i64 ((k : Int) + 1) = ((k + 1 : Nat) : Int) := by rw [wrap_i64 (by omega) (by omega)]; rfl
  rw [e]
  refine ⟨_, _, _, rfl, Runs.use hsub (Delete_runs ho hlt hl J' _) ?_⟩
  rintro v J'' T'' hle'' ⟨own', ho', hs'⟩
  obtain ⟨p', d, rfl⟩ := ho'.slice
  refine ⟨_, _, _, rfl, k, hb, .inr ⟨hk, _, _, _, own', rfl, ho', ?_⟩⟩
  refine Sub.trans ?_ hs'
  exact ⟨[(b3, Obj.cells #[.string r.1, .int .u16 r.2.1, .int .u32 r.2.2.1, .string r.2.2.2] 36 (0, 0))], by
    rw [List.append_assoc]
    exact List.Perm.append_left own' (List.perm_append_comm (l₁ := [_]))⟩
/-- an error's number, or none -/
def errN : Option Int → Value
  | none => .nilIface
  | some n => .iface 43 (.int .i64 n)
theorem ZIns_runs {zs : List Rc} {a : Option Addr} {c : Nat} {r : Rc} {I : IMem} {S : SH} (hx : RowIn I S a zs.length 4 encR zs) (hl : (zs.length + 1) * 40 ≤ 140737488355328) (hz : SS zs) :
    Runs Tryd.prog 13 #[.slice a zs.length c, vR r] I S fun v _ T => ∃ (ok : Bool) (ixs : List Rc) (own : SH) (p : Option Addr) (n d : Nat), v = .tuple #[.slice p n d, errN (if ok then none else some 7)] ∧ OwnZ (.slice p n d) ixs own ∧ Sub (own ++ S) T ∧
      (ok = true ↔ r ∉ zs) ∧ (ok = true → SS ixs ∧ ∀ x, x ∈ ixs ↔ x ∈ zs ∨ x = r) ∧ (ok = false → ixs = []) ∧ ixs.length ≤ zs.length + 1 := by
  refine (ZInsert_runs hx hl (hz.mono r)).mono ?_
  rintro v J T hle ⟨k, hb, h⟩
  have hm := mem_at hz hb
  rcases h with ⟨h, rfl, hs⟩ | ⟨h, p, n, d, own, rfl, ho, hs⟩
  · exact ⟨false, [], [], none, 0, 0, rfl, OwnR.nil, hs, ⟨fun e => (by cases e), fun e => absurd (hm.2 h) e⟩, fun e => (by cases e), fun _ => rfl, Nat.zero_le _⟩
  · refine ⟨true, _, own, p, n, d, rfl, ho, hs, ⟨fun _ e => h (hm.1 e), fun _ => rfl⟩, fun _ => ⟨ins_SS hz hb h, fun x => mem_split⟩, fun e => (by cases e), ?_⟩
    have := hb.1
    rw [List.length_append, List.length_take, List.length_cons, List.length_drop]; omega
theorem ZDel_runs {zs : List Rc} {a : Option Addr} {c : Nat} {r : Rc} {I : IMem} {S : SH} (hx : RowIn I S a zs.length 4 encR zs) (hl : (zs.length + 1) * 40 ≤ 140737488355328) (hz : SS zs) :
    Runs Tryd.prog 17 #[.slice a zs.length c, vR r] I S fun v _ T => ∃ (ok : Bool) (ixs : List Rc) (own : SH) (p : Option Addr) (n d : Nat), v = .tuple #[.slice p n d, errN (if ok then none else some 6)] ∧ OwnZ (.slice p n d) ixs own ∧ Sub (own ++ S) T ∧
      (ok = true ↔ r ∈ zs) ∧ (ok = true → ixs = without zs r) ∧ (ok = false → ixs = []) := by
  refine (ZDelete_runs hx hl (hz.mono r)).mono ?_
  rintro v J T hle ⟨k, hb, h⟩
  have hm := mem_at hz hb
  rcases h with ⟨h, rfl, hs⟩ | ⟨h, p, n, d, own, rfl, ho, hs⟩
  · exact ⟨false, [], [], none, 0, 0, rfl, OwnR.nil, hs, ⟨fun e => (by cases e), fun e => absurd (hm.1 e) h⟩, fun e => (by cases e), fun _ => rfl⟩
  · exact ⟨true, _, own, p, n, d, rfl, ho, hs, ⟨fun _ => hm.2 h, fun _ => rfl⟩, fun _ => del_eq hz h, fun e => (by cases e)⟩
theorem without_len (xs : List Rc) (r : Rc) : (without xs r).length ≤ xs.length := List.length_filter_le _ _
theorem any_snoc {xs : List Rc} {k : Nat} {x : Rc} (p : Rc → Bool) (h : xs[k]? = some x) : (xs.take (k + 1)).any p = ((xs.take k).any p || p x) := by
  rw [take_snoc h, List.any_append]; simp
theorem any_rec {xs : List Rc} {r : Rc} : (xs.any fun x => recB x r) = true ↔ r ∈ xs := by
  rw [List.any_eq_true]
  exact ⟨fun ⟨x, hx, he⟩ => (recB_iff.1 he) ▸ hx, fun h => ⟨r, h, recB_iff.2 rfl⟩⟩
end Go.Proofs.YtdajglfbbcbgpaaDoor
