/- TrieOrder as its row asks it. -/
import Derived.Test.YtoeecjlencaglaaTr11
set_option linter.unusedVariables false
namespace Go.Proofs.Ytoeecjlencaglaa
open Go.Px

def act16O (b : Nat) (x : A16) : Nat × Obj := (b, .cells #[.int .u8 x.1, .int .u16 x.2.1, .int .u8 x.2.2.1, .int .i64 x.2.2.2] 57 (0, 0))
def kv7 (x : A16) : List Bool × Int := (key16 x, 7)
theorem TrieOrder_row (W : World) (a : Option Addr) (len cap : Nat) (w : len ≤ cap ∧ cap ≤ maxLen ∧ ∃ xs : List A16, SlIn (imW W) a len 4 e16 xs ∧ ∀ x ∈ xs, ok16 x) (z : len ≤ 140737488355328) :
    Runs Try.prog 9 #[.slice a len cap] (imW W) [] fun v _ _ => v = .bool true := by
  obtain ⟨_, _, xs, hin, hok⟩ := w
  have hlen := hin.1
  refine bolterlaw16_TrieOrder_fn _ _ _ _ _ _ ?_
  refine (awake16_runs _ _).mono ?_
  rintro _ J0 T0 hle0 rfl
  refine ⟨true, rfl, ?_⟩
  intro ta tb
  -- two tries
  have Len : ∀ (l : List A16) (n : Nat), ((l.take n).map kv7).length ≤ l.length := fun l n => by simp; omega
  refine ⟨fun m s n c pa pb x22 x23 J T => s = a ∧ n = len ∧ c = cap ∧ pa = some ⟨ta, 0, none⟩ ∧ pb = some ⟨tb, 0, none⟩ ∧ x22 = (len : Int) ∧ J0.le J ∧ ∃ (i : Nat) (oa ob : SH), x23 = (i : Int) ∧ i + m = len ∧ TriO ta (putAll ((xs.take i).map kv7)) oa ∧ TriO tb (putAll ((xs.reverse.take i).map kv7)) ob ∧ Sub (oa ++ ob) T, len,
    ⟨rfl, rfl, rfl, rfl, rfl, rfl, IMem.le.refl _, 0, _, _, rfl, by omega, TriO.new ta, TriO.new tb, ⟨T0, ?_⟩⟩, ?_⟩
  · exact List.Perm.swap ..
  rintro m s n c pa pb x22 x23 J T hleJ ⟨hs, hn, hc, hpa, hpb, hx22, _, i, oa, ob, hx23, him, hoa, hob, hsub⟩
  subst hs hn hc hpa hpb hx22 hx23
  have hleW : (imW W).le J := hle0.trans hleJ
  obtain ⟨wa, ca, la⟩ := putAll_ok ((xs.take i).map kv7)
  obtain ⟨wb, cb, lb⟩ := putAll_ok ((xs.reverse.take i).map kv7)
  have La := Len xs i
  have Lb := Len xs.reverse i
  rw [List.length_reverse] at Lb
  refine bcase_dec (fun hlt => ?_) (fun hge => ?_)
  · have hi : i < xs.length := by omega
    obtain ⟨x, hxi⟩ : ∃ x, xs[i]? = some x := ⟨_, List.getElem?_eq_getElem hi⟩
    obtain ⟨y, hri⟩ : ∃ y, xs.reverse[i]? = some y := ⟨_, List.getElem?_eq_getElem (by simpa using hi)⟩
    have hback : xs[n - 1 - i]? = some y := by rw [← hri, List.getElem?_reverse hi, hlen]
    have hokx : ok16 x := hok _ (List.mem_of_getElem? hxi)
    have hoky : ok16 y := hok _ (List.mem_of_getElem? hback)
    obtain ⟨a', rfl, hcx⟩ := hin.cell hxi
    obtain ⟨a'', ha'', hcy⟩ := hin.cell hback
    injection ha'' with ha''
    subst ha''
    refine ⟨by omega, by omega, x.2.1, hcx J T hleW 1 _ rfl, by omega, by omega, x.2.2.1, hcx J T hleW 2 _ rfl, _, fun J' T' _ => (Key16 hokx J' _).mono (fun v J T _ h => ⟨h.1, h.2.2⟩), ?_⟩
    refine Runs.use hsub (Put_runs ta _ wa (by omega) oa hoa (key16 x) (Nat.le_trans (key16_len x) (by omega)) 7 J ob) ?_
    rintro _ J1 T1 hle1 ⟨rfl, oa', hoa', rfl⟩
    refine ⟨_, rfl, ?_⟩
    have e1 : IntKind.wrap .i64 ((IntKind.wrap .i64 ((n : Int) - (1 : Int))) - (i : Int)) = ((n - 1 - i : Nat) : Int) := by
      rw [wrap_i64 (x := (n : Int) - 1) (by omega) (by omega), wrap_i64 (by omega) (by omega)]; omega
    rw [bolterlaw16_TrieOrder_b6, e1]
    have hleW1 := hleW.trans hle1
    refine ⟨by omega, by omega, y.1, hcy J1 _ hleW1 0 _ rfl, y.2.1, hcy J1 _ hleW1 1 _ rfl, y.2.2.1, hcy J1 _ hleW1 2 _ rfl, y.2.2.2, hcy J1 _ hleW1 3 _ rfl, ?_⟩
    intro bk
    refine StP.at0 (o := 0) (vs := [.int .u8 y.1, .int .u16 y.2.1, .int .u8 y.2.2.1, .int .i64 y.2.2.2]) (by simp) rfl ?_
    refine ⟨y.2.1, Cell.at0 rfl, y.2.2.1, Cell.at0 rfl, (Key16 hoky J1 _).mono ?_⟩
    rintro _ J2 T2 _ ⟨rfl, rfl, rfl⟩
    refine ⟨_, rfl, ?_⟩
    refine Runs.use (L := ob ++ oa') ⟨[_], (List.Perm.cons _ List.perm_append_comm).trans (List.perm_append_singleton _ _).symm⟩ (Put_runs tb _ wb (by omega) ob hob (key16 y) (Nat.le_trans (key16_len y) (by omega)) 7 J2 oa') ?_
    rintro _ J3 T3 hle3 ⟨rfl, ob', hob', rfl⟩
    refine ⟨_, rfl, m - 1, by omega, rfl, rfl, rfl, rfl, rfl, rfl, (hleJ.trans hle1).trans hle3, i + 1, oa', ob', by rw [wrap_i64 (by omega) (by omega)]; rfl, by omega, ?_, ?_, ⟨[], by rw [List.append_nil]; exact List.perm_append_comm⟩⟩
    · rw [List.take_add_one, hxi, Option.toList_some, List.map_append]
      exact (putAll_snoc _ (kv7 x)).symm ▸ hoa'
    · rw [List.take_add_one, hri, Option.toList_some, List.map_append]
      exact (putAll_snoc _ (kv7 y)).symm ▸ hob'
  · obtain rfl : i = n := by omega
    rw [show xs.take i = xs from List.take_of_length_le (by omega)] at hoa wa ca
    rw [show xs.reverse.take i = xs.reverse from List.take_of_length_le (by simp; omega)] at hob
    have same : putAll (xs.reverse.map kv7) = putAll (xs.map kv7) := putAll_perm (fun k hk => by obtain ⟨x, _, rfl⟩ := List.mem_map.1 hk; rfl) (fun k => by simp [List.mem_map])
    rw [same] at hob
    generalize putAll (xs.map kv7) = t at hoa hob wa ca
    rw [List.length_map] at ca
    have hnod := (Sh.nodes_le t wa).1
    have sa : Sub (oa ++ ob) T := hsub
    have sb : Sub (ob ++ oa) T := hsub.perm List.perm_append_comm
    have hs2 : ∀ {T' : SH}, T' = oa ++ ob → Sub (ob ++ oa) T' := fun h => ⟨[], by rw [h, List.append_nil]; exact List.perm_append_comm⟩
    have hs3 : ∀ {T' : SH}, T' = ob ++ oa → Sub (oa ++ ob) T' := fun h => ⟨[], by rw [h, List.append_nil]; exact List.perm_append_comm⟩
    refine Runs.use sa (Len_runs ta t oa hoa J ob) ?_
    rintro _ J1 T1 hle1 ⟨rfl, hT1⟩
    refine ⟨_, rfl, Runs.use (hs2 hT1) (Len_runs tb t ob hob J1 oa) ?_⟩
    rintro _ J2 T2 hle2 ⟨rfl, hT2⟩
    refine ⟨_, rfl, bcase_bne (fun h => absurd rfl h) (fun _ => ?_)⟩
    refine Runs.use (hs3 hT2) (Nodes_runs ta t (by omega) oa hoa J2 ob) ?_
    rintro _ J3 T3 hle3 ⟨rfl, hT3⟩
    refine ⟨_, rfl, Runs.use (hs2 hT3) (Nodes_runs tb t (by omega) ob hob J3 oa) ?_⟩
    rintro _ J4 T4 hle4 ⟨rfl, hT4⟩
    refine ⟨_, rfl, bcase_bne (fun h => absurd rfl h) (fun _ => ?_)⟩
    have hle04 : J0.le J4 := (((hleJ.trans hle1).trans hle2).trans hle3).trans hle4
    refine ⟨fun m pa pb s' n' c' x68 x69 J T => s' = s ∧ n' = i ∧ c' = c ∧ pa = some ⟨ta, 0, none⟩ ∧ pb = some ⟨tb, 0, none⟩ ∧ x68 = (i : Int) ∧ (imW W).le J ∧ Sub (oa ++ ob) T ∧ ∃ j : Nat, x69 = (j : Int) ∧ j + m = i, i, ⟨rfl, rfl, rfl, rfl, rfl, rfl, hle0.trans hle04, hs3 hT4, 0, rfl, by omega⟩, ?_⟩
    rintro m pa pb s' n' c' x68 x69 J5 T5 hle5 ⟨h1, h2, h3, h4, h5, h6, hleW5, hsub5, j, h7, hjm⟩
    subst h1 h2 h3 h4 h5 h6 h7
    refine bcase_dec (fun hlt => ?_) (fun hge => rfl)
    have hj : j < xs.length := by omega
    obtain ⟨x, hxj⟩ : ∃ x, xs[j]? = some x := ⟨_, List.getElem?_eq_getElem hj⟩
    have hokx : ok16 x := hok _ (List.mem_of_getElem? hxj)
    obtain ⟨a', rfl, hcx⟩ := hin.cell hxj
    refine ⟨by omega, by omega, x.1, hcx J5 T5 hleW5 0 _ rfl, x.2.1, hcx J5 T5 hleW5 1 _ rfl, x.2.2.1, hcx J5 T5 hleW5 2 _ rfl, x.2.2.2, hcx J5 T5 hleW5 3 _ rfl, ?_⟩
    intro bk
    refine StP.at0 (o := 0) (vs := [.int .u8 x.1, .int .u16 x.2.1, .int .u8 x.2.2.1, .int .i64 x.2.2.2]) (by simp) rfl ?_
    refine ⟨x.2.1, Cell.at0 rfl, (Key16' hokx J5 _).mono ?_⟩
    rintro _ J6 T6 _ ⟨rfl, rfl, rfl⟩
    refine ⟨_, rfl, ?_⟩
    have hk13 : (keyL x.2.1.toNat 13).length ≤ 128 := Nat.le_trans (keyL_len _ _) (by omega)
    have hsubL : Sub (oa ++ (ob ++ [act16O bk x])) (act16O bk x :: T5) := by
      refine (hsub5.cons _).perm ?_
      rw [← List.append_assoc]
      exact (List.perm_append_singleton _ _).symm
    refine Runs.use hsubL (Longest_runs ta t oa hoa _ hk13 J6 _) ?_
    rintro _ J7 T7 hle7 ⟨rfl, rfl⟩
    have hl1 : ∀ o : Option (Int × Nat), ∃ v n b, encL o = #[.int .i64 v, .int .i64 n, .bool b] := fun o => by cases o <;> exact ⟨_, _, _, rfl⟩
    obtain ⟨v, l, b, he⟩ := hl1 (t.walk (keyL x.2.1.toNat 13) 0 none)
    rw [he]
    refine ⟨v, l, b, rfl, x.2.1, Cell.appR (Cell.appR (Cell.at0 rfl)), (Key16' hokx J7 _).mono ?_⟩
    rintro _ J8 T8 _ ⟨rfl, rfl, rfl⟩
    refine ⟨_, rfl, ?_⟩
    refine Runs.use (L := ob ++ (oa ++ [act16O bk x])) ⟨[], ?_⟩ (Longest_runs tb t ob hob _ hk13 J8 _) ?_
    · rw [List.append_nil, ← List.append_assoc, ← List.append_assoc]
      exact List.perm_append_comm.append_right _
    rintro _ J9 T9 hle9 ⟨rfl, rfl⟩
    rw [he]
    refine ⟨v, l, b, rfl, bcase_bne (fun h => absurd rfl h) (fun _ => ?_)⟩
    rw [show (b == b) = true by cases b <;> rfl]
    refine ⟨m - 1, by omega, rfl, rfl, rfl, rfl, rfl, rfl, (hleW5.trans hle7).trans hle9, ⟨[act16O bk x], ?_⟩, j + 1, by rw [wrap_i64 (by omega) (by omega)]; rfl, by omega⟩
    rw [← List.append_assoc]
    exact List.perm_append_comm.append_right _
end Go.Proofs.Ytoeecjlencaglaa
