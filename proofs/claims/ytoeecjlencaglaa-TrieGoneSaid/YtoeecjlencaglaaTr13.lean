/- TrieGone as its row asks it. -/
import Derived.Test.YtoeecjlencaglaaTr11
set_option linter.unusedVariables false
namespace Go.Proofs.Ytoeecjlencaglaa
open Go.Px

def act16C (b : Nat) (x : A16) : Nat × Obj := (b, .cells #[.int .u8 x.1, .int .u16 x.2.1, .int .u8 x.2.2.1, .int .i64 x.2.2.2] 57 (0, 0))
def kv16 (x : A16) : List Bool × Int := (key16 x, x.2.2.2)
structure Less (t : Sh) (xs : List A16) : Prop where
  wf : t.wf
  len : t.len ≤ 13
  cnt : t.cnt ≤ 140737488355328
  has : ∀ k, t.find k ≠ none → ∃ x ∈ xs, key16 x = k
theorem Less.del {t : Sh} {x : A16} {xs : List A16} (h : Less t (x :: xs)) : Less (if (t.find (key16 x)).isSome then t.del (key16 x) else t) xs ∧ (if (t.find (key16 x)).isSome then t.del (key16 x) else t).find (key16 x) = none := by
  have hold : ∀ k, k ≠ key16 x → t.find k ≠ none → ∃ y ∈ xs, key16 y = k := fun k hk hf => by
    obtain ⟨y, hy, he⟩ := h.has k hf
    rcases List.mem_cons.1 hy with rfl | hy
    · exact absurd he.symm hk
    · exact ⟨y, hy, he⟩
  cases hf : t.find (key16 x) with
  | none =>
    refine ⟨⟨h.wf, h.len, h.cnt, fun k hk => ?_⟩, hf⟩
    by_cases he : k = key16 x
    · exact absurd (he ▸ hf) hk
    · exact hold k he hk
  | some v =>
    have hne : t.find (key16 x) ≠ none := by rw [hf]; exact fun h => by cases h
    have hfind := Sh.del_find t (key16 x) h.wf hne
    have hcnt := Sh.del_cnt t (key16 x) hne
    have := h.cnt
    refine ⟨⟨Sh.del_wf t _ h.wf, Nat.le_trans (Sh.del_len t _) h.len, by simp only [Option.isSome_some, if_true]; omega, fun k hk => ?_⟩, ?_⟩
    · simp only [Option.isSome_some, if_true] at hk
      rw [hfind] at hk
      by_cases he : k = key16 x
      · rw [if_pos he] at hk; exact absurd rfl hk
      · rw [if_neg he] at hk; exact hold k he hk
    · simp only [Option.isSome_some, if_true]
      rw [hfind, if_pos rfl]
theorem TrieGone_row (W : World) (a : Option Addr) (len cap : Nat) (w : len ≤ cap ∧ cap ≤ maxLen ∧ ∃ xs : List A16, SlIn (imW W) a len 4 e16 xs ∧ ∀ x ∈ xs, ok16 x) (z : len ≤ 140737488355328) :
    Runs Try.prog 13 #[.slice a len cap] (imW W) [] fun v _ _ => v = .bool true := by
  obtain ⟨_, _, xs, hin, hok⟩ := w
  have hlen := hin.1
  refine bolterlaw16_TrieGone_fn _ _ _ _ _ _ ?_
  refine (awake16_runs _ _).mono ?_
  rintro _ J0 T0 hle0 rfl
  refine ⟨true, rfl, ?_⟩
  intro tb
  refine ⟨fun m s n c p s' n' c' x15 x16 J T => s = a ∧ n = len ∧ c = cap ∧ p = some ⟨tb, 0, none⟩ ∧ s' = a ∧ n' = len ∧ c' = cap ∧ x15 = (len : Int) ∧ (imW W).le J ∧ ∃ (i : Nat) (own : SH), x16 = (i : Int) ∧ i + m = len ∧ TriO tb (putAll ((xs.take i).map kv16)) own ∧ Sub own T, len,
    ⟨rfl, rfl, rfl, rfl, rfl, rfl, rfl, rfl, hle0, 0, _, rfl, by omega, TriO.new tb, ⟨T0, List.Perm.refl _⟩⟩, ?_⟩
  rintro m s n c p s' n' c' x15 x16 J T hleJ ⟨h1, h2, h3, h4, h5, h6, h7, h8, hleW, i, own, h9, him, ho, hsub⟩
  subst h1 h2 h3 h4 h5 h6 h7 h8 h9
  obtain ⟨wa, ca, la⟩ := putAll_ok ((xs.take i).map kv16)
  have La : ((xs.take i).map kv16).length ≤ xs.length := by simp; omega
  refine bcase_dec (fun hlt => ?_) (fun hge => ?_)
  · have hi : i < xs.length := by omega
    obtain ⟨x, hxi⟩ : ∃ x, xs[i]? = some x := ⟨_, List.getElem?_eq_getElem hi⟩
    have hokx : ok16 x := hok _ (List.mem_of_getElem? hxi)
    obtain ⟨a', rfl, hcx⟩ := hin.cell hxi
    refine ⟨by omega, by omega, x.1, hcx J T hleW 0 _ rfl, x.2.1, hcx J T hleW 1 _ rfl, x.2.2.1, hcx J T hleW 2 _ rfl, x.2.2.2, hcx J T hleW 3 _ rfl, ?_⟩
    intro bk
    refine StP.at0 (o := 0) (vs := [.int .u8 x.1, .int .u16 x.2.1, .int .u8 x.2.2.1, .int .i64 x.2.2.2]) (by simp) rfl ?_
    refine ⟨x.2.1, Cell.at0 rfl, x.2.2.1, Cell.at0 rfl, _, fun J' T' _ => (Key16 hokx J' _).mono (fun v J T _ h => ⟨h.1, h.2.2⟩), x.2.2.2, Cell.at0 rfl, ?_⟩
    refine Runs.use (L := own ++ [act16C bk x]) ((hsub.cons (act16C bk x)).perm (List.perm_append_singleton _ _).symm) (Put_runs tb _ wa (by omega) own ho (key16 x) (Nat.le_trans (key16_len x) (by omega)) _ J _) ?_
    rintro _ J1 T1 hle1 ⟨rfl, own', ho', rfl⟩
    refine ⟨_, rfl, m - 1, by omega, rfl, rfl, rfl, rfl, rfl, rfl, rfl, rfl, hleW.trans hle1, i + 1, own', by rw [wrap_i64 (by omega) (by omega)]; rfl, by omega, ?_, ⟨[_], List.Perm.refl _⟩⟩
    rw [List.take_add_one, hxi, Option.toList_some, List.map_append]
    exact (putAll_snoc _ (kv16 x)).symm ▸ ho'
  · have hn : i = n' := by omega
    rw [show xs.take i = xs from List.take_of_length_le (by omega)] at ho wa ca la
    rw [List.length_map] at ca
    have hfirst : Less (putAll (xs.map kv16)) (xs.drop 0) := ⟨wa, la 13 (fun k hk => by obtain ⟨x, _, rfl⟩ := List.mem_map.1 hk; exact key16_len x), by omega, fun k hk => by
      obtain ⟨v, hv⟩ := (putAll_find _ k).1 hk
      obtain ⟨x, hx, he⟩ := List.mem_map.1 hv
      exact ⟨x, hx, by injection he⟩⟩
    refine ⟨fun m p s n c x31 x32 J T => p = some ⟨tb, 0, none⟩ ∧ s = s' ∧ n = n' ∧ c = c' ∧ x31 = (n' : Int) ∧ (imW W).le J ∧ ∃ (j : Nat) (t : Sh) (own : SH), x32 = (j : Int) ∧ j + m = n' ∧ TriO tb t own ∧ Sub own T ∧ Less t (xs.drop j), n',
      ⟨rfl, rfl, rfl, rfl, rfl, hleW, 0, _, own, rfl, by omega, ho, hsub, hfirst⟩, ?_⟩
    clear hfirst ho hsub own wa ca la hleW hleJ
    rintro m p s n c x31 x32 J T hleJ ⟨h1, h2, h3, h4, h5, hleW, j, t, own, h6, hjm, ho, hsub, hless⟩
    subst h1 h2 h3 h4 h5 h6
    refine bcase_dec (fun hlt => ?_) (fun hge => ?_)
    · have hj : j < xs.length := by omega
      obtain ⟨x, hxj⟩ : ∃ x, xs[j]? = some x := ⟨_, List.getElem?_eq_getElem hj⟩
      have hokx : ok16 x := hok _ (List.mem_of_getElem? hxj)
      have hdrop : xs.drop j = x :: xs.drop (j + 1) := by
        rw [List.drop_eq_getElem_cons hj]
        rw [List.getElem?_eq_getElem hj] at hxj
        injection hxj with hxj
        rw [hxj]
      rw [hdrop] at hless
      obtain ⟨hless', hgone⟩ := hless.del
      obtain ⟨a', rfl, hcx⟩ := hin.cell hxj
      have hk128 : (key16 x).length ≤ 128 := Nat.le_trans (key16_len x) (by omega)
      have hc := hless.cnt
      have hl := hless.len
      have hc' := hless'.cnt
      refine ⟨by omega, by omega, x.1, hcx J T hleW 0 _ rfl, x.2.1, hcx J T hleW 1 _ rfl, x.2.2.1, hcx J T hleW 2 _ rfl, x.2.2.2, hcx J T hleW 3 _ rfl, ?_⟩
      intro bk
      refine StP.at0 (o := 0) (vs := [.int .u8 x.1, .int .u16 x.2.1, .int .u8 x.2.2.1, .int .i64 x.2.2.2]) (by simp) rfl ?_
      refine ⟨x.2.1, Cell.at0 rfl, x.2.2.1, Cell.at0 rfl, (Key16 hokx J _).mono ?_⟩
      rintro _ J1 T1 _ ⟨rfl, rfl, rfl⟩
      refine ⟨_, rfl, Runs.use (L := own ++ [act16C bk x]) ((hsub.cons (act16C bk x)).perm (List.perm_append_singleton _ _).symm) (Del_runs tb t hless.wf (by omega) (by omega) own ho (key16 x) hk128 J1 _) ?_⟩
      rintro _ J2 T2 hle2 ⟨rfl, own', ho', rfl⟩
      generalize (if (t.find (key16 x)).isSome then t.del (key16 x) else t) = t' at ho' hless' hgone hc'
      refine ⟨_, rfl, x.2.1, Cell.appR (Cell.at0 rfl), x.2.2.1, Cell.appR (Cell.at0 rfl), (Key16 hokx J2 _).mono ?_⟩
      rintro _ J3 T3 _ ⟨rfl, rfl, rfl⟩
      refine ⟨_, rfl, (Get_runs tb t' hless'.wf own' ho' (key16 x) hk128 J3 _).mono ?_⟩
      rintro _ J4 T4 hle4 ⟨rfl, rfl⟩
      rw [hgone]
      have hnod := (Sh.nodes_le t' hless'.wf).1
      refine ⟨_, _, rfl, (Nodes_runs tb t' (by omega) own' ho' J4 _).mono ?_⟩
      rintro _ J5 T5 hle5 ⟨rfl, rfl⟩
      refine ⟨_, rfl, (Len_runs tb t' own' ho' J5 _).mono ?_⟩
      rintro _ J6 T6 hle6 ⟨rfl, rfl⟩
      refine ⟨_, rfl, ?_⟩
      rw [wrap_i64 (by omega) (by omega)]
      refine bcase_dec (fun h => by omega) (fun _ => ?_)
      exact ⟨m - 1, by omega, rfl, rfl, rfl, rfl, rfl, (((hleW.trans hle2).trans hle4).trans hle5).trans hle6, j + 1, t', own', by rw [wrap_i64 (by omega) (by omega)]; rfl, by omega, ho', ⟨[_], List.Perm.refl _⟩, hless'⟩
    · rw [List.drop_eq_nil_of_le (by omega)] at hless
      have ht : t = .nil := Sh.nil_of hless.wf (fun k => by
        rcases Classical.em (t.find k = none) with g | g
        · exact g
        · obtain ⟨x, hx, _⟩ := hless.has k g; cases hx)
      subst ht
      refine Runs.use (L := own ++ []) (by rw [List.append_nil]; exact hsub) (Len_runs tb .nil own ho J []) ?_
      rintro _ J1 T1 hle1 ⟨rfl, rfl⟩
      refine ⟨_, rfl, (Nodes_runs tb .nil (by decide) own ho J1 []).mono ?_⟩
      rintro _ J2 T2 hle2 ⟨rfl, rfl⟩
      exact ⟨_, rfl, rfl⟩
end Go.Proofs.Ytoeecjlencaglaa
