/- Which triggers fit a query's facts. -/
import Derived.Test.YtmlojdbahlfiaaaGreatDoorProg
import Derived.Test.YtmlojdbahlfiaaaGreatDoorM1SearchZones
import Derived.Test.YtmlojdbahlfiaaaGreatDoorM2SearchZones
import Derived.Test.YtmlojdbahlfiaaaGreatDoorM3SearchZones
import Derived.Test.YtmlojdbahlfiaaaGreatDoorM4SearchZones
namespace Go.Proofs.YtmlojdbahlfiaaaGreatDoor
open Go.Px
set_option linter.unusedVariables false
set_option linter.unusedSimpArgs false

/-- what is known of a query -/
structure Fa where
  cl : ByteArray
  nm : ByteArray
  a : Sl
  s : Sl
  h : Sl
  xa : List ByteArray
  xs : List ByteArray
  xh : List ByteArray
abbrev encFa (f : Fa) : List Value := [.string f.cl, .string f.nm, .slice f.a.1 f.a.2.1 f.a.2.2, .slice f.s.1 f.s.2.1 f.s.2.2, .slice f.h.1 f.h.2.1 f.h.2.2]
abbrev vFa (f : Fa) : Value := .agg #[.string f.cl, .string f.nm, .slice f.a.1 f.a.2.1 f.a.2.2, .slice f.s.1 f.s.2.1 f.s.2.2, .slice f.h.1 f.h.2.1 f.h.2.2]
abbrev faB (b : Nat) (f : Fa) : Nat × Obj := (b, .cells (encFa f).toArray 37 (0, 0))
def LsIn (I : IMem) (S : SH) (x : Sl) (xs : List ByteArray) : Prop := RowIn I S x.1 xs.length 1 elS xs ∧ x.2.1 = xs.length ∧ xs.length ≤ 9223372036854775807
structure FaIn (I : IMem) (S : SH) (f : Fa) : Prop where
  a : LsIn I S f.a f.xa
  s : LsIn I S f.s f.xs
  h : LsIn I S f.h f.xh
theorem LsIn.keep {I J : IMem} {S T : SH} {x : Sl} {xs : List ByteArray} (hk : Keep I S J T) (h : LsIn I S x xs) : LsIn J T x xs := ⟨h.1.keep hk, h.2⟩
theorem FaIn.keep {I J : IMem} {S T : SH} {f : Fa} (hk : Keep I S J T) (h : FaIn I S f) : FaIn J T f := ⟨h.a.keep hk, h.s.keep hk, h.h.keep hk⟩
theorem FaIn.sub {I : IMem} {S T : SH} {f : Fa} (hs : Sub S T) (h : FaIn I S f) : FaIn I T f := h.keep (hs.keep (IMem.le.refl I))
theorem FaIn.le {I J : IMem} {S : SH} {f : Fa} (hle : I.le J) (h : FaIn I S f) : FaIn J S f := h.keep ((Sub.refl S).keep hle)
theorem elS_len (s : ByteArray) : (elS s).length = 1 := rfl
theorem row_s {e : TypeId} {b : Nat} {x : ByteArray} {I : IMem} {S : SH} : RowIn I ((b, .cells #[.string x] e (0, 0)) :: S) (some ⟨b, 0, none⟩) 1 1 elS [x] :=
  (OwnR.row (e := e) elS_len (c := 1) (own := [(b, .cells #[.string x] e (0, 0))]) (.inr ⟨b, 1, [], rfl, rfl, rfl, by decide⟩)).sub (Sub.left (L := [(b, .cells #[.string x] e (0, 0))]) (M := S) (Sub.refl _))
noncomputable def matchT (t : Tg) (f : Fa) : Bool :=
  if t.1 = 0 then hasT t f.cl
  else if t.1 = 1 then f.nm.toList == t.2.1.toList
  else if t.1 = 2 then underT t f.nm
  else if t.1 = 3 then f.xa.any (hasT t)
  else if t.1 = 4 then f.xs.any fun n => n.toList == t.2.1.toList
  else if t.1 = 5 then f.xs.any (underT t)
  else if t.1 = 6 then f.xh.any (hasT t)
  else false
theorem bA (f : Fa) {I : IMem} {S F : SH} {b : Nat} (hs : Sub (faB b f :: F) S) : Cell I S ⟨b, 0, none⟩ (.string f.cl) ∧ Cell I S ((⟨b, 0, none⟩ : Addr).add 1) (.string f.nm) ∧ Cell I S ((⟨b, 0, none⟩ : Addr).add 2) (.slice f.a.1 f.a.2.1 f.a.2.2) ∧ Cell I S ((⟨b, 0, none⟩ : Addr).add 3) (.slice f.s.1 f.s.2.1 f.s.2.2) ∧ Cell I S ((⟨b, 0, none⟩ : Addr).add 4) (.slice f.h.1 f.h.2.1 f.h.2.2) :=
  ⟨Cell.among hs rfl, Cell.at_ (add_mk _ _ _) (Cell.among hs rfl), Cell.at_ (add_mk _ _ _) (Cell.among hs rfl), Cell.at_ (add_mk _ _ _) (Cell.among hs rfl), Cell.at_ (add_mk _ _ _) (Cell.among hs rfl)⟩
theorem name_loop {xs : List ByteArray} {a : Option Addr} {c b : Nat} {t : Tg} {I : IMem} {S F : SH} {r : Bool} (hx : RowIn I S a xs.length 1 elS xs) (hl : xs.length ≤ 9223372036854775807) (hs : Sub (tgB b t :: F) S) {R : RT} (hR : ∀ J, R (.bool r) J S) (hr : r = xs.any fun n => n.toList == t.2.1.toList) :
    search_Matches_b8 R ⟨b, 0, none⟩ a xs.length c (xs.length : Int) 0 I S := by
  subst hr
  unfold search_Matches_b8
  refine ⟨fun m p y yn yc q i J T => p = ⟨b, 0, none⟩ ∧ y = a ∧ yn = xs.length ∧ q = (xs.length : Int) ∧ I.le J ∧ T = S ∧ ∃ k : Nat, i = (k : Int) ∧ k ≤ xs.length ∧ m = xs.length - k ∧ (xs.take k).any (fun n => n.toList == t.2.1.toList) = false,
    xs.length, ⟨rfl, rfl, rfl, rfl, IMem.le.refl I, rfl, 0, rfl, Nat.zero_le _, rfl, rfl⟩, ?_⟩
  rintro m p y yn yc q i J T - ⟨rfl, rfl, rfl, rfl, hle, rfl, k, rfl, hk, rfl, hf⟩
  unfold search_Matches_l9 search_Matches_b10
  refine bcase_dec (fun hg => ?_) (fun hg => ?_)
  · obtain ⟨u, hu⟩ := get_lt (xs := xs) (k := k) (by omega)
    obtain ⟨a', rfl, hc⟩ := (hx.le hle).cell hu
    obtain ⟨c0, c1, c2, c3, c4⟩ := tgX (I := J) hs
    refine ⟨by omega, by omega, _, (by simpa [Addr.add] using hc 0 _ rfl), _, c1, bcase_of (fun h => ?_) (fun h => ?_)⟩
    · rw [any_hitB (f := fun n => n.toList == t.2.1.toList) hu h] at hR; exact hR J
    · exact ⟨xs.length - (k + 1), by omega, rfl, rfl, rfl, rfl, hle, rfl, k + 1, by rw [wrap_i64 (by omega) (by omega)]; rfl, by omega, rfl, by rw [any_snocB hu, hf]; exact h⟩
  · have : k = xs.length := by omega
    subst this
    rw [List.take_length] at hf
    rw [hf] at hR; exact hR J
theorem Matches_runs (t : Tg) (f : Fa) {I : IMem} {S : SH} (hf : FaIn I S f) : Runs Tryz.prog 13 #[vT t, vFa f] I S fun v _ T => v = .bool (matchT t f) ∧ T = S := by
  refine Runs.drop (search_Matches_fn _ _ _ _ _ _ _ _ _ _ _ _ _ _ _ _ _ _ ?_)
  unfold search_Matches search_Matches_b1 search_Matches_b2
  intro b2 b3
  have hT : Sub (tgB b2 t :: S) (faB b3 f :: tgB b2 t :: S) := (Sub.refl _).skip _
  have hF : Sub (faB b3 f :: (tgB b2 t :: S)) (faB b3 f :: tgB b2 t :: S) := Sub.refl _
  have hin : FaIn I (faB b3 f :: tgB b2 t :: S) f := hf.sub (((Sub.refl S).skip _).skip _)
  obtain ⟨c0, c1, c2, c3, c4⟩ := tgX (I := I) hT
  obtain ⟨d0, d1, d2, d3, d4⟩ := bA f (I := I) hF
  have back : Sub S (faB b3 f :: tgB b2 t :: S) := ((Sub.refl S).skip _).skip _
  refine ⟨_, c0, ?_⟩
  unfold search_Matches_b3
  refine bcase_beq (fun h0 => ?_) (fun h0 => ?_)
  · refine ⟨_, d0, fun b18 => (some_runs (xs := [f.cl]) row_s (by show 1 ≤ 9223372036854775807; decide) (hT.skip _)).mono ?_⟩
    rintro v J T hle ⟨rfl, rfl⟩
    exact ⟨_, rfl, S, back.skip _, by rw [matchT, if_pos h0]; simp, rfl⟩
  unfold search_Matches_b4
  refine bcase_beq (fun h1 => ?_) (fun h1 => ?_)
  · exact ⟨_, d1, _, c1, S, back, by rw [matchT, if_neg h0, if_pos h1], rfl⟩
  unfold search_Matches_b5
  refine bcase_beq (fun h2 => ?_) (fun h2 => ?_)
  · refine ⟨_, d1, fun b18 => (under_runs (xs := [f.nm]) row_s (by show 1 ≤ 9223372036854775807; decide) (hT.skip _)).mono ?_⟩
    rintro v J T hle ⟨rfl, rfl⟩
    exact ⟨_, rfl, S, back.skip _, by rw [matchT, if_neg h0, if_neg h1, if_pos h2]; simp, rfl⟩
  unfold search_Matches_b6
  refine bcase_beq (fun h3 => ?_) (fun h3 => ?_)
  · obtain ⟨r1, r2, r3⟩ := hin.a
    refine ⟨_, _, _, (show Cell I _ _ (.slice f.a.1 f.xa.length f.a.2.2) from by rw [← r2]; exact d2), ?_⟩
    refine (some_runs r1 r3 hT).mono ?_
    rintro v J T hle ⟨rfl, rfl⟩
    exact ⟨_, rfl, S, back, by rw [matchT, if_neg h0, if_neg h1, if_neg h2, if_pos h3], rfl⟩
  unfold search_Matches_b7
  refine bcase_beq (fun h4 => ?_) (fun h4 => ?_)
  · obtain ⟨r1, r2, r3⟩ := hin.s
    refine ⟨_, _, _, (show Cell I _ _ (.slice f.s.1 f.xs.length f.s.2.2) from by rw [← r2]; exact d3), ?_⟩
    exact name_loop (r := matchT t f) r1 r3 hT (fun J => ⟨S, back, rfl, rfl⟩) (by rw [matchT, if_neg h0, if_neg h1, if_neg h2, if_neg h3, if_pos h4])
  refine bcase_beq (fun h5 => ?_) (fun h5 => ?_)
  · obtain ⟨r1, r2, r3⟩ := hin.s
    refine ⟨_, _, _, (show Cell I _ _ (.slice f.s.1 f.xs.length f.s.2.2) from by rw [← r2]; exact d3), ?_⟩
    refine (under_runs r1 r3 hT).mono ?_
    rintro v J T hle ⟨rfl, rfl⟩
    exact ⟨_, rfl, S, back, by rw [matchT, if_neg h0, if_neg h1, if_neg h2, if_neg h3, if_neg h4, if_pos h5], rfl⟩
  unfold search_Matches_b11 search_Matches_b12
  refine ⟨_, c0, bcase_beq (fun h6 => ?_) (fun h6 => ⟨S, back, by rw [matchT, if_neg h0, if_neg h1, if_neg h2, if_neg h3, if_neg h4, if_neg h5, if_neg h6], rfl⟩)⟩
  obtain ⟨r1, r2, r3⟩ := hin.h
  refine ⟨_, _, _, (show Cell I _ _ (.slice f.h.1 f.xh.length f.h.2.2) from by rw [← r2]; exact d4), ?_⟩
  refine (some_runs r1 r3 hT).mono ?_
  rintro v J T hle ⟨rfl, rfl⟩
  exact ⟨_, rfl, S, back, by rw [matchT, if_neg h0, if_neg h1, if_neg h2, if_neg h3, if_neg h4, if_neg h5, if_pos h6], rfl⟩
end Go.Proofs.YtmlojdbahlfiaaaGreatDoor
/- What a target means. -/
namespace Go.Proofs.YtmlojdbahlfiaaaGreatDoor
open Go.Px
set_option linter.unusedVariables false
set_option linter.unusedSimpArgs false

/-- how many of a map's entries were not looked at -/
def unsn (E : Array MapEntry) (seen : Array Nat) : Nat := (E.toList.filter fun e => !seen.contains e.born).length
theorem unsn_lt {E : Array MapEntry} {seen : Array Nat} {e : MapEntry} (he : e ∈ E) (hn : seen.contains e.born = false) : unsn E (seen.push e.born) < unsn E seen := by
  have hsub : ∀ l : List MapEntry, (l.filter fun x => !(seen.push e.born).contains x.born).length ≤ (l.filter fun x => !seen.contains x.born).length ∧
      (e ∈ l → (l.filter fun x => !(seen.push e.born).contains x.born).length < (l.filter fun x => !seen.contains x.born).length) := by
    intro l
    induction l with
    | nil => exact ⟨Nat.le_refl _, fun h => by cases h⟩
    | cons x l ih =>
      have hx : (seen.push e.born).contains x.born = (seen.contains x.born || x.born == e.born) := by
        rw [Bool.eq_iff_iff]; simp [or_comm]
      rw [List.filter_cons, List.filter_cons, hx]
      by_cases h1 : seen.contains x.born = true
      · rw [h1]
        simp only [Bool.true_or, Bool.not_true, Bool.false_eq_true, if_false]
        refine ⟨ih.1, fun h => ?_⟩
        rcases List.mem_cons.1 h with rfl | h
        · rw [hn] at h1; cases h1
        · exact ih.2 h
      · have h1 : seen.contains x.born = false := by simpa using h1
        rw [h1]
        simp only [Bool.false_or, Bool.not_false, if_true, List.length_cons]
        by_cases h2 : x.born = e.born
        · rw [show (x.born == e.born) = true by simp [h2]]
          simp only [Bool.not_true, Bool.false_eq_true, if_false]
          exact ⟨by have := ih.1; omega, fun _ => by have := ih.1; omega⟩
        · rw [show (x.born == e.born) = false by simp [h2]]
          simp only [Bool.not_false, if_true, List.length_cons]
          refine ⟨by have := ih.1; omega, fun h => ?_⟩
          rcases List.mem_cons.1 h with rfl | h
          · exact absurd rfl h2
          · have := ih.2 h; omega
  exact (hsub E.toList).2 (by simpa using he)
def passB : ByteArray := ⟨#[114, 112, 122, 45, 112, 97, 115, 115, 116, 104, 114, 117]⟩
def dropB : ByteArray := ⟨#[114, 112, 122, 45, 100, 114, 111, 112]⟩
def tcpB : ByteArray := ⟨#[114, 112, 122, 45, 116, 99, 112, 45, 111, 110, 108, 121]⟩
def n5B : ByteArray := ⟨#[1, 42]⟩
def n2B : ByteArray := ⟨#[12, 114, 112, 122, 45, 112, 97, 115, 115, 116, 104, 114, 117]⟩
def n3B : ByteArray := ⟨#[8, 114, 112, 122, 45, 100, 114, 111, 112]⟩
def n6B : ByteArray := ⟨#[12, 114, 112, 122, 45, 116, 99, 112, 45, 111, 110, 108, 121]⟩
theorem mk4 : makeN [] ByteArray.empty = some ⟨#[]⟩ := rfl
theorem mk5 : makeN [starB] ByteArray.empty = some n5B := by decide +kernel
theorem mk2 : makeN [passB] ByteArray.empty = some n2B := by decide +kernel
theorem mk3 : makeN [dropB] ByteArray.empty = some n3B := by decide +kernel
theorem mk6 : makeN [tcpB] ByteArray.empty = some n6B := by decide +kernel
abbrev Tt := Int × ByteArray × Bool
def tgt2 (n : ByteArray) : Tt := if n.size > 2 ∧ n.extract 0 2 = n5B then (7, n.extract 2 n.size, true) else (7, n, false)
def tgtF (n : ByteArray) : Tt := if n = ⟨#[]⟩ then (4, ⟨#[]⟩, false) else if n = n5B then (5, ⟨#[]⟩, false) else if n = n2B then (2, ⟨#[]⟩, false) else if n = n3B then (3, ⟨#[]⟩, false) else if n = n6B then (6, ⟨#[]⟩, false) else tgt2 n
abbrev wE (b : Nat) (k : Int) (v : Value) : MapEntry := { key := .int .i64 k, val := v, born := b }
abbrev sl1 (b n : Nat) : Value := .slice (some ⟨b, 0, none⟩) n n
def wordsE (b2 b3 b4 b5 b6 : Nat) : Array MapEntry := #[wE 0 4 (sl1 b2 0), wE 1 5 (sl1 b3 1), wE 2 2 (sl1 b4 1), wE 3 3 (sl1 b5 1), wE 4 6 (sl1 b6 1)]
abbrev w1 (b : Nat) (s : ByteArray) : Nat × Obj := (b, .cells #[.string s] 9 (0, 0))
abbrev wordsH (r b2 b3 b4 b5 b6 : Nat) (S : SH) : SH := w1 b6 tcpB :: w1 b5 dropB :: w1 b4 passB :: w1 b3 starB :: (b2, .cells #[] 9 (0, 0)) :: (r, .map (wordsE b2 b3 b4 b5 b6) 5) :: S
theorem words_runs (I : IMem) (S : SH) : Runs Tryz.prog 116 #[] I S fun v _ T => ∃ r b2 b3 b4 b5 b6, v = .map (some r) ∧ T = wordsH r b2 b3 b4 b5 b6 S := by
  refine action_words_fn _ _ _ ?_
  unfold action_words
  intro r b2
  refine ⟨r, 1, _, _, _, _, rfl, rfl, rfl, fun b3 => ⟨r, 2, _, _, _, _, rfl, rfl, rfl, fun b4 => ⟨r, 3, _, _, _, _, rfl, rfl, rfl, fun b5 => ⟨r, 4, _, _, _, _, rfl, rfl, rfl, fun b6 => ⟨r, 5, _, _, _, _, rfl, rfl, rfl, ?_⟩⟩⟩⟩⟩
  exact ⟨r, b2, b3, b4, b5, b6, rfl, rfl⟩
abbrev acZ : List Value := [.int .i64 0, .string ⟨#[]⟩, .bool false, .slice none 0 0]
abbrev acB (b : Nat) (L : List Value) : Nat × Obj := (b, .cells L.toArray 71 (0, 0))
abbrev vAc (t : Tt) : Value := .agg #[.int .i64 t.1, .string t.2.1, .bool t.2.2, .slice none 0 0]
theorem put_ac {K : Int → ByteArray → Bool → Option Addr → Nat → Nat → SH → Prop} {b : Nat} {L : List Value} {F S : SH} {I : IMem} {k : Int} {t : ByteArray} {w : Bool} {p : Option Addr} {n c : Nat} (hL : L.length = 4) (hs : Sub (acB b L :: F) S) (h : ∀ T, Sub F T → K k t w p n c T) :
    StP S ⟨b, 0, none⟩ [.int .i64 k, .string t, .bool w, .slice p n c] fun S1 => ∃ u0, Cell I S1 ⟨b, 0, none⟩ (.int .i64 u0) ∧ ∃ u1, Cell I S1 ((⟨b, 0, none⟩ : Addr).add 1) (.string u1) ∧ ∃ u2, Cell I S1 ((⟨b, 0, none⟩ : Addr).add 2) (.bool u2) ∧
      ∃ u3 u3n u3c, Cell I S1 ((⟨b, 0, none⟩ : Addr).add 3) (.slice u3 u3n u3c) ∧ K u0 u1 u2 u3 u3n u3c S1 := by
  refine StP.among (L' := [.int .i64 k, .string t, .bool w, .slice p n c]) hs (by rw [hL]; exact Nat.le_refl 4) rfl ?_ ?_
  · rw [List.take_zero, List.drop_of_length_le (by rw [hL]; exact Nat.le_refl 4), List.append_nil, List.nil_append]
  intro T hT
  exact ⟨_, Cell.among hT rfl, _, Cell.at_ (add_mk _ _ _) (Cell.among hT rfl), _, Cell.at_ (add_mk _ _ _) (Cell.among hT rfl), _, _, _, Cell.at_ (add_mk _ _ _) (Cell.among hT rfl), h T hT.drop⟩
theorem row_0 {I : IMem} {S : SH} {b : Nat} : RowIn I S (some ⟨b, 0, none⟩) ([] : List ByteArray).length 1 elS [] := ⟨rfl, fun i x h => by simp at h⟩
theorem target_end (n : ByteArray) {b2 : Nat} {L : List Value} {S T : SH} {J : IMem} (hL : L.length = 4) (hs : Sub (acB b2 L :: S) T) :
    action_target_b4 (fun v _ T => ∃ S', Sub S' T ∧ v = vAc (tgt2 n) ∧ S' = S) n ⟨b2, 0, none⟩ J T := by
  unfold action_target_b4
  intro b27
  refine (Make_runs (ls := [starB]) row_s (by show 1 ≤ 140737488355328; decide)).mono ?_
  rintro v J2 T2 hle2 ⟨rfl, rfl⟩
  rw [mk5]
  refine ⟨_, _, rfl, ?_⟩
  have plain : ¬ (n.size > 2 ∧ n.extract 0 2 = n5B) → action_target_b5 (fun v _ T => ∃ S', Sub S' T ∧ v = vAc (tgt2 n) ∧ S' = S) n ⟨b2, 0, none⟩ false J2 (w1 b27 starB :: T) := by
    intro h
    unfold action_target_b5 action_target_b6
    refine bcase_f rfl (put_ac hL (hs.skip _) fun T' hT' => ⟨S, hT', ?_, rfl⟩)
    rw [tgt2, if_neg h]
  refine bcase_dec (fun h => ⟨by decide, by omega, ?_⟩) (fun h => plain (fun g => h (by have := g.1; omega)))
  by_cases he : n.extract 0 2 = n5B
  · unfold action_target_b5
    refine bcase_t (keq.2 he) ⟨by decide, by omega, put_ac hL (hs.skip _) fun T' hT' => ⟨S, hT', ?_, rfl⟩⟩
    rw [tgt2, if_pos ⟨by omega, he⟩]; rfl
  · have : ((n.extract 0 (2 : Int).toNat).toList == n5B.toList) = false := by rw [← Bool.not_eq_true, keq]; exact he
    rw [this]
    exact plain fun g => he g.2
theorem target_runs (n : ByteArray) (I : IMem) (S : SH) : Runs Tryz.prog 97 #[.string n] I S fun v _ T => v = vAc (tgtF n) ∧ T = S := by
  refine Runs.drop (action_target_fn _ _ _ _ ?_)
  unfold action_target action_target_b1
  intro bA
  refine (words_runs _ _).mono ?_
  rintro v J1 T1 hle1 ⟨r, b2, b3, b4, b5, b6, rfl, rfl⟩
  refine ⟨_, rfl, wordsE b2 b3 b4 b5 b6, 5, .inr (by simp), fun b10 => ?_⟩
  have hb : Sub (acB bA acZ :: S) (wordsH r b2 b3 b4 b5 b6 (acB bA acZ :: S)) := ((((((Sub.refl _).skip _).skip _).skip _).skip _).skip _).skip _
  generalize hT : wordsH r b2 b3 b4 b5 b6 (acB bA acZ :: S) = T1 at hb
  have hm : (r, Obj.map (wordsE b2 b3 b4 b5 b6) 5) ∈ T1 := by rw [← hT]; simp
  have rows : ∀ {J : IMem} {x : Nat × Obj}, RowIn J (x :: T1) (some ⟨b3, 0, none⟩) [starB].length 1 elS [starB] ∧ RowIn J (x :: T1) (some ⟨b4, 0, none⟩) [passB].length 1 elS [passB] ∧ RowIn J (x :: T1) (some ⟨b5, 0, none⟩) [dropB].length 1 elS [dropB] ∧ RowIn J (x :: T1) (some ⟨b6, 0, none⟩) [tcpB].length 1 elS [tcpB] := by
    intro J x
    rw [← hT]
    exact ⟨row_s.sub ((((Sub.refl _).skip _).skip _).skip _ |>.skip _), row_s.sub (((Sub.refl _).skip _).skip _ |>.skip _), row_s.sub ((Sub.refl _).skip _ |>.skip _), row_s.sub ((Sub.refl _).skip _)⟩
  unfold action_target_b2
  refine ⟨fun m n' x2 it J T => n' = n ∧ x2 = ⟨bA, 0, none⟩ ∧ it = ⟨b10, 0, none⟩ ∧ J1.le J ∧ ∃ seen : Array Nat, m = unsn (wordsE b2 b3 b4 b5 b6) seen ∧ (seen.contains 0 = true → n ≠ ⟨#[]⟩) ∧ (seen.contains 1 = true → n ≠ n5B) ∧ (seen.contains 2 = true → n ≠ n2B) ∧ (seen.contains 3 = true → n ≠ n3B) ∧ (seen.contains 4 = true → n ≠ n6B) ∧ T = (b10, .mapIter (some r) 5 seen 5) :: T1,
    unsn (wordsE b2 b3 b4 b5 b6) #[], ⟨rfl, rfl, rfl, IMem.le.refl J1, #[], rfl, by simp, by simp, by simp, by simp, by simp, rfl⟩, ?_⟩
  rintro m n' x2 it J T - ⟨rfl, rfl, rfl, hle, seen, rfl, h0, h1, h2, h3, h4, rfl⟩
  unfold action_target_l3
  have mem : ∀ {e : MapEntry}, e ∈ wordsE b2 b3 b4 b5 b6 → e = wE 0 4 (sl1 b2 0) ∨ e = wE 1 5 (sl1 b3 1) ∨ e = wE 2 2 (sl1 b4 1) ∨ e = wE 3 3 (sl1 b5 1) ∨ e = wE 4 6 (sl1 b6 1) := by
    intro e he
    simpa [wordsE] using he
  refine ⟨0, r, 5, seen, 5, wordsE b2 b3 b4 b5 b6, 5, rfl, rfl, .inr (List.mem_cons_of_mem _ hm), Nat.le_refl 5, fun e he => ?_, fun hall => ?_, fun e he hun => ?_⟩
  · rcases mem he with rfl | rfl | rfl | rfl | rfl <;> simp
  · have hn : tgtF n' = tgt2 n' := by
      rw [tgtF, if_neg (h0 (hall _ (by simp [wordsE] : wE 0 4 (sl1 b2 0) ∈ _))), if_neg (h1 (hall (wE 1 5 (sl1 b3 1)) (by simp [wordsE]))), if_neg (h2 (hall (wE 2 2 (sl1 b4 1)) (by simp [wordsE]))), if_neg (h3 (hall (wE 3 3 (sl1 b5 1)) (by simp [wordsE]))), if_neg (h4 (hall (wE 4 6 (sl1 b6 1)) (by simp [wordsE])))]
    rw [hn]
    exact target_end n' (L := acZ) rfl (hb.skip _)
  · have hlt := unsn_lt he hun
    unfold action_target_b7
    refine ⟨r, 5, seen.push e.born, e.born, wordsE b2 b3 b4 b5 b6, 5, e, rfl, List.mem_cons_self .., by simp, .inr (List.mem_cons_of_mem _ hm), ?_, ?_⟩
    · rcases mem he with rfl | rfl | rfl | rfl | rfl <;> rfl
    have push : ∀ i, (seen.push e.born).contains i = true → seen.contains i = true ∨ i = e.born := by
      intro i h
      have hx : (seen.push e.born).contains i = (seen.contains i || i == e.born) := by
        rw [Bool.eq_iff_iff]; simp [or_comm]
      rw [hx, Bool.or_eq_true] at h
      exact h.imp id (fun h => by simpa using h)
    have step : ∀ (k : Int) (b l : Nat) (ls : List ByteArray) (nme : ByteArray), l = ls.length → ls.length ≤ 1 → makeN ls ByteArray.empty = some nme → (∀ {J : IMem} {x : Nat × Obj}, RowIn J (x :: T1) (some ⟨b, 0, none⟩) ls.length 1 elS ls) → (n' = nme → tgtF n' = (k, ⟨#[]⟩, false)) →
        (n' ≠ nme → ((seen.push e.born).contains 0 = true → n' ≠ ⟨#[]⟩) ∧ ((seen.push e.born).contains 1 = true → n' ≠ n5B) ∧ ((seen.push e.born).contains 2 = true → n' ≠ n2B) ∧ ((seen.push e.born).contains 3 = true → n' ≠ n3B) ∧ ((seen.push e.born).contains 4 = true → n' ≠ n6B)) →
        action_target_b8 (fun n x2 it J T => ∃ m', m' < unsn (wordsE b2 b3 b4 b5 b6) seen ∧ (n = n' ∧ x2 = ⟨bA, 0, none⟩ ∧ it = ⟨b10, 0, none⟩ ∧ J1.le J ∧ ∃ seen : Array Nat, m' = unsn (wordsE b2 b3 b4 b5 b6) seen ∧ (seen.contains 0 = true → n' ≠ ⟨#[]⟩) ∧ (seen.contains 1 = true → n' ≠ n5B) ∧ (seen.contains 2 = true → n' ≠ n2B) ∧ (seen.contains 3 = true → n' ≠ n3B) ∧ (seen.contains 4 = true → n' ≠ n6B) ∧ T = (b10, .mapIter (some r) 5 seen 5) :: T1))
          (fun v J T => ∃ L, Sub L T ∧ v = vAc (tgtF n') ∧ L = S) n' ⟨bA, 0, none⟩ k (sl1 b l) ⟨b10, 0, none⟩ J ((b10, .mapIter (some r) 5 (seen.push e.born) 5) :: T1) := by
      intro k b l ls nme hl hl1 hmk hrow heq hne
      subst hl
      unfold action_target_b8
      refine (Make_runs (ls := ls) hrow (by omega)).mono ?_
      rintro v J2 T2 hle2 ⟨rfl, rfl⟩
      rw [hmk]
      refine ⟨_, _, rfl, bcase_of (fun h => ?_) (fun h => ?_)⟩
      · have hn := (keq.1 h).symm
        refine put_ac (L := acZ) rfl (hb.skip _) fun T' hT' => ⟨S, hT', ?_, rfl⟩
        rw [heq hn]
      · have hn : n' ≠ nme := fun e => by rw [keq.2 e.symm] at h; cases h
        obtain ⟨g0, g1, g2, g3, g4⟩ := hne hn
        exact ⟨_, hlt, rfl, rfl, rfl, hle.trans hle2, seen.push e.born, rfl, g0, g1, g2, g3, g4, rfl⟩
    rcases mem he with rfl | rfl | rfl | rfl | rfl
    · refine step 4 b2 0 [] ⟨#[]⟩ rfl (by decide) mk4 row_0 (fun h => by subst h; rfl) (fun hn => ⟨fun _ => hn, fun h => ?_, fun h => ?_, fun h => ?_, fun h => ?_⟩)
      · exact h1 ((push _ h).resolve_right (by simp))
      · exact h2 ((push _ h).resolve_right (by simp))
      · exact h3 ((push _ h).resolve_right (by simp))
      · exact h4 ((push _ h).resolve_right (by simp))
    · refine step 5 b3 1 [starB] n5B rfl (by decide) mk5 (fun {J x} => rows.1) (fun h => by subst h; decide +kernel) (fun hn => ⟨fun h => ?_, fun _ => hn, fun h => ?_, fun h => ?_, fun h => ?_⟩)
      · exact h0 ((push _ h).resolve_right (by simp))
      · exact h2 ((push _ h).resolve_right (by simp))
      · exact h3 ((push _ h).resolve_right (by simp))
      · exact h4 ((push _ h).resolve_right (by simp))
    · refine step 2 b4 1 [passB] n2B rfl (by decide) mk2 (fun {J x} => rows.2.1) (fun h => by subst h; decide +kernel) (fun hn => ⟨fun h => ?_, fun h => ?_, fun _ => hn, fun h => ?_, fun h => ?_⟩)
      · exact h0 ((push _ h).resolve_right (by simp))
      · exact h1 ((push _ h).resolve_right (by simp))
      · exact h3 ((push _ h).resolve_right (by simp))
      · exact h4 ((push _ h).resolve_right (by simp))
    · refine step 3 b5 1 [dropB] n3B rfl (by decide) mk3 (fun {J x} => rows.2.2.1) (fun h => by subst h; decide +kernel) (fun hn => ⟨fun h => ?_, fun h => ?_, fun h => ?_, fun _ => hn, fun h => ?_⟩)
      · exact h0 ((push _ h).resolve_right (by simp))
      · exact h1 ((push _ h).resolve_right (by simp))
      · exact h2 ((push _ h).resolve_right (by simp))
      · exact h4 ((push _ h).resolve_right (by simp))
    · refine step 6 b6 1 [tcpB] n6B rfl (by decide) mk6 (fun {J x} => rows.2.2.2) (fun h => by subst h; decide +kernel) (fun hn => ⟨fun h => ?_, fun h => ?_, fun h => ?_, fun h => ?_, fun _ => hn⟩)
      · exact h0 ((push _ h).resolve_right (by simp))
      · exact h1 ((push _ h).resolve_right (by simp))
      · exact h2 ((push _ h).resolve_right (by simp))
      · exact h3 ((push _ h).resolve_right (by simp))
end Go.Proofs.YtmlojdbahlfiaaaGreatDoor
/- What the records of a name do. -/
namespace Go.Proofs.YtmlojdbahlfiaaaGreatDoor
open Go.Px
set_option linter.unusedVariables false
set_option linter.unusedSimpArgs false

structure Av where
  k : Int
  t : ByteArray
  w : Bool
  rs : List Rc
def av0 : Av := ⟨0, ⟨#[]⟩, false, []⟩
def badR (n : Nat) (r : Rc) : Bool := bif r.2.1 == 5 then (bif decide (n > 1) then true else (bif r.2.1 == 6 then true else r.2.1 == 2)) else (bif r.2.1 == 6 then true else r.2.1 == 2)
def actF (rs : List Rc) : Option Av := if rs.any (badR rs.length) = true then none else match rs with
  | [] => none
  | r :: _ => if r.2.1 = 5 then some ⟨(tgtF r.2.2.2).1, (tgtF r.2.2.2).2.1, (tgtF r.2.2.2).2.2, []⟩ else some ⟨8, ⟨#[]⟩, false, rs⟩
abbrev vAv (a : Av) (p : Option Addr) (n c : Nat) : Value := .agg #[.int .i64 a.k, .string a.t, .bool a.w, .slice p n c]
abbrev encAv (a : Av) (p : Option Addr) (n c : Nat) : List Value := [.int .i64 a.k, .string a.t, .bool a.w, .slice p n c]
def AcR (a : Av) (b : Bool) (S : SH) (v : Value) (T : SH) : Prop := ∃ p n c own, v = .tuple #[vAv a p n c, .bool b] ∧ OwnZ (.slice p n c) a.rs own ∧ Sub (own ++ S) T
theorem any_snocR {xs : List Rc} {k : Nat} {x : Rc} {f : Rc → Bool} (h : xs[k]? = some x) : (xs.take (k + 1)).any f = ((xs.take k).any f || f x) := by
  rw [take_snoc h, List.any_append]; simp
theorem app_r {xs : List Rc} {r : Rc} {b : Nat} {v : Value} {S F own : SH} {I : IMem} {K : Option Addr → Nat → Nat → SH → Prop} (hs : Sub (own ++ F) S) (hv : OwnZ v xs own) (hl : xs.length ≤ 1000000000)
    (hK : ∀ p n c own' T, OwnZ (.slice p n c) (xs ++ [r]) own' → Sub (own' ++ F) T → K p n c T) :
    AppG 69 4 40 zR (some (.slice 69)) I ((b, .cells #[.string r.1, .int .u16 r.2.1, .int .u32 r.2.2.1, .string r.2.2.2] 69 (0, 0)) :: S) v (.slice (some ⟨b, 0, none⟩) 1 1) K := by
  obtain ⟨G, hG⟩ := hs.skip (b, .cells #[.string r.1, .int .u16 r.2.1, .int .u32 r.2.2.1, .string r.2.2.2] 69 (0, 0))
  exact AppG.own (xs := xs) (ys := [r]) (el := encR) encR_len encR_one rfl (by rw [List.append_assoc] at hG; exact hG) hv ⟨Rd.list (L := encR r) rfl (by simp [encR_len]), rfl⟩ (by simp only [List.length_singleton, maxLen]; omega) (by simp only [List.length_singleton]; omega)
    fun p n c own' h => hK p n c own' _ h ⟨G, by rw [List.append_assoc]⟩
theorem of_none {S T : SH} {b : Nat} {L : List Value} {J : IMem} {rs : List Rc} (hL : L.length = 4) (hs : Sub (acB b L :: S) T) (h : actF rs = none) : StP T ⟨b, 0, none⟩ [.int .i64 0, .string ⟨#[]⟩, .bool false, .slice none 0 0] fun S1 =>
    ∃ u0, Cell J S1 ⟨b, 0, none⟩ (.int .i64 u0) ∧ ∃ u1, Cell J S1 ((⟨b, 0, none⟩ : Addr).add 1) (.string u1) ∧ ∃ u2, Cell J S1 ((⟨b, 0, none⟩ : Addr).add 2) (.bool u2) ∧
      ∃ u3 u3n u3c, Cell J S1 ((⟨b, 0, none⟩ : Addr).add 3) (.slice u3 u3n u3c) ∧ AcR ((actF rs).getD av0) (actF rs).isSome S (.tuple #[.agg #[.int .i64 u0, .string u1, .bool u2, .slice u3 u3n u3c], .bool false]) S1 := by
  refine put_ac hL hs fun T' hT' => ?_
  rw [h]
  exact ⟨_, _, _, [], rfl, OwnR.nil, hT'⟩
theorem AOf_runs {rs : List Rc} {a : Option Addr} {c : Nat} {I : IMem} {S : SH} (hx : RowIn I S a rs.length 4 encR rs) (hl : rs.length ≤ 100000) :
    Runs Tryz.prog 62 #[.slice a rs.length c] I S fun v _ T => AcR ((actF rs).getD av0) (actF rs).isSome S v T := by
  refine action_Of_fn _ _ _ _ _ _ ?_
  unfold action_Of action_Of_b1 action_Of_b2
  intro bA
  refine ⟨fun m y yn yc x2 o on oc z zn zc q i J T => y = a ∧ yn = rs.length ∧ yc = c ∧ x2 = ⟨bA, 0, none⟩ ∧ z = a ∧ zn = rs.length ∧ zc = c ∧ q = (rs.length : Int) ∧ I.le J ∧ ∃ (k : Nat) (own : SH), i = (k : Int) ∧ k ≤ rs.length ∧ m = rs.length - k ∧ (rs.take k).any (badR rs.length) = false ∧ OwnZ (.slice o on oc) (rs.take k) own ∧ Sub (own ++ (acB bA acZ :: S)) T,
    rs.length, ⟨rfl, rfl, rfl, rfl, rfl, rfl, rfl, rfl, IMem.le.refl I, 0, [], rfl, Nat.zero_le _, rfl, rfl, OwnR.nil, Sub.refl _⟩, ?_⟩
  rintro m y yn yc x2 o on oc z zn zc q i J T - ⟨rfl, rfl, rfl, rfl, rfl, rfl, rfl, rfl, hle, k, own, rfl, hk, rfl, hf, ho, hs⟩
  have hrow : ∀ {T' : SH}, Sub S T' → RowIn J T' z rs.length 4 encR rs := fun h => (hx.le hle).sub h
  have hS : Sub S T := hs.right.drop
  unfold action_Of_l3
  refine bcase_dec (fun hg => ?_) (fun hg => ?_)
  · obtain ⟨r, hr⟩ := get_lt (xs := rs) (k := k) (by omega)
    obtain ⟨a', rfl, hc⟩ := (hrow hS).cell hr
    obtain ⟨c0, c1, c2, c3⟩ := CellsR hc
    unfold action_Of_b4
    refine ⟨by omega, by omega, _, c0, _, c1, _, c2, _, c3, fun b6 => StP.rec (x := r) ?_⟩
    have hR : Sub ((b6, Obj.cells (encR r).toArray 69 (0, 0)) :: T) ((b6, Obj.cells (encR r).toArray 69 (0, 0)) :: T) := Sub.refl _
    have bad : badR rs.length r = true → actF rs = none := fun h => by
      unfold actF
      rw [if_pos (List.any_eq_true.2 ⟨r, List.mem_of_getElem? hr, h⟩)]
    have go : ∀ (x : Bool), x = badR rs.length r → action_Of_b6 (fun y yn yc x2 o on oc z zn zc q i J T => ∃ m', m' < rs.length - k ∧ (y = some a' ∧ yn = rs.length ∧ yc = zc ∧ x2 = ⟨bA, 0, none⟩ ∧ z = some a' ∧ zn = rs.length ∧ zc = zc ∧ q = (rs.length : Int) ∧ I.le J ∧ ∃ (k : Nat) (own : SH), i = (k : Int) ∧ k ≤ rs.length ∧ m' = rs.length - k ∧ (rs.take k).any (badR rs.length) = false ∧ OwnZ (.slice o on oc) (rs.take k) own ∧ Sub (own ++ (acB bA acZ :: S)) T))
        (fun v _ T => AcR ((actF rs).getD av0) (actF rs).isSome S v T) (some a') rs.length zc ⟨bA, 0, none⟩ o on oc ⟨b6, 0, none⟩ (some a') rs.length zc (rs.length : Int) (k : Int) x J ((b6, Obj.cells (encR r).toArray 69 (0, 0)) :: T) := by
      intro x hxx
      unfold action_Of_b6
      refine bcase_of (fun h => ?_) (fun h => ?_)
      · exact of_none (L := acZ) rfl ((hs.right).skip _) (bad (hxx ▸ h))
      · unfold action_Of_b7 action_Of_b8
        refine ⟨_, Cell.at0 rfl, _, Cell.at0 rfl, _, Cell.at0 rfl, _, Cell.at0 rfl, fun b34 => app_r (r := r) (hs.skip _) ho (by rw [List.length_take]; omega) ?_⟩
        intro p n c own' T' ho' hT'
        rw [← take_snoc hr] at ho'
        exact ⟨rs.length - (k + 1), by omega, rfl, rfl, rfl, rfl, rfl, rfl, rfl, rfl, hle, k + 1, own', by rw [wrap_i64 (by omega) (by omega)]; rfl, by omega, rfl, by rw [any_snocR hr, hf, ← hxx, h]; rfl, ho', hT'⟩
    unfold action_Of_b5
    have cr : Cell J ((b6, Obj.cells (encR r).toArray 69 (0, 0)) :: T) ((⟨b6, 0, none⟩ : Addr).add 1) (.int .u16 r.2.1) := Cell.at_ (add_mk _ _ _) (Cell.at0 rfl)
    unfold badR at go
    refine ⟨_, cr, bcase_of (fun h5 => ?_) (fun h5 => ?_)⟩
    · rw [h5] at go
      refine bcase_of (fun h => go true (by rw [show decide (rs.length > 1) = true from decide_eq_true (by have := of_decide_eq_true h; omega)]; rfl)) (fun h => ⟨_, cr, bcase_of (fun h6 => go true ?_) (fun h6 => ⟨_, cr, go _ ?_⟩)⟩)
      · rw [show decide (rs.length > 1) = false from decide_eq_false (by have := of_decide_eq_false h; omega), h6]; rfl
      · rw [show decide (rs.length > 1) = false from decide_eq_false (by have := of_decide_eq_false h; omega), h6]; rfl
    · rw [h5] at go
      refine ⟨_, cr, bcase_of (fun h6 => go true ?_) (fun h6 => ⟨_, cr, go _ ?_⟩)⟩
      · rw [h6]; rfl
      · rw [h6]; rfl
  · have hke : k = rs.length := by omega
    subst hke
    rw [List.take_length] at hf ho
    unfold action_Of_b9
    have hB : Sub (acB bA acZ :: (own ++ S)) T := hs.re (by intro a; simp only [List.append_eq, cnt_cons, cnt_app]; omega)
    refine bcase_beq (fun h0 => ?_) (fun h0 => ?_)
    · refine of_none (L := acZ) rfl hs.right ?_
      have : rs = [] := List.eq_nil_of_length_eq_zero (by omega)
      rw [this]; rfl
    · obtain ⟨r, l, rfl⟩ : ∃ r l, rs = r :: l := by
        cases rs with
        | nil => exact absurd rfl h0
        | cons r l => exact ⟨r, l, rfl⟩
      obtain ⟨a', rfl, hc⟩ := (hrow hS).cell (i := 0) (x := r) rfl
      obtain ⟨c0, c1, c2, c3⟩ := CellsR hc
      have hact : actF (r :: l) = if r.2.1 = 5 then some ⟨(tgtF r.2.2.2).1, (tgtF r.2.2.2).2.1, (tgtF r.2.2.2).2.2, []⟩ else some ⟨8, ⟨#[]⟩, false, r :: l⟩ := by
        unfold actF
        rw [if_neg (by rw [hf]; exact Bool.false_ne_true)]
      have hpos : (0 : Int) < ((r :: l).length : Int) := by rw [List.length_cons]; omega
      refine ⟨by omega, hpos, _, c1, bcase_beq (fun h5 => ?_) (fun h5 => ?_)⟩
      · rw [hact, if_pos h5]
        refine ⟨by omega, hpos, _, c3, (target_runs _ _ _).mono ?_⟩
        rintro v J2 T2 hle2 ⟨rfl, rfl⟩
        refine ⟨_, _, _, _, _, _, rfl, put_ac (L := acZ) rfl hs.right fun T' hT' => ?_⟩
        exact ⟨_, _, _, [], rfl, OwnR.nil, hT'⟩
      · rw [hact, if_neg h5]
        refine put_ac (L := acZ) rfl hB fun T' hT' => ?_
        exact ⟨_, _, _, own, rfl, ho, hT'⟩
def keepO (k : Int) : Bool := bif k == 0 then true else (bif k == 8 then true else (bif k == 7 then true else (bif decide (k < 0) then true else decide (k > 8))))
def overF (a : Av) (k : Int) : Av := if keepO k = true then a else ⟨k, ⟨#[]⟩, false, []⟩
theorem Over_runs (a : Av) (p : Option Addr) (n c : Nat) (k : Int) (I : IMem) (S : SH) : Runs Tryz.prog 64 #[vAv a p n c, .int .i64 k] I S fun v _ T => v = (if keepO k = true then vAv a p n c else vAv (overF a k) none 0 0) ∧ T = S := by
  refine Runs.drop (action_Over_fn _ _ _ _ _ _ _ _ _ _ ?_)
  unfold action_Over action_Over_b1
  intro b2 b4
  have hB : Sub (acB b4 acZ :: (acB b2 (encAv a p n c) :: S)) (acB b4 acZ :: acB b2 (encAv a p n c) :: S) := Sub.refl _
  have hA : Sub (acB b2 (encAv a p n c) :: S) (acB b4 acZ :: acB b2 (encAv a p n c) :: S) := (Sub.refl _).skip _
  have go : ∀ x, x = keepO k → action_Over_b2 (fun v _ T => ∃ L, Sub L T ∧ v = (if keepO k = true then vAv a p n c else vAv (overF a k) none 0 0) ∧ L = S) k ⟨b2, 0, none⟩ ⟨b4, 0, none⟩ x I (acB b4 acZ :: acB b2 (encAv a p n c) :: S) := by
    intro x hx
    unfold action_Over_b2
    refine bcase_of (fun h => ?_) (fun h => ?_)
    · rw [if_pos (hx ▸ h)]
      refine ⟨_, Cell.among hA rfl, _, Cell.at_ (add_mk _ _ _) (Cell.among hA rfl), _, Cell.at_ (add_mk _ _ _) (Cell.among hA rfl), _, _, _, Cell.at_ (add_mk _ _ _) (Cell.among hA rfl), put_ac (L := acZ) rfl hB fun T hT => ⟨S, hT.drop, rfl, rfl⟩⟩
    · have hk : ¬ keepO k = true := by rw [← hx, h]; exact Bool.false_ne_true
      unfold action_Over_b3
      rw [if_neg hk]
      refine put_ac (L := acZ) rfl hB fun T hT => ⟨S, hT.drop, ?_, rfl⟩
      rw [overF, if_neg hk]
  refine bcase_of (fun h0 => go true (by rw [keepO, h0]; rfl)) (fun h0 => bcase_of (fun h1 => go true (by rw [keepO, h0, h1]; rfl)) (fun h1 => bcase_of (fun h2 => go true (by rw [keepO, h0, h1, h2]; rfl)) (fun h2 => bcase_of (fun h3 => go true (by rw [keepO, h0, h1, h2, h3]; rfl)) (fun h3 => go _ (by rw [keepO, h0, h1, h2, h3]; rfl)))))
end Go.Proofs.YtmlojdbahlfiaaaGreatDoor
/- What a name of a policy zone does. -/
namespace Go.Proofs.YtmlojdbahlfiaaaGreatDoor
open Go.Px
set_option linter.unusedVariables false
set_option linter.unusedSimpArgs false

structure Pl where
  o : ByteArray
  zn : Sl
  zs : List Rc
  live : Bool
  over : Int
abbrev encPl (p : Pl) : List Value := [.string p.o, .slice p.zn.1 p.zn.2.1 p.zn.2.2, .bool p.live, .int .i64 p.over]
abbrev vPl (p : Pl) : Value := .agg #[.string p.o, .slice p.zn.1 p.zn.2.1 p.zn.2.2, .bool p.live, .int .i64 p.over]
abbrev plB (b : Nat) (p : Pl) : Nat × Obj := (b, .cells (encPl p).toArray 61 (0, 0))
structure PlIn (I : IMem) (S : SH) (p : Pl) : Prop where
  row : RowIn I S p.zn.1 p.zs.length 4 encR p.zs
  len : p.zn.2.1 = p.zs.length
  few : p.zs.length ≤ 10000
theorem PlIn.keep {I J : IMem} {S T : SH} {p : Pl} (hk : Keep I S J T) (h : PlIn I S p) : PlIn J T p := ⟨h.row.keep hk, h.len, h.few⟩
theorem PlIn.sub {I : IMem} {S T : SH} {p : Pl} (hs : Sub S T) (h : PlIn I S p) : PlIn I T p := h.keep (hs.keep (IMem.le.refl I))
theorem PlIn.le {I J : IMem} {S : SH} {p : Pl} (hle : I.le J) (h : PlIn I S p) : PlIn J S p := h.keep ((Sub.refl S).keep hle)
noncomputable def nodeF (p : Pl) (n : ByteArray) : Option (Tg × Av) := if (stripN n p.o).2 = true then (match decF (stripN n p.o).1, actF (p.zs.filter (ofN n)) with
  | some t, some a => some (t, overF a p.over)
  | _, _ => none) else none
def NdR (r : Option (Tg × Av)) (S : SH) (v : Value) (T : SH) : Prop := ∃ p n c own, v = .tuple #[vT (r.getD (t0, av0)).1, vAv (r.getD (t0, av0)).2 p n c, .bool r.isSome] ∧ OwnZ (.slice p n c) (r.getD (t0, av0)).2.rs own ∧ Sub (own ++ S) T
theorem put_tg {K : SH → Prop} {b : Nat} {x t : Tg} {F S : SH} (hs : Sub (tgB b x :: F) S) (h : ∀ T, Sub (tgB b t :: F) T → K T) : StP S ⟨b, 0, none⟩ [.int .i64 t.1, .string t.2.1, .string t.2.2.1, .int .i64 t.2.2.2] K :=
  StP.among (L := elT x) (L' := elT t) hs (Nat.le_of_ble_eq_true rfl) rfl rfl h
theorem put_av {K : SH → Prop} {b : Nat} {L : List Value} {a : Av} {p : Option Addr} {n c : Nat} {F S : SH} (hL : L.length = 4) (hs : Sub (acB b L :: F) S) (h : ∀ T, Sub (acB b (encAv a p n c) :: F) T → K T) : StP S ⟨b, 0, none⟩ [.int .i64 a.k, .string a.t, .bool a.w, .slice p n c] K :=
  StP.among (L := L) (L' := encAv a p n c) hs (by rw [hL]; exact Nat.le_refl 4) rfl (by rw [List.take_zero, List.drop_of_length_le (by rw [hL]; exact Nat.le_refl 4), List.append_nil, List.nil_append]) h
theorem avX {I : IMem} {S F : SH} {b : Nat} {a : Av} {p : Option Addr} {n c : Nat} (hs : Sub (acB b (encAv a p n c) :: F) S) : Cell I S ⟨b, 0, none⟩ (.int .i64 a.k) ∧ Cell I S ((⟨b, 0, none⟩ : Addr).add 1) (.string a.t) ∧ Cell I S ((⟨b, 0, none⟩ : Addr).add 2) (.bool a.w) ∧ Cell I S ((⟨b, 0, none⟩ : Addr).add 3) (.slice p n c) :=
  ⟨Cell.among hs rfl, Cell.at_ (add_mk _ _ _) (Cell.among hs rfl), Cell.at_ (add_mk _ _ _) (Cell.among hs rfl), Cell.at_ (add_mk _ _ _) (Cell.among hs rfl)⟩
section
variable {b2 b4 b5 b9 b11 : Nat} {p : Pl} {t : Tg} {a : Av} {q : Option Addr} {n c : Nat} {own F S T : SH} {J : IMem}
theorem nd_none {r : Option (Tg × Av)} (hr : r = none) (hs : Sub (acB b5 acZ :: (tgB b4 t0 :: S)) T) : search_Node_b2 (fun v _ T => NdR r S v T) ⟨b2, 0, none⟩ ⟨b4, 0, none⟩ ⟨b5, 0, none⟩ ⟨b9, 0, none⟩ ⟨b11, 0, none⟩ true J T := by
  unfold search_Node_b2
  refine bcase_t rfl (put_tg (x := t0) (t := t0) (F := acB b5 acZ :: S) (hs.re (by intro a; simp only [cnt_cons]; omega)) fun T1 hT1 => put_av (L := acZ) (a := av0) (p := none) (n := 0) (c := 0) (F := tgB b4 t0 :: S) rfl (hT1.re (by intro a; simp only [cnt_cons]; omega)) fun T2 hT2 => ?_)
  obtain ⟨c0, c1, c2, _, c3⟩ := tgX (I := J) (hT2.re (by intro a; simp only [cnt_cons]; omega) : Sub (tgB b4 t0 :: (acB b5 (encAv av0 none 0 0) :: S)) T2)
  obtain ⟨d0, d1, d2, d3⟩ := avX (I := J) hT2
  refine ⟨_, c0, _, c1, _, c2, _, c3, _, d0, _, d1, _, d2, _, _, _, d3, ?_⟩
  rw [hr]
  exact ⟨_, _, _, [], rfl, OwnR.nil, hT2.drop.drop⟩
theorem nd_some {r : Option (Tg × Av)} (hr : r = some (t, overF a p.over)) (ho : OwnZ (.slice q n c) a.rs own) (hs : Sub (acB b11 (encAv a q n c) :: (tgB b9 t :: (acB b5 acZ :: (tgB b4 t0 :: (plB b2 p :: (own ++ S)))))) T) :
    search_Node_b3 (fun v _ T => NdR r S v T) ⟨b2, 0, none⟩ ⟨b4, 0, none⟩ ⟨b5, 0, none⟩ ⟨b9, 0, none⟩ ⟨b11, 0, none⟩ J T := by
  obtain ⟨c0, c1, c2, _, c3⟩ := tgX (I := J) hs.drop
  obtain ⟨d0, d1, d2, d3⟩ := avX (I := J) hs
  unfold search_Node_b3
  refine ⟨_, c0, _, c1, _, c2, _, c3, _, d0, _, d1, _, d2, _, _, _, d3, _, Cell.at_ (add_mk _ _ _) (Cell.among hs.drop.drop.drop.drop rfl), (Over_runs a q n c p.over _ _).mono ?_⟩
  rintro v J2 T2 hle2 ⟨rfl, rfl⟩
  have fin : ∀ (a' : Av) (q' : Option Addr) (n' c' : Nat) (own' : SH), overF a p.over = a' → OwnZ (.slice q' n' c') a'.rs own' → (∀ {X : SH}, Sub (own ++ S) X → Sub (own' ++ S) X) →
      StP T2 ⟨b4, 0, none⟩ [.int .i64 t.1, .string t.2.1, .string t.2.2.1, .int .i64 t.2.2.2] fun S1 => StP S1 ⟨b5, 0, none⟩ [.int .i64 a'.k, .string a'.t, .bool a'.w, .slice q' n' c'] fun S2 => search_Node_b4 (fun v _ T => NdR r S v T) ⟨b4, 0, none⟩ ⟨b5, 0, none⟩ true J2 S2 := by
    intro a' q' n' c' own' ha ho' hX
    refine put_tg (x := t0) (t := t) (F := acB b5 acZ :: (own ++ S)) ((hs.re (by intro a; simp only [cnt_cons, cnt_app, cnt_nil]; omega) : Sub (tgB b4 t0 :: (acB b5 acZ :: (own ++ S)) ++ [acB b11 (encAv a q n c), tgB b9 t, plB b2 p]) T2).left) fun T1 hT1 => put_av (L := acZ) (a := a') (F := tgB b4 t :: (own ++ S)) rfl (hT1.re (by intro a; simp only [cnt_cons, cnt_app]; omega)) fun T3 hT3 => ?_
    obtain ⟨c0, c1, c2, _, c3⟩ := tgX (I := J2) (hT3.re (by intro a; simp only [cnt_cons, cnt_app]; omega) : Sub (tgB b4 t :: (acB b5 (encAv a' q' n' c') :: (own ++ S))) T3)
    obtain ⟨d0, d1, d2, d3⟩ := avX (I := J2) hT3
    unfold search_Node_b4
    refine ⟨_, c0, _, c1, _, c2, _, c3, _, d0, _, d1, _, d2, _, _, _, d3, ?_⟩
    rw [hr, ha]
    exact ⟨_, _, _, own', rfl, ho', hX hT3.drop.drop⟩
  by_cases hk : keepO p.over = true
  · have e : overF a p.over = a := by rw [overF, if_pos hk]
    rw [if_pos hk]
    exact ⟨_, _, _, _, _, _, rfl, (Sub.refl _).keep hle2, fin a q n c own e ho id⟩
  · have e : overF a p.over = ⟨p.over, ⟨#[]⟩, false, []⟩ := by rw [overF, if_neg hk]
    rw [if_neg hk, e]
    exact ⟨_, _, _, _, _, _, rfl, (Sub.refl _).keep hle2, fin _ none 0 0 [] e OwnR.nil fun h => h.right⟩
end
theorem Node_runs (p : Pl) (nn : ByteArray) {I : IMem} {S : SH} (g : GL I) (hp : PlIn I S p) : Runs Tryz.prog 26 #[vPl p, .string nn] I S fun v _ T => NdR (nodeF p nn) S v T := by
  refine search_Node_fn _ _ _ _ _ _ _ _ _ _ ?_
  unfold search_Node
  intro b2 b4 b5
  refine ⟨_, Cell.tl (Cell.tl (Cell.at0 rfl)), (Strip_runs _ _ _ _).mono ?_⟩
  rintro v J1 T1 hle1 ⟨rfl, rfl⟩
  refine ⟨_, _, rfl, (Decode_runs _ (g.le hle1) _).mono ?_⟩
  rintro v J2 T2 hle2 ⟨rfl, rfl⟩
  have hres : ∃ t b, resT (decF (stripN nn p.o).1) = .tuple #[vT t, .bool b] ∧ (decF (stripN nn p.o).1 = if b = true then some t else none) := by
    cases decF (stripN nn p.o).1 with
    | none => exact ⟨t0, false, rfl, rfl⟩
    | some t => exact ⟨t, true, rfl, rfl⟩
  obtain ⟨t, b, hv, hd⟩ := hres
  rw [hv]
  have hle := hle1.trans hle2
  refine ⟨_, _, _, _, _, rfl, fun b9 => StP.all (vs := elT t) rfl rfl ⟨_, _, _, Cell.tl (Cell.tl (Cell.tl (Cell.at0 rfl))), ?_⟩⟩
  have hrow : RowIn J2 (tgB b9 t :: (acB b5 acZ :: (tgB b4 t0 :: (plB b2 p :: S)))) p.zn.1 p.zs.length 4 encR p.zs := (hp.row.le hle).sub ((((Sub.refl S).skip _).skip _).skip _ |>.skip _)
  have hat := At_runs (c := p.zn.2.2) (n := nn) hrow (by have := hp.few; omega)
  rw [← hp.len] at hat
  refine hat.mono ?_
  rintro v J3 T3 hle3 ⟨own1, ho1, hs3⟩
  obtain ⟨p1, c1, rfl⟩ := ho1.slice
  have hfl : (p.zs.filter (ofN nn)).length ≤ 10000 := Nat.le_trans (List.length_filter_le _ _) hp.few
  refine ⟨_, _, _, rfl, (AOf_runs ((ho1.row encR_len).sub hs3.left) (by omega)).mono ?_⟩
  rintro v J4 T4 hle4 ⟨q, n, c, own, rfl, ho, hs4⟩
  refine ⟨_, _, _, _, _, _, _, rfl, fun b11 => StP.all (vs := encAv ((actF (p.zs.filter (ofN nn))).getD av0) q n c) rfl rfl ?_⟩
  have hall : Sub (acB b11 (encAv ((actF (p.zs.filter (ofN nn))).getD av0) q n c) :: (tgB b9 t :: (acB b5 acZ :: (tgB b4 t0 :: (plB b2 p :: (own ++ S)))))) (acB b11 (encAv ((actF (p.zs.filter (ofN nn))).getD av0) q n c) :: T4) := by
    have h1 := ((Sub.refl own).both hs3.right).trans hs4
    exact (h1.cons (acB b11 (encAv ((actF (p.zs.filter (ofN nn))).getD av0) q n c))).re (by intro a; simp only [cnt_cons, cnt_app]; omega)
  have hnone : Sub (acB b5 acZ :: (tgB b4 t0 :: S)) (acB b11 (encAv ((actF (p.zs.filter (ofN nn))).getD av0) q n c) :: T4) := (hall.re (by intro a; simp only [cnt_cons, cnt_app, cnt_nil]; omega) : Sub ((acB b5 acZ :: (tgB b4 t0 :: S)) ++ (acB b11 (encAv ((actF (p.zs.filter (ofN nn))).getD av0) q n c) :: tgB b9 t :: plB b2 p :: own)) _).left
  unfold search_Node_b1
  refine bcase_not (bcase_of (fun h1 => bcase_not (bcase_of (fun h2 => ?_) (fun h2 => ?_))) (fun h1 => ?_))
  · rw [h2, if_pos rfl] at hd
    cases ha : actF (p.zs.filter (ofN nn)) with
    | none => exact nd_none (by rw [nodeF, if_pos h1, hd, ha]) (ha ▸ hnone)
    | some a =>
      unfold search_Node_b2
      refine bcase_f rfl (nd_some (t := t) (a := a) (p := p) (q := q) (n := n) (c := c) (own := own) (by rw [nodeF, if_pos h1, hd, ha]) ?_ ?_)
      · rw [ha] at ho; exact ho
      · rw [ha] at hall; exact hall
  · rw [h2, if_neg Bool.false_ne_true] at hd
    exact nd_none (by rw [nodeF, if_pos h1, hd]) hnone
  · exact nd_none (by rw [nodeF, if_neg (by rw [h1]; exact Bool.false_ne_true)]) hnone
end Go.Proofs.YtmlojdbahlfiaaaGreatDoor
/- Ranks: floats of small numbers stand as the numbers do. -/
namespace Go.Proofs.YtmlojdbahlfiaaaGreatDoor
open Go.Px
set_option linter.unusedVariables false
set_option linter.unusedSimpArgs false

def lenT (t : Tg) : Int := if (!(t.2.2.1.toList == (⟨#[]⟩ : ByteArray).toList)) = true then t.2.2.2 else (cntN t.2.1 : Int)
def rkI (t : Tg) : Int := if 0 ≤ t.1 ∧ t.1 ≤ 6 then IntKind.wrap .i64 (IntKind.wrap .i64 (IntKind.wrap .i64 (IntKind.wrap .i64 (t.1 * 256) + 256) - 1) - lenT t) else 1792
def elI9 (n : Int) : List Value := [.int .i64 n]
def stepsL : List Int := [0, 1, 2, 3, 4, 5, 6]
abbrev stB (b : Nat) : Nat × Obj := (b, .cells #[.int .i64 0, .int .i64 1, .int .i64 2, .int .i64 3, .int .i64 4, .int .i64 5, .int .i64 6] 28 (0, 0))
theorem steps_runs (I : IMem) (S : SH) : Runs Tryz.prog 99 #[] I S fun v _ T => ∃ b, v = .slice (some ⟨b, 0, none⟩) 7 7 ∧ T = stB b :: S := by
  refine rank_steps_fn _ _ _ ?_
  unfold rank_steps
  intro b1
  exact ⟨b1, rfl, rfl⟩
theorem stepsL_get {k : Nat} (h : k < 7) : stepsL[k]? = some (k : Int) := by
  match k, h with
  | 0, _ => rfl
  | 1, _ => rfl
  | 2, _ => rfl
  | 3, _ => rfl
  | 4, _ => rfl
  | 5, _ => rfl
  | 6, _ => rfl
theorem steps_row {I : IMem} {S : SH} {b : Nat} : RowIn I (stB b :: S) (some ⟨b, 0, none⟩) 7 1 elI9 stepsL :=
  (OwnR.row (e := 28) (el := elI9) (fun _ => rfl) (c := 7) (xs := stepsL) (own := [stB b]) (.inr ⟨b, 7, [], rfl, rfl, rfl, by decide⟩)).sub (Sub.left (L := [stB b]) (M := S) (Sub.refl _))
theorem ROf_runs (z : Int) (t : Tg) (I : IMem) (S : SH) : Runs Tryz.prog 66 #[.int .i64 z, vT t] I S fun v _ T => v = .complex .f64 (FloatKind.f64.nearest z) (FloatKind.f64.nearest (rkI t)) ∧ T = S := by
  refine Runs.drop (rank_Of_fn _ _ _ _ _ _ _ _ ?_)
  unfold rank_Of
  intro b3
  have hT : Sub (tgB b3 t :: S) (tgB b3 t :: S) := Sub.refl _
  refine ⟨_, Cell.at0 rfl, (Count_runs _ _ _).mono ?_⟩
  rintro v J T hle ⟨rfl, rfl⟩
  have go : ∀ (x : Int) (J : IMem), x = lenT t → rank_Of_b1 (fun v _ T => ∃ L, Sub L T ∧ v = .complex .f64 (FloatKind.f64.nearest z) (FloatKind.f64.nearest (rkI t)) ∧ L = S) z ⟨b3, 0, none⟩ x J (tgB b3 t :: S) := by
    intro x J hx
    unfold rank_Of_b1
    refine (steps_runs _ _).mono ?_
    rintro v J1 T1 hle1 ⟨b, rfl, rfl⟩
    refine ⟨_, _, _, rfl, ?_⟩
    unfold rank_Of_b2
    refine ⟨fun m z' p x' y yn yc q i J T => z' = z ∧ p = ⟨b3, 0, none⟩ ∧ x' = x ∧ y = some ⟨b, 0, none⟩ ∧ yn = 7 ∧ q = 7 ∧ T = stB b :: tgB b3 t :: S ∧ ∃ k : Nat, i = (k : Int) ∧ k ≤ 7 ∧ m = 7 - k ∧ (∀ j : Nat, j < k → t.1 ≠ (j : Int)),
      7, ⟨rfl, rfl, rfl, rfl, rfl, rfl, rfl, 0, rfl, Nat.zero_le _, rfl, fun j h => by omega⟩, ?_⟩
    rintro m z' p x' y yn yc q i J T - ⟨rfl, rfl, rfl, rfl, rfl, rfl, rfl, k, rfl, hk, rfl, hf⟩
    unfold rank_Of_l3
    refine bcase_dec (fun hg => ?_) (fun hg => ?_)
    · obtain ⟨a', ha, hc⟩ := (steps_row (I := J) (S := tgB b3 t :: S) (b := b)).cell (stepsL_get (k := k) (by omega))
      injection ha with ha
      subst ha
      refine ⟨by omega, by omega, _, (by simpa [Addr.add] using hc 0 _ rfl), _, Cell.tl (Cell.at0 rfl), bcase_beq (fun h => ?_) (fun h => ?_)⟩
      · refine ⟨S, ((Sub.refl S).skip _).skip _, ?_, rfl⟩
        rw [rkI, if_pos (by omega), hx, ← h]
      · exact ⟨7 - (k + 1), by omega, rfl, rfl, rfl, rfl, rfl, rfl, rfl, k + 1, by rw [wrap_i64 (by omega) (by omega)]; rfl, by omega, rfl, fun j hj => by
          by_cases e : j = k
          · subst e; exact fun e => h e.symm
          · exact hf j (by omega)⟩
    · have hke : k = 7 := by omega
      subst hke
      unfold rank_Of_b4
      refine (steps_runs _ _).mono ?_
      rintro v J2 T2 hle2 ⟨b', rfl, rfl⟩
      refine ⟨_, _, _, rfl, S, (((Sub.refl S).skip _).skip _).skip _, ?_, rfl⟩
      have h7 : ¬ (0 ≤ t.1 ∧ t.1 ≤ 6) := by
        rintro ⟨g1, g2⟩
        exact hf t.1.toNat (by omega) (by omega)
      rw [rkI, if_neg h7]; rfl
  refine ⟨_, rfl, _, Cell.at0 rfl, bcase_of (fun h => ⟨_, Cell.at0 rfl, go _ _ ?_⟩) (fun h => go _ _ ?_)⟩
  · rw [lenT, if_pos h]
  · rw [lenT, if_neg (by rw [h]; exact Bool.false_ne_true)]
abbrev fOrd (a b : Nat) : Option Ordering := FloatKind.f64.format.order a b
def btF (a b c d : Nat) : Bool := bif fOrd a c != some .eq then fOrd a c == some .lt else fOrd b d == some .lt
theorem Better_runs (a b c d : Nat) (I : IMem) (S : SH) : Runs Tryz.prog 67 #[.complex .f64 a b, .complex .f64 c d] I S fun v _ T => v = .bool (btF a b c d) ∧ T = S := by
  refine rank_Better_fn _ _ _ _ _ _ _ ?_
  unfold rank_Better btF
  refine bcase_of (fun h => ⟨by rw [h]; rfl, rfl⟩) (fun h => ⟨by rw [h]; rfl, rfl⟩)
/-! ### small numbers -/
theorem read_small : ∀ n : Fin 2048, Ieee.double.read (Ieee.double.nearest false n.val 0) = if n.val = 0 then .number false 0 (-1074) else .number false (n.val <<< (52 - n.val.log2)) (-((52 - n.val.log2 : Nat) : Int)) := by decide +kernel
theorem near_nat (n : Nat) : FloatKind.f64.nearest (n : Int) = Ieee.double.nearest false n 0 := by
  unfold FloatKind.nearest FloatKind.encode Ieee.Format.write
  have h1 : decide ((n : Int) < 0) = false := decide_eq_false (by omega)
  simp only [h1, Int.natAbs_natCast]
  rfl
theorem ord_small {a b : Nat} (ha : a < 2048) (hb : b < 2048) : fOrd (FloatKind.f64.nearest (a : Int)) (FloatKind.f64.nearest (b : Int)) = some (compare (a : Int) (b : Int)) := by
  have ra := read_small ⟨a, ha⟩
  have rb := read_small ⟨b, hb⟩
  dsimp only at ra rb
  show Ieee.Format.order Ieee.double _ _ = _
  unfold Ieee.Format.order
  rw [near_nat, near_nat, ra, rb]
  have key : ∀ (ka kb : Nat) (i j : Int) (m n : Nat), (m = 0 ∧ a = 0 ∨ m = a <<< ka ∧ i = -(ka : Int)) → (n = 0 ∧ b = 0 ∨ n = b <<< kb ∧ j = -(kb : Int)) → (Ieee.Datum.number false m i).order (.number false n j) = some (compare (a : Int) (b : Int)) := by
    intro ka kb i j m n hm hn
    unfold Ieee.Datum.order
    dsimp only
    unfold Ieee.signed
    simp only [Bool.false_eq_true, if_false, Nat.shiftLeft_eq]
    have hpos : (0 : Int) < 2 ^ (-(min i j)).toNat := Int.pow_pos (by decide)
    congr 1
    have cmp : ∀ (x y c : Int), 0 < c → compare (x * c) (y * c) = compare x y := by
      intro x y c hc
      rcases Int.lt_trichotomy x y with h | h | h
      · have : x * c < y * c := Int.mul_lt_mul_of_pos_right h hc
        rw [Int.compare_eq_lt.2 this, Int.compare_eq_lt.2 h]
      · subst h
        rw [Int.compare_eq_eq.2 rfl, Int.compare_eq_eq.2 rfl]
      · have : y * c < x * c := Int.mul_lt_mul_of_pos_right h hc
        rw [Int.compare_eq_gt.2 this, Int.compare_eq_gt.2 h]
    have e : ∀ (m a ka : Nat) (i base : Int), base ≤ i → (m = 0 ∧ a = 0 ∨ m = a <<< ka ∧ i = -(ka : Int)) → ((m * 2 ^ (i - base).toNat : Nat) : Int) = (a : Int) * 2 ^ (-base).toNat := by
      intro m a ka i base hb h
      rcases h with ⟨rfl, rfl⟩ | ⟨rfl, rfl⟩
      · simp
      · have hx : (-base).toNat = ka + (-(ka : Int) - base).toNat := by omega
        rw [hx, Nat.shiftLeft_eq, Nat.mul_assoc, ← Nat.pow_add]
        push_cast
        rfl
    rw [e m a ka i (min i j) (Int.min_le_left i j) hm, e n b kb j (min i j) (Int.min_le_right i j) hn]
    exact cmp _ _ _ hpos
  by_cases h0 : a = 0
  · subst h0
    by_cases h1 : b = 0
    · subst h1
      rw [if_pos rfl]
      exact key 0 0 _ _ 0 0 (.inl ⟨rfl, rfl⟩) (.inl ⟨rfl, rfl⟩)
    · rw [if_pos rfl, if_neg h1]
      exact key 0 (52 - b.log2) _ _ 0 _ (.inl ⟨rfl, rfl⟩) (.inr ⟨rfl, rfl⟩)
  · rw [if_neg h0]
    by_cases h1 : b = 0
    · subst h1
      rw [if_pos rfl]
      exact key (52 - a.log2) 0 _ _ _ 0 (.inr ⟨rfl, rfl⟩) (.inl ⟨rfl, rfl⟩)
    · rw [if_neg h1]
      exact key (52 - a.log2) (52 - b.log2) _ _ _ _ (.inr ⟨rfl, rfl⟩) (.inr ⟨rfl, rfl⟩)
theorem ord_eq {a b : Nat} (ha : a < 2048) (hb : b < 2048) : (fOrd (FloatKind.f64.nearest (a : Int)) (FloatKind.f64.nearest (b : Int)) == some .eq) = decide (a = b) := by
  rw [ord_small ha hb]
  rcases Nat.lt_trichotomy a b with h | h | h
  · rw [Int.compare_eq_lt.2 (by omega), decide_eq_false (by omega)]; rfl
  · rw [Int.compare_eq_eq.2 (by omega), decide_eq_true h]; rfl
  · rw [Int.compare_eq_gt.2 (by omega), decide_eq_false (by omega)]; rfl
theorem ord_lt {a b : Nat} (ha : a < 2048) (hb : b < 2048) : (fOrd (FloatKind.f64.nearest (a : Int)) (FloatKind.f64.nearest (b : Int)) == some .lt) = decide (a < b) := by
  rw [ord_small ha hb]
  rcases Nat.lt_trichotomy a b with h | h | h
  · rw [Int.compare_eq_lt.2 (by omega), decide_eq_true h]; rfl
  · rw [Int.compare_eq_eq.2 (by omega), decide_eq_false (by omega)]; rfl
  · rw [Int.compare_eq_gt.2 (by omega), decide_eq_false (by omega)]; rfl
/-- a trigger whose length is small -/
def SmT (t : Tg) : Prop := 0 ≤ t.1 ∧ t.1 ≤ 6 ∧ 0 ≤ lenT t ∧ lenT t ≤ 255
def rkN (t : Tg) : Nat := (t.1 * 256 + 255 - lenT t).toNat
theorem rkI_nat {t : Tg} (h : SmT t) : rkI t = (rkN t : Int) ∧ rkN t < 2048 := by
  obtain ⟨h1, h2, h3, h4⟩ := h
  unfold rkI rkN
  rw [if_pos ⟨h1, h2⟩, wrap_i64 (x := t.1 * 256) (by omega) (by omega), wrap_i64 (x := t.1 * 256 + 256) (by omega) (by omega), wrap_i64 (x := t.1 * 256 + 256 - 1) (by omega) (by omega), wrap_i64 (by omega) (by omega)]
  omega
/-- does a rank stand ahead of another one? -/
def rkLt (z z' : Nat) (t t' : Tg) : Bool := if z = z' then decide (rkN t < rkN t') else decide (z < z')
theorem bt_small {z z' : Nat} {t t' : Tg} (hz : z < 2048) (hz' : z' < 2048) (h : SmT t) (h' : SmT t') :
    btF (FloatKind.f64.nearest (z : Int)) (FloatKind.f64.nearest (rkI t)) (FloatKind.f64.nearest (z' : Int)) (FloatKind.f64.nearest (rkI t')) = rkLt z z' t t' := by
  obtain ⟨e1, l1⟩ := rkI_nat h
  obtain ⟨e2, l2⟩ := rkI_nat h'
  unfold btF rkLt
  have hne : (fOrd (FloatKind.f64.nearest (z : Int)) (FloatKind.f64.nearest (z' : Int)) != some .eq) = !decide (z = z') := by
    show (!(_ == _)) = _
    rw [ord_eq hz hz']
  rw [hne, e1, e2, ord_lt hz hz', ord_lt l1 l2]
  by_cases e : z = z'
  · rw [decide_eq_true e, if_pos e]; rfl
  · rw [decide_eq_false e, if_neg e]; rfl
theorem eq_small {z z' : Nat} {t t' : Tg} (hz : z < 2048) (hz' : z' < 2048) (h : SmT t) (h' : SmT t') :
    (Op.floatEq .f64 (FloatKind.f64.nearest (z : Int)) (FloatKind.f64.nearest (z' : Int)) && Op.floatEq .f64 (FloatKind.f64.nearest (rkI t)) (FloatKind.f64.nearest (rkI t'))) = decide (z = z' ∧ rkN t = rkN t') := by
  obtain ⟨e1, l1⟩ := rkI_nat h
  obtain ⟨e2, l2⟩ := rkI_nat h'
  have f1 : Op.floatEq .f64 (FloatKind.f64.nearest (z : Int)) (FloatKind.f64.nearest (z' : Int)) = decide (z = z') := ord_eq hz hz'
  have f2 : Op.floatEq .f64 (FloatKind.f64.nearest ((rkN t : Nat) : Int)) (FloatKind.f64.nearest ((rkN t' : Nat) : Int)) = decide (rkN t = rkN t') := ord_eq l1 l2
  rw [e1, e2, f1, f2]
  by_cases g1 : z = z' <;> by_cases g2 : rkN t = rkN t' <;> simp [g1, g2]
end Go.Proofs.YtmlojdbahlfiaaaGreatDoor
/- The policy that wins among all records. -/
namespace Go.Proofs.YtmlojdbahlfiaaaGreatDoor
open Go.Px
set_option linter.unusedVariables false
set_option linter.unusedSimpArgs false

/-! ### triggers that are read are small -/
theorem cnt_le (n : ByteArray) : cntN n ≤ 254 := by
  unfold cntN
  cases h : labN n with
  | none => exact Nat.zero_le _
  | some ls => exact (labs_ok h).1
theorem sm_name {k : Int} {n : ByteArray} (h0 : 0 ≤ k) (h1 : k ≤ 6) : SmT (k, n, ⟨#[]⟩, 0) := by
  have := cnt_le n
  have hl : lenT (k, n, ⟨#[]⟩, 0) = (cntN n : Int) := by
    unfold lenT
    dsimp only
    rw [show ((⟨#[]⟩ : ByteArray).toList == (⟨#[]⟩ : ByteArray).toList) = true from keq.2 rfl]
    rfl
  refine ⟨h0, h1, ?_, ?_⟩ <;> rw [hl] <;> omega
theorem named_sm {ls : List ByteArray} {ex wild : Int} {t : Tg} (he : 0 ≤ ex ∧ ex ≤ 6) (hw : 0 ≤ wild ∧ wild ≤ 6) (h : namedF ls ex wild = some t) : SmT t := by
  unfold namedF at h
  split at h
  · cases h
  · split at h
    · obtain ⟨n, _, rfl⟩ := Option.map_eq_some_iff.1 h; exact sm_name hw.1 hw.2
    · obtain ⟨n, _, rfl⟩ := Option.map_eq_some_iff.1 h; exact sm_name he.1 he.2
theorem kind_sm {w : ByteArray} {k : Int} (h : kindOf w = some k) : 0 ≤ k ∧ k ≤ 6 := by
  unfold kindOf at h
  split at h
  · injection h with h; omega
  · split at h
    · injection h with h; omega
    · split at h
      · injection h with h; omega
      · split at h
        · injection h with h; omega
        · cases h
theorem adr_may {ls : List ByteArray} {p : ByteArray × Int} (h : adrF ls = some p) : mayP p.1 p.2 := by
  unfold adrF at h
  split at h
  · rename_i hx
    injection h with h
    subst h
    exact hx.choose_spec.1
  · cases h
theorem sm_adr {k : Int} {a : ByteArray} {n : Int} (h0 : 0 ≤ k) (h1 : k ≤ 6) (h : mayP a n) : SmT (k, ⟨#[]⟩, a, n) := by
  obtain ⟨⟨h2, h3, h4⟩, _⟩ := h
  have hne : (a.toList == (⟨#[]⟩ : ByteArray).toList) = false := by
    rw [← Bool.not_eq_true, keq]
    rintro rfl
    rcases h2 with h2 | h2 <;> cases h2
  have hl : lenT (k, ⟨#[]⟩, a, n) = n := by
    unfold lenT
    dsimp only
    rw [hne]; rfl
  refine ⟨h0, h1, ?_, ?_⟩ <;> rw [hl]
  · exact h3
  · rcases h2 with h2 | h2 <;> rw [h2] at h4 <;> omega
theorem dec_sm {n : ByteArray} {t : Tg} (h : decF n = some t) : SmT t := by
  unfold decF at h
  split at h
  · cases h
  · unfold decL at h
    split at h
    · cases h
    · split at h
      · exact named_sm (by decide) (by decide) h
      · rename_i k hk
        have hk' := kind_sm hk
        split at h
        · exact named_sm (by decide) (by decide) h
        · obtain ⟨p, hp, rfl⟩ := Option.map_eq_some_iff.1 h
          exact sm_adr hk'.1 hk'.2 (adr_may hp)
theorem node_sm {p : Pl} {n : ByteArray} {t : Tg} {a : Av} (h : nodeF p n = some (t, a)) : SmT t := by
  unfold nodeF at h
  split at h
  · split at h
    · rename_i hd _
      injection h with h
      injection h with h1 _
      subst h1
      exact dec_sm hd
    · cases h
  · cases h
/-! ### the best one so far -/
abbrev Vd := Int × Tg × Av
def vd0 : Vd := (0, t0, av0)
abbrev encVd (v : Vd) (p : Option Addr) (n c : Nat) : List Value := [.int .i64 v.1, .int .i64 v.2.1.1, .string v.2.1.2.1, .string v.2.1.2.2.1, .int .i64 v.2.1.2.2.2, .int .i64 v.2.2.k, .string v.2.2.t, .bool v.2.2.w, .slice p n c]
abbrev vVd (v : Vd) (p : Option Addr) (n c : Nat) : Value := .agg #[.int .i64 v.1, .int .i64 v.2.1.1, .string v.2.1.2.1, .string v.2.1.2.2.1, .int .i64 v.2.1.2.2.2, .int .i64 v.2.2.k, .string v.2.2.t, .bool v.2.2.w, .slice p n c]
abbrev vdB (b : Nat) (v : Vd) (p : Option Addr) (n c : Nat) : Nat × Obj := (b, .cells (encVd v p n c).toArray 80 (0, 0))
/-- a trigger in a zone goes ahead of another one -/
def ahead (z z' : Nat) (t t' : Tg) : Bool := if z = z' ∧ rkN t = rkN t' then lessT t t' else rkLt z z' t t'
abbrev Bs := Option (Nat × Tg × Av)
def bsV (s : Bs) : Vd := match s with | none => vd0 | some (z, t, a) => ((z : Int), t, a)
structure BsOK (s : Bs) : Prop where
  ok : ∀ z t a, s = some (z, t, a) → z < 2048 ∧ SmT t
def bet (k : Nat) (t : Tg) (s : Bs) : Bool := match s with | none => true | some (z, t', _) => ahead k z t t'
theorem better_runs {k : Nat} {t : Tg} {s : Bs} {p : Option Addr} {n c : Nat} (hk : k < 2048) (ht : SmT t) (hs : BsOK s) (I : IMem) (S : SH) : Runs Tryz.prog 65 #[.int .i64 (k : Int), vT t, vVd (bsV s) p n c, .bool s.isSome] I S fun v _ T => v = .bool (bet k t s) ∧ T = S := by
  refine Runs.drop (search_better_fn _ _ _ _ _ _ _ _ _ _ _ _ _ _ _ _ _ _ _ _ ?_)
  unfold search_better
  intro b5 b6
  have hB : Sub (vdB b6 (bsV s) p n c :: (tgB b5 t :: S)) (vdB b6 (bsV s) p n c :: tgB b5 t :: S) := Sub.refl _
  have hA : Sub (tgB b5 t :: S) (vdB b6 (bsV s) p n c :: tgB b5 t :: S) := (Sub.refl _).skip _
  cases s with
  | none => exact bcase_t rfl ⟨S, hA.drop, rfl, rfl⟩
  | some x =>
    obtain ⟨z, t', a⟩ := x
    obtain ⟨hz, ht'⟩ := hs.ok z t' a rfl
    refine bcase_f rfl ?_
    obtain ⟨c0, c1, c2, _, c3⟩ := tgX (I := I) hA
    have d : ∀ {J : IMem} (j : Nat) (v : Value), (encVd (bsV (some (z, t', a))) p n c).toArray[j]? = some v → Cell J (vdB b6 (bsV (some (z, t', a))) p n c :: tgB b5 t :: S) ⟨b6, j, none⟩ v := fun j v h => Cell.at0 h
    unfold search_better_b1
    refine ⟨_, c0, _, c1, _, c2, _, c3, _, d 0 _ rfl, _, Cell.at_ (add_mk _ _ _) (d 1 _ rfl), _, Cell.at_ (add2 _ _ _ _) (d 2 _ rfl), _, Cell.at_ (add2 _ _ _ _) (d 3 _ rfl), _, Cell.at_ (add2 _ _ _ _) (d 4 _ rfl), (ROf_runs (k : Int) t _ _).mono ?_⟩
    rintro v J T hle ⟨rfl, rfl⟩
    refine ⟨_, _, rfl, Sub.keep hle (Sub.refl _), (ROf_runs (z : Int) t' _ _).mono ?_⟩
    rintro v J2 T2 hle2 ⟨rfl, rfl⟩
    refine ⟨_, _, rfl, ?_⟩
    unfold search_better_b2
    rw [eq_small hk hz ht ht']
    have hb : bet k t (some (z, t', a)) = ahead k z t t' := rfl
    refine bcase_not (bcase_dec (fun h => ?_) (fun h => ?_))
    · obtain ⟨c0, c1, c2, _, c3⟩ := tgX (I := J2) hA
      refine ⟨_, c0, _, c1, _, c2, _, c3, _, Cell.at_ (add_mk _ _ _) (d 1 _ rfl), _, Cell.at_ (add2 _ _ _ _) (d 2 _ rfl), _, Cell.at_ (add2 _ _ _ _) (d 3 _ rfl), _, Cell.at_ (add2 _ _ _ _) (d 4 _ rfl), (Less_runs t t' _ _).mono ?_⟩
      rintro v J3 T3 hle3 ⟨rfl, rfl⟩
      refine ⟨_, rfl, S, hA.drop, ?_, rfl⟩
      rw [hb, ahead, if_pos h]
    · refine (Better_runs _ _ _ _ _ _).mono ?_
      rintro v J3 T3 hle3 ⟨rfl, rfl⟩
      refine ⟨_, rfl, S, hA.drop, ?_, rfl⟩
      rw [hb, ahead, if_neg h, bt_small hk hz ht ht']
end Go.Proofs.YtmlojdbahlfiaaaGreatDoor
/- search.Of: the walk. -/
namespace Go.Proofs.YtmlojdbahlfiaaaGreatDoor
open Go.Px
set_option linter.unusedVariables false
set_option linter.unusedSimpArgs false

open Classical in
noncomputable def stepR (f : Fa) (k : Nat) (p : Pl) (st : Bs) (r : Rc) : Bs := match nodeF p r.1 with
  | some (t, a) => if a.k ≠ 1 ∧ matchT t f = true ∧ bet k t st = true then some (k, t, a) else st
  | none => st
noncomputable def polF (f : Fa) (k : Nat) (p : Pl) (st : Bs) : Bs := if p.live = true then p.zs.foldl (stepR f k p) st else st
noncomputable def ofF (f : Fa) : List Pl → Nat → Bs → Bs
  | [], _, st => st
  | p :: ps, k, st => ofF f ps (k + 1) (polF f k p st)
def VdR (st : Bs) (S : SH) (v : Value) (T : SH) : Prop := ∃ q n c own, v = .tuple #[vVd (bsV st) q n c, .bool st.isSome] ∧ OwnZ (.slice q n c) (bsV st).2.2.rs own ∧ Sub (own ++ S) T
theorem vdX {I : IMem} {S F : SH} {b : Nat} {v : Vd} {q : Option Addr} {n c : Nat} (hs : Sub (vdB b v q n c :: F) S) : ∀ (j : Nat) (u : Value), (encVd v q n c).toArray[j]? = some u → Cell I S ⟨b, j, none⟩ u := fun j u h => Cell.among hs h
abbrev oH (b3 b4 b6 : Nat) (st : Bs) (f : Fa) (q : Option Addr) (n c : Nat) (F : SH) : SH := vdB b6 (bsV st) q n c :: (vdB b4 vd0 none 0 0 :: (faB b3 f :: F))
/-- the search stands at a best one -/
def OfAt (b3 b4 b6 : Nat) (f : Fa) (st : Bs) (F T : SH) : Prop := ∃ q n c own, OwnZ (.slice q n c) (bsV st).2.2.rs own ∧ BsOK st ∧ Sub (own ++ oH b3 b4 b6 st f q n c F) T
section
variable {b3 b4 b6 b9 : Nat} {f : Fa} {st : Bs} {S T : SH} {I0 J : IMem} {p : Pl} {k : Nat}
theorem of_end (h : OfAt b3 b4 b6 f st S T) : search_Of_b11 (fun v _ T => VdR st S v T) ⟨b4, 0, none⟩ ⟨b6, 0, none⟩ st.isSome J T := by
  obtain ⟨q, n, c, own, ho, hok, hs⟩ := h
  have d := vdX (I := J) hs.right
  unfold search_Of_b11
  refine ⟨_, d 0 _ rfl, _, Cell.at_ (add_mk _ _ _) (d 1 _ rfl), _, Cell.at_ (add_mk _ _ _) (d 2 _ rfl), _, Cell.at_ (add_mk _ _ _) (d 3 _ rfl), _, Cell.at_ (add_mk _ _ _) (d 4 _ rfl), _, Cell.at_ (add_mk _ _ _) (d 5 _ rfl), _, Cell.at_ (add_mk _ _ _) (d 6 _ rfl), _, Cell.at_ (add_mk _ _ _) (d 7 _ rfl), _, _, _, Cell.at_ (add_mk _ _ _) (d 8 _ rfl), ?_⟩
  refine StP.among (e := 80) (L := encVd vd0 none 0 0) (L' := encVd (bsV st) q n c) (F := own ++ (vdB b6 (bsV st) q n c :: (faB b3 f :: S))) (hs.re (by intro a; simp only [vdB, List.append_eq, cnt_cons, cnt_app]; omega)) (Nat.le_of_ble_eq_true rfl) rfl rfl ?_
  intro T1 hT1
  have d := vdX (I := J) hT1
  refine ⟨_, d 0 _ rfl, _, Cell.at_ (add_mk _ _ _) (d 1 _ rfl), _, Cell.at_ (add_mk _ _ _) (d 2 _ rfl), _, Cell.at_ (add_mk _ _ _) (d 3 _ rfl), _, Cell.at_ (add_mk _ _ _) (d 4 _ rfl), _, Cell.at_ (add_mk _ _ _) (d 5 _ rfl), _, Cell.at_ (add_mk _ _ _) (d 6 _ rfl), _, Cell.at_ (add_mk _ _ _) (d 7 _ rfl), _, _, _, Cell.at_ (add_mk _ _ _) (d 8 _ rfl), ?_⟩
  exact ⟨q, n, c, own, rfl, ho, (hT1.drop.re (by intro a; simp only [List.append_eq, cnt_cons, cnt_app, cnt_nil]; omega) : Sub ((own ++ S) ++ [vdB b6 (bsV st) q n c, faB b3 f]) T1).left⟩
/-- one record -/
theorem of_rec {R : RT} {g3 : search_Of_t3} {g7 : search_Of_t7} {a0 : Option Addr} {n0 c0 : Nat} {q0 i0 : Int} {zp : Option Addr} {zc : Nat} {j : Nat} {r : Rc} (g : GL I0) (hle : I0.le J) (hf : FaIn I0 S f) (hp : PlIn I0 S p) (hk : k < 2048) (hj : p.zs[j]? = some r) (hzp : p.zn.1 = zp)
    (h : OfAt b3 b4 b6 f st (plB b9 p :: S) T)
    (hag : ∀ J' T' (st' : Bs), I0.le J' → st' = stepR f k p st r → OfAt b3 b4 b6 f st' (plB b9 p :: S) T' → g7 ⟨b3, 0, none⟩ ⟨b4, 0, none⟩ ⟨b6, 0, none⟩ st'.isSome (k : Int) ⟨b9, 0, none⟩ a0 n0 c0 q0 i0 zp p.zs.length zc (p.zs.length : Int) ((j + 1 : Nat) : Int) J' T') :
    search_Of_b8 g3 g7 R ⟨b3, 0, none⟩ ⟨b4, 0, none⟩ ⟨b6, 0, none⟩ st.isSome (k : Int) ⟨b9, 0, none⟩ a0 n0 c0 q0 i0 zp p.zs.length zc (p.zs.length : Int) (j : Int) J T := by
  obtain ⟨q, n, c, own, ho, hok, hs⟩ := h
  have hjl := lt_get hj
  have hfew := hp.few
  have hS : Sub S T := hs.right.drop.drop.drop.drop
  have hrow : RowIn J T p.zn.1 p.zs.length 4 encR p.zs := (hp.row.le hle).sub hS
  subst hzp
  obtain ⟨a', ha', hc⟩ := hrow.cell hj
  rw [ha']
  obtain ⟨c0', c1, c2, c3⟩ := CellsR hc
  unfold search_Of_b8
  refine ⟨by omega, by omega, _, c0', _, c1, _, c2, _, c3, fun b11 => StP.rec (x := r) ?_⟩
  have hP : Sub (plB b9 p :: S) ((b11, Obj.cells (encR r).toArray 69 (0, 0)) :: T) := hs.right.drop.drop.drop.skip _
  refine ⟨_, Cell.among hP rfl, _, _, _, Cell.at_ (add_mk _ _ _) (Cell.among hP rfl), _, Cell.at_ (add_mk _ _ _) (Cell.among hP rfl), _, Cell.at_ (add_mk _ _ _) (Cell.among hP rfl), _, Cell.at0 rfl, ?_⟩
  refine (Node_runs p r.1 (g.le hle) ((hp.le hle).sub hP.drop)).mono ?_
  rintro v J2 T2 hle2 ⟨q2, n2, c2', own2, rfl, ho2, hs2⟩
  have hleJ := hle.trans hle2
  refine ⟨_, _, _, _, _, _, _, _, _, _, _, rfl, fun b12 b13 => ?_⟩
  generalize hnd : nodeF p r.1 = nd at ho2
  have hbase : Sub (own2 ++ (own ++ oH b3 b4 b6 st f q n c (plB b9 p :: S))) T2 := (((Sub.refl own2).both (hs.skip (b11, Obj.cells (encR r).toArray 69 (0, 0))))).trans hs2
  refine put_tg (x := t0) (t := (nd.getD (t0, av0)).1) (F := acB b13 acZ :: T2) ((Sub.refl (acB b13 acZ :: (tgB b12 t0 :: T2))).re (by intro a; simp only [cnt_cons]; omega) : Sub (tgB b12 t0 :: (acB b13 acZ :: T2)) (acB b13 acZ :: (tgB b12 t0 :: T2))) fun T3 hT3 => put_av (L := acZ) (a := (nd.getD (t0, av0)).2) (p := q2) (n := n2) (c := c2') (F := tgB b12 (nd.getD (t0, av0)).1 :: T2) rfl (hT3.re (by intro a; simp only [cnt_cons]; omega)) fun T4 hT4 => ?_
  have hall : Sub (acB b13 (encAv (nd.getD (t0, av0)).2 q2 n2 c2') :: (tgB b12 (nd.getD (t0, av0)).1 :: (own2 ++ (own ++ oH b3 b4 b6 st f q n c (plB b9 p :: S))))) T4 := (hbase.cons (tgB b12 (nd.getD (t0, av0)).1)).cons (acB b13 (encAv (nd.getD (t0, av0)).2 q2 n2 c2')) |>.trans hT4
  -- nothing changes
  have stay : ∀ (J' : IMem), I0.le J' → stepR f k p st r = st → search_Of_b9 g3 g7 R ⟨b3, 0, none⟩ ⟨b4, 0, none⟩ ⟨b6, 0, none⟩ st.isSome (k : Int) ⟨b9, 0, none⟩ ⟨b12, 0, none⟩ ⟨b13, 0, none⟩ a0 n0 c0 q0 i0 p.zn.1 p.zs.length zc (p.zs.length : Int) (j : Int) false J' T4 := by
    intro J' hl' hst
    unfold search_Of_b9 search_Of_b10
    refine bcase_f rfl ?_
    rw [wrap_i64 (by omega) (by omega)]
    exact hag J' T4 st hl' hst.symm ⟨q, n, c, own, ho, hok, hall.drop.drop.right⟩
  rw [ha'] at stay hag
  cases nd with
  | none => exact bcase_f rfl (stay J2 hleJ (by rw [stepR, hnd]))
  | some x =>
    obtain ⟨t, a⟩ := x
    have hA : Sub (acB b13 (encAv a q2 n2 c2') :: (tgB b12 t :: (own2 ++ (own ++ oH b3 b4 b6 st f q n c (plB b9 p :: S))))) T4 := hall
    have hT : Sub (tgB b12 t :: (own2 ++ (own ++ oH b3 b4 b6 st f q n c (plB b9 p :: S)))) T4 := hA.drop
    have hV : Sub (oH b3 b4 b6 st f q n c (plB b9 p :: S)) T4 := hT.drop.right.right
    have hstep : stepR f k p st r = if a.k ≠ 1 ∧ matchT t f = true ∧ bet k t st = true then some (k, t, a) else st := by rw [stepR, hnd]
    obtain ⟨a0', a1, a2, a3⟩ := avX (I := J2) hA
    obtain ⟨e0, e1, e2, _, e3⟩ := tgX (I := J2) hT
    obtain ⟨f0, f1, f2, f3, f4⟩ := bA f (I := J2) hV.drop.drop
    refine bcase_t rfl ⟨_, a0', bcase_bne (fun hk1 => ?_) (fun hk1 => stay J2 hleJ (by rw [hstep, if_neg (fun h => h.1 hk1)]))⟩
    refine ⟨_, e0, _, e1, _, e2, _, e3, _, f0, _, f1, _, _, _, f2, _, _, _, f3, _, _, _, f4, (Matches_runs t f ((hf.le hleJ).sub hV.drop.drop.drop.drop)).mono ?_⟩
    rintro v J3 T5 hle3 ⟨rfl, rfl⟩
    have hleJ3 := hleJ.trans hle3
    refine ⟨_, rfl, bcase_of (fun hm => ?_) (fun hm => stay J3 hleJ3 (by rw [hstep, if_neg (fun h => by rw [hm] at h; cases h.2.1)]))⟩
    have d := vdX (I := J3) hV
    obtain ⟨e0, e1, e2, _, e3⟩ := tgX (I := J3) hT
    refine ⟨_, e0, _, e1, _, e2, _, e3, _, d 0 _ rfl, _, Cell.at_ (add_mk _ _ _) (d 1 _ rfl), _, Cell.at_ (add_mk _ _ _) (d 2 _ rfl), _, Cell.at_ (add_mk _ _ _) (d 3 _ rfl), _, Cell.at_ (add_mk _ _ _) (d 4 _ rfl), _, Cell.at_ (add_mk _ _ _) (d 5 _ rfl), _, Cell.at_ (add_mk _ _ _) (d 6 _ rfl), _, Cell.at_ (add_mk _ _ _) (d 7 _ rfl), _, _, _, Cell.at_ (add_mk _ _ _) (d 8 _ rfl), ?_⟩
    have hsm : SmT t := node_sm hnd
    refine (better_runs (p := q) (n := n) (c := c) hk hsm hok _ _).mono ?_
    rintro v J4 T6 hle4 ⟨rfl, rfl⟩
    have hleJ4 := hleJ3.trans hle4
    cases hb : bet k t st with
    | false => exact ⟨_, rfl, stay J4 hleJ4 (by rw [hstep, if_neg (fun h => by rw [hb] at h; cases h.2.2)])⟩
    | true =>
      refine ⟨_, rfl, ?_⟩
      have hnew : stepR f k p st r = some (k, t, a) := by rw [hstep, if_pos ⟨hk1, hm, hb⟩]
      obtain ⟨a0', a1, a2, a3⟩ := avX (I := J4) hA
      obtain ⟨e0, e1, e2, _, e3⟩ := tgX (I := J4) hT
      unfold search_Of_b9 search_Of_b10
      refine bcase_t rfl ⟨_, e0, _, e1, _, e2, _, e3, _, a0', _, a1, _, a2, _, _, _, a3, ?_⟩
      refine StP.among (e := 80) (L := encVd (bsV st) q n c) (L' := encVd ((k : Int), t, a) q2 n2 c2') (F := own2 ++ (vdB b4 vd0 none 0 0 :: (faB b3 f :: (plB b9 p :: S)))) ((hT.drop.re (by intro a; simp only [List.append_eq, cnt_cons, cnt_app]; omega) : Sub ((vdB b6 (bsV st) q n c :: (own2 ++ (vdB b4 vd0 none 0 0 :: (faB b3 f :: (plB b9 p :: S))))) ++ own) T6).left) (Nat.le_of_ble_eq_true rfl) rfl rfl ?_
      intro T7 hT7
      rw [wrap_i64 (by omega) (by omega)]
      exact hag J4 T7 (some (k, t, a)) hleJ4 hnew.symm ⟨q2, n2, c2', own2, ho2, ⟨fun z t' a' e => by injection e with e; injection e with e1 e; injection e with e2 e; subst e1; subst e2; exact ⟨hk, hsm⟩⟩, hT7.re (by intro a; simp only [vdB, List.append_eq, cnt_cons, cnt_app, bsV]; omega)⟩
end
end Go.Proofs.YtmlojdbahlfiaaaGreatDoor
/- search.Of. -/
namespace Go.Proofs.YtmlojdbahlfiaaaGreatDoor
open Go.Px
set_option linter.unusedVariables false
set_option linter.unusedSimpArgs false

theorem drop_get {α : Type} {xs : List α} {k : Nat} {x : α} (h : xs[k]? = some x) : xs.drop k = x :: xs.drop (k + 1) := by
  have hl := lt_get h
  rw [List.drop_eq_getElem_cons hl]
  rw [List.getElem?_eq_getElem hl] at h
  injection h with h
  rw [h]
section
variable {b3 b4 b6 b9 : Nat} {f : Fa} {st : Bs} {S T : SH} {I0 J : IMem} {p : Pl} {k : Nat}
/-- a zone's records -/
theorem of_zone {R : RT} {g3 : search_Of_t3} {a0 : Option Addr} {n0 c0 : Nat} {q0 i0 : Int} (g : GL I0) (hle : I0.le J) (hf : FaIn I0 S f) (hp : PlIn I0 S p) (hk : k < 2048) (h : OfAt b3 b4 b6 f st (plB b9 p :: S) T)
    (hag : ∀ J' T' (st' : Bs), I0.le J' → st' = p.zs.foldl (stepR f k p) st → OfAt b3 b4 b6 f st' (plB b9 p :: S) T' → search_Of_b5 g3 R ⟨b3, 0, none⟩ ⟨b4, 0, none⟩ ⟨b6, 0, none⟩ st'.isSome a0 n0 c0 q0 i0 J' T') :
    search_Of_b6 g3 R ⟨b3, 0, none⟩ ⟨b4, 0, none⟩ ⟨b6, 0, none⟩ st.isSome (k : Int) ⟨b9, 0, none⟩ a0 n0 c0 q0 i0 p.zn.1 p.zs.length p.zn.2.2 (p.zs.length : Int) 0 J T := by
  have hfew := hp.few
  unfold search_Of_b6
  refine ⟨fun m x3 x4 x6 hs k' x9 y yn yc q i z zn zc zq j J T => x3 = ⟨b3, 0, none⟩ ∧ x4 = ⟨b4, 0, none⟩ ∧ x6 = ⟨b6, 0, none⟩ ∧ k' = (k : Int) ∧ x9 = ⟨b9, 0, none⟩ ∧ y = a0 ∧ yn = n0 ∧ yc = c0 ∧ q = q0 ∧ i = i0 ∧ z = p.zn.1 ∧ zn = p.zs.length ∧ zq = (p.zs.length : Int) ∧ I0.le J ∧ ∃ (l : Nat) (st' : Bs), j = (l : Int) ∧ l ≤ p.zs.length ∧ m = p.zs.length - l ∧ hs = st'.isSome ∧ (p.zs.drop l).foldl (stepR f k p) st' = p.zs.foldl (stepR f k p) st ∧ OfAt b3 b4 b6 f st' (plB b9 p :: S) T,
    p.zs.length, ⟨rfl, rfl, rfl, rfl, rfl, rfl, rfl, rfl, rfl, rfl, rfl, rfl, rfl, hle, 0, st, rfl, Nat.zero_le _, rfl, rfl, rfl, h⟩, ?_⟩
  rintro m x3 x4 x6 hs k' x9 y yn yc q i z zn zc zq j J T - ⟨rfl, rfl, rfl, rfl, rfl, rfl, rfl, rfl, rfl, rfl, rfl, rfl, rfl, hle, l, st', rfl, hl, rfl, rfl, hfold, hat⟩
  unfold search_Of_l7
  refine bcase_dec (fun hg => ?_) (fun hg => ?_)
  · obtain ⟨r, hr⟩ := get_lt (xs := p.zs) (k := l) (by omega)
    refine of_rec g hle hf hp hk hr rfl hat ?_
    rintro J' T' st2 hle' rfl hat'
    refine ⟨p.zs.length - (l + 1), by omega, rfl, rfl, rfl, rfl, rfl, rfl, rfl, rfl, rfl, rfl, rfl, rfl, rfl, hle', l + 1, _, rfl, by omega, rfl, rfl, ?_, hat'⟩
    rw [← hfold, drop_get hr, List.foldl_cons]
  · have hke : l = p.zs.length := by omega
    subst hke
    rw [List.drop_length] at hfold
    exact hag J T st' hle hfold hat
end
theorem Of_runs {ps : List Pl} {a : Option Addr} {c : Nat} {f : Fa} {I : IMem} {S : SH} (g : GL I) (hf : FaIn I S f) (hx : RowIn I S a ps.length 4 encPl ps) (hps : ∀ p ∈ ps, PlIn I S p) (hl : ps.length ≤ 2000) :
    Runs Tryz.prog 30 #[.slice a ps.length c, vFa f] I S fun v _ T => VdR (ofF f ps 0 none) S v T := by
  refine search_Of_fn _ _ _ _ _ _ _ _ _ _ _ _ _ _ _ _ _ ?_
  unfold search_Of search_Of_b1 search_Of_b2
  intro b3 b4 b6
  have start : OfAt b3 b4 b6 f none S (vdB b6 vd0 none 0 0 :: (vdB b4 vd0 none 0 0 :: (faB b3 f :: S))) := ⟨none, 0, 0, [], OwnR.nil, ⟨fun z t a e => by cases e⟩, Sub.refl _⟩
  refine ⟨fun m x3 x4 x6 hs y yn yc q i J T => x3 = ⟨b3, 0, none⟩ ∧ x4 = ⟨b4, 0, none⟩ ∧ x6 = ⟨b6, 0, none⟩ ∧ y = a ∧ yn = ps.length ∧ q = (ps.length : Int) ∧ I.le J ∧ ∃ (k : Nat) (st : Bs), i = (k : Int) ∧ k ≤ ps.length ∧ m = ps.length - k ∧ hs = st.isSome ∧ ofF f (ps.drop k) k st = ofF f ps 0 none ∧ OfAt b3 b4 b6 f st S T,
    ps.length, ⟨rfl, rfl, rfl, rfl, rfl, rfl, IMem.le.refl I, 0, none, rfl, Nat.zero_le _, rfl, rfl, rfl, start⟩, ?_⟩
  rintro m x3 x4 x6 hs y yn yc q i J T - ⟨rfl, rfl, rfl, rfl, rfl, rfl, hle, k, st, rfl, hk, rfl, rfl, hof, hat⟩
  unfold search_Of_l3
  refine bcase_dec (fun hg => ?_) (fun hg => ?_)
  · obtain ⟨p, hp⟩ := get_lt (xs := ps) (k := k) (by omega)
    have hpm := hps p (List.mem_of_getElem? hp)
    obtain ⟨q0, n0, c0, own, ho, hok, hs⟩ := hat
    have hS : Sub S T := hs.right.drop.drop.drop
    obtain ⟨a', rfl, hc⟩ := ((hx.le hle).sub hS).cell hp
    have e0 : Cell J T (a'.add (k * 4)) (.string p.o) := by simpa [Addr.add] using hc 0 _ rfl
    rw [drop_get hp] at hof
    unfold search_Of_b4
    refine ⟨by omega, by omega, _, e0, _, _, _, hc 1 _ rfl, _, hc 2 _ rfl, _, hc 3 _ rfl, fun b9 => StP.all (vs := encPl p) rfl rfl ⟨_, Cell.at0 rfl, bcase_not (bcase_of (fun hl => ?_) (fun hl => ?_))⟩⟩
    · have hlen : p.zn.2.1 = p.zs.length := hpm.len
      refine ⟨_, p.zs.length, _, hlen ▸ (Cell.at0 (o := 1) rfl : Cell J (plB b9 p :: T) ⟨b9, 1, none⟩ (.slice p.zn.1 p.zn.2.1 p.zn.2.2)), ?_⟩
      refine of_zone (p := p) (st := st) (S := S) g hle hf hpm (by omega) ⟨q0, n0, c0, own, ho, hok, (hs.cons (plB b9 p)).re (by intro a; simp only [List.append_eq, cnt_cons, cnt_app]; omega)⟩ ?_
      rintro J' T' st' hle' hst' ⟨q1, n1, c1, own1, ho1, hok1, hs1⟩
      unfold search_Of_b5
      refine ⟨ps.length - (k + 1), by omega, rfl, rfl, rfl, rfl, rfl, rfl, hle', k + 1, st', by rw [wrap_i64 (by omega) (by omega)]; rfl, by omega, rfl, rfl, ?_, q1, n1, c1, own1, ho1, hok1, (hs1.re (by intro a; simp only [List.append_eq, cnt_cons, cnt_app, cnt_nil]; omega) : Sub ((own1 ++ oH b3 b4 b6 st' f q1 n1 c1 S) ++ [plB b9 p]) T').left⟩
      rw [← hof]
      show _ = ofF f (ps.drop (k + 1)) (k + 1) (polF f k p st)
      rw [polF, if_pos hl, hst']
    · unfold search_Of_b5
      refine ⟨ps.length - (k + 1), by omega, rfl, rfl, rfl, rfl, rfl, rfl, hle, k + 1, st, by rw [wrap_i64 (by omega) (by omega)]; rfl, by omega, rfl, rfl, ?_, q0, n0, c0, own, ho, hok, hs.skip _⟩
      rw [← hof]
      show _ = ofF f (ps.drop (k + 1)) (k + 1) (polF f k p st)
      rw [polF, if_neg (by rw [hl]; exact Bool.false_ne_true)]
  · have hke : k = ps.length := by omega
    subst hke
    rw [List.drop_length] at hof
    have hof : st = ofF f ps 0 none := hof
    rw [← hof]
    exact of_end hat
end Go.Proofs.YtmlojdbahlfiaaaGreatDoor
set_option linter.unusedVariables false
set_option maxRecDepth 8000
set_option maxHeartbeats 2000000
namespace Go.Proofs.YtmlojdbahlfiaaaGreatDoor
open Go.Px
def bolterlaw19_awake_b1 (R : RT) (x0 : Bool) (I : IMem) (S : SH) : Prop :=
  R (.bool x0) I S
def bolterlaw19_awake (R : RT) (I : IMem) (S : SH) : Prop :=
  ∀ b10 : Nat,
  Runs Tryz.prog 40 #[.slice (some ⟨b10, 0, none⟩) 1 1] I ((b10, .cells #[.string ⟨#[114, 112, 122]⟩] 9 (0, 0)) :: S) fun v I1 S1 => ∃ u0 u1, v = .tuple #[.string u0, .bool u1] ∧
  ∀ b15 : Nat,
  Runs Tryz.prog 40 #[.slice (some ⟨b15, 0, none⟩) 2 2] I1 ((b15, .cells #[.string ⟨#[101, 120]⟩, .string ⟨#[114, 112, 122]⟩] 9 (0, 0)) :: S1) fun v' I1' S1' => ∃ u2 u3, v' = .tuple #[.string u2, .bool u3] ∧
  ∀ b20 : Nat,
  Runs Tryz.prog 40 #[.slice (some ⟨b20, 0, none⟩) 1 1] I1' ((b20, .cells #[.string ⟨#[101, 120]⟩] 9 (0, 0)) :: S1') fun v'' I1'' S1'' => ∃ u4 u5, v'' = .tuple #[.string u4, .bool u5] ∧
  ∀ b28 : Nat,
  ∀ b30 : Nat,
  Runs Tryz.prog 30 #[.slice (some ⟨b30, 0, none⟩) 1 1, .agg #[.string ⟨#[]⟩, .string u4, .slice none 0 0, .slice none 0 0, .slice none 0 0]] I1'' ((b30, .cells #[.string u0, .slice (some ⟨b28, 0, none⟩) 1 1, .bool true, .int .i64 0] 61 (0, 0)) :: ((b28, .cells #[.string u2, .int .u16 5, .int .u32 0, .string ⟨#[]⟩] 69 (0, 0)) :: S1'')) fun v_r3 I1_r3 S1_r3 => ∃ u6 u7 u8 u9 ua ub uc ud ue uen uec uf, v_r3 = .tuple #[.agg #[.int .i64 u6, .int .i64 u7, .string u8, .string u9, .int .i64 ua, .int .i64 ub, .string uc, .bool ud, .slice ue uen uec], .bool uf] ∧
  ∀ b7 : Nat,
  StP ((b7, .cells #[.int .i64 0, .int .i64 0, .string ⟨#[]⟩, .string ⟨#[]⟩, .int .i64 0, .int .i64 0, .string ⟨#[]⟩, .bool false, .slice none 0 0] 80 (0, 0)) :: S1_r3) ⟨b7, 0, none⟩ [.int .i64 u6, .int .i64 u7, .string u8, .string u9, .int .i64 ua, .int .i64 ub, .string uc, .bool ud, .slice ue uen uec] fun S1_r4 =>
  bcase uf
    (∃ ug, Cell I1_r3 S1_r4 ⟨b7, 5, none⟩ (.int .i64 ug) ∧
    bcase (ug == (4 : Int))
      (∃ uh, Cell I1_r3 S1_r4 ⟨b7, 1, none⟩ (.int .i64 uh) ∧
      ∃ ui, Cell I1_r3 S1_r4 ⟨b7, 2, none⟩ (.string ui) ∧
      ∃ uj, Cell I1_r3 S1_r4 ⟨b7, 3, none⟩ (.string uj) ∧
      ∃ uk, Cell I1_r3 S1_r4 ⟨b7, 4, none⟩ (.int .i64 uk) ∧
      bolterlaw19_awake_b1 R (((uh : Int) == (1 : Int)) && (((ui : ByteArray) == (u4 : ByteArray)) && ((((uj : ByteArray) == (⟨#[]⟩ : ByteArray)) && (((uk : Int) == (0 : Int)) && true)) && true))) I1_r3 S1_r4)
      (bolterlaw19_awake_b1 R false I1_r3 S1_r4))
    (bolterlaw19_awake_b1 R false I1_r3 S1_r4)
theorem bolterlaw19_awake_fn (R : RT) (I : IMem) (S : SH) (h : bolterlaw19_awake R I S) : Runs Tryz.prog 11 #[] I S R := by
  refine Runs.of_wp (c := cd Tryz.f11) Tryz.func11 (by kernel_rfl) (by kernel_rfl) ?_
  refine cO 6 [kB 0] (bolterlaw19_awake_b1 R) h fun _ _ _ _ _ h => ?_
  exact pS h
def bolterlaw19_Origin (R : RT) (u0 : Int) (I : IMem) (S : SH) : Prop :=
  ∀ b10 : Nat,
  ∃ u1 : ByteArray, BytesAt I ((b10, .cells #[.int .u8 122, .int .u8 (IntKind.wrap .u8 (IntKind.wrap .i64 ((97 : Int) + (u0.tmod (32 : Int)))))] 5 (0, 0)) :: S) (some ⟨b10, 0, none⟩) 2 u1 ∧
  ∀ b12 : Nat,
  Runs Tryz.prog 40 #[.slice (some ⟨b12, 0, none⟩) 1 1] I ((b12, .cells #[.string u1] 9 (0, 0)) :: ((b10, .cells #[.int .u8 122, .int .u8 (IntKind.wrap .u8 (IntKind.wrap .i64 ((97 : Int) + (u0.tmod (32 : Int)))))] 5 (0, 0)) :: S)) fun v I1 S1 => ∃ u2 u3, v = .tuple #[.string u2, .bool u3] ∧
  R (.string u2) I1 S1
theorem bolterlaw19_Origin_fn (R : RT) (u0 : Int) (I : IMem) (S : SH) (h : bolterlaw19_Origin R u0 I S) : Runs Tryz.prog 22 #[.int .i64 u0] I S R := by
  refine Runs.of_wp (c := cd Tryz.f22) Tryz.func22 (by kernel_rfl) (by kernel_rfl) ?_
  exact pS h
abbrev bolterlaw19_Zone_t3 := ByteArray → OA → Nat → Nat → OA → Nat → Nat → Int → Int → PR
def bolterlaw19_Zone_b5 (R : RT) (x5 : OA) (x5n x5c : Nat) (I : IMem) (S : SH) : Prop :=
  R (.slice x5 x5n x5c) I S
abbrev bolterlaw19_Zone_t7 := ByteArray → OA → Nat → Nat → OA → Nat → Nat → Int → Int → OA → Nat → Nat → Int → Int → PR
def bolterlaw19_Zone_b8 (g3 : bolterlaw19_Zone_t3) (g7 : bolterlaw19_Zone_t7) (R : RT) (x0 : ByteArray) (x5 : OA) (x5n x5c : Nat) (x12 : OA) (x12n x12c : Nat) (x13 x14 : Int) (x23 : OA) (x23n x23c : Nat) (x24 x25 : Int) (I : IMem) (S : SH) : Prop :=
  g7 x0 x5 x5n x5c x12 x12n x12c x13 x14 x23 x23n x23c x24 (IntKind.wrap .i64 (x25 + (1 : Int))) I S
def bolterlaw19_Zone_b9 (g3 : bolterlaw19_Zone_t3) (R : RT) (x0 : ByteArray) (x5 : OA) (x5n x5c : Nat) (x12 : OA) (x12n x12c : Nat) (x13 x14 : Int) (I : IMem) (S : SH) : Prop :=
  g3 x0 x5 x5n x5c x12 x12n x12c x13 (IntKind.wrap .i64 (x14 + (1 : Int))) I S
def bolterlaw19_Zone_l7 (g3 : bolterlaw19_Zone_t3) (g7 : bolterlaw19_Zone_t7) (R : RT) (x0 : ByteArray) (x5 : OA) (x5n x5c : Nat) (x12 : OA) (x12n x12c : Nat) (x13 x14 : Int) (x23 : OA) (x23n x23c : Nat) (x24 x25 : Int) (I : IMem) (S : SH) : Prop :=
  bcase (decide (x25 < x24))
    (ptrP x23 fun u0 => (0 : Int) ≤ x25 ∧ x25 < (x23n : Int) ∧
    ∃ u1, Cell I S (u0.add (x25.toNat * 4)) (.string u1) ∧
    ∃ u2, Cell I S ((u0.add (x25.toNat * 4)).add 1) (.int .u16 u2) ∧
    ∃ u3, Cell I S ((u0.add (x25.toNat * 4)).add 2) (.int .u32 u3) ∧
    ∃ u4, Cell I S ((u0.add (x25.toNat * 4)).add 3) (.string u4) ∧
    ∀ b9 : Nat,
    StP ((b9, .cells #[.string ⟨#[]⟩, .int .u16 0, .int .u32 0, .string ⟨#[]⟩] 69 (0, 0)) :: S) ⟨b9, 0, none⟩ [.string u1, .int .u16 u2, .int .u32 u3, .string u4] fun S1 =>
    ∃ u5, Cell I S1 ⟨b9, 0, none⟩ (.string u5) ∧
    ∃ u6, Cell I S1 ⟨b9, 1, none⟩ (.int .u16 u6) ∧
    ∃ u7, Cell I S1 ⟨b9, 2, none⟩ (.int .u32 u7) ∧
    ∃ u8, Cell I S1 ⟨b9, 3, none⟩ (.string u8) ∧
    Runs Tryz.prog 57 #[.slice x5 x5n x5c, .agg #[.string u5, .int .u16 u6, .int .u32 u7, .string u8]] I S1 fun v I1 S1' => ∃ u9 u9n u9c ua, v = .tuple #[.slice u9 u9n u9c, ua] ∧
    ∃ nl, isNilI ua = some nl ∧
    bcase nl
      (bolterlaw19_Zone_b8 g3 g7 R x0 u9 u9n u9c x12 x12n x12c x13 x14 x23 x23n x23c x24 x25 I1 S1')
      (bolterlaw19_Zone_b8 g3 g7 R x0 x5 x5n x5c x12 x12n x12c x13 x14 x23 x23n x23c x24 x25 I1 S1'))
    (bolterlaw19_Zone_b9 g3 R x0 x5 x5n x5c x12 x12n x12c x13 x14 I S)
def bolterlaw19_Zone_b6 (g3 : bolterlaw19_Zone_t3) (R : RT) (x0 : ByteArray) (x5 : OA) (x5n x5c : Nat) (x12 : OA) (x12n x12c : Nat) (x13 x14 : Int) (x23 : OA) (x23n x23c : Nat) (x24 x25 : Int) (I : IMem) (S : SH) : Prop :=
  ∃ (Inv : Nat → bolterlaw19_Zone_t7) (m : Nat), Inv m x0 x5 x5n x5c x12 x12n x12c x13 x14 x23 x23n x23c x24 x25 I S ∧
    ∀ (m : Nat) (x0 : ByteArray) (x5 : OA) (x5n x5c : Nat) (x12 : OA) (x12n x12c : Nat) (x13 x14 : Int) (x23 : OA) (x23n x23c : Nat) (x24 x25 : Int) (J : IMem) (T : SH), I.le J → Inv m x0 x5 x5n x5c x12 x12n x12c x13 x14 x23 x23n x23c x24 x25 J T →
      bolterlaw19_Zone_l7 g3 (fun x0 x5 x5n x5c x12 x12n x12c x13 x14 x23 x23n x23c x24 x25 I S => ∃ m', m' < m ∧ Inv m' x0 x5 x5n x5c x12 x12n x12c x13 x14 x23 x23n x23c x24 x25 I S) R x0 x5 x5n x5c x12 x12n x12c x13 x14 x23 x23n x23c x24 x25 J T
def bolterlaw19_Zone_b4 (g3 : bolterlaw19_Zone_t3) (R : RT) (x0 : ByteArray) (x5 : OA) (x5n x5c : Nat) (x12 : OA) (x12n x12c : Nat) (x13 x14 : Int) (I : IMem) (S : SH) : Prop :=
  ptrP x12 fun u0 => (0 : Int) ≤ x14 ∧ x14 < (x12n : Int) ∧
  ∃ u1, Cell I S (u0.add (x14.toNat * 5)) (.int .u8 u1) ∧
  ∃ u2 u2n u2c, Cell I S ((u0.add (x14.toNat * 5)).add 1) (.slice u2 u2n u2c) ∧
  ∃ u3, Cell I S ((u0.add (x14.toNat * 5)).add 2) (.bool u3) ∧
  ∃ u4, Cell I S ((u0.add (x14.toNat * 5)).add 3) (.int .u8 u4) ∧
  ∃ u5, Cell I S ((u0.add (x14.toNat * 5)).add 4) (.int .u8 u5) ∧
  ∀ b7 : Nat,
  StP ((b7, .cells #[.int .u8 0, .slice none 0 0, .bool false, .int .u8 0, .int .u8 0] 27 (0, 0)) :: S) ⟨b7, 0, none⟩ [.int .u8 u1, .slice u2 u2n u2c, .bool u3, .int .u8 u4, .int .u8 u5] fun S1 =>
  bcase (x14 == (12 : Int))
    (bolterlaw19_Zone_b5 R x5 x5n x5c I S1)
    (∃ u6, Cell I S1 ⟨b7, 0, none⟩ (.int .u8 u6) ∧
    ∃ u7 u7n u7c, Cell I S1 ⟨b7, 1, none⟩ (.slice u7 u7n u7c) ∧
    ∃ u8, Cell I S1 ⟨b7, 2, none⟩ (.bool u8) ∧
    ∃ u9, Cell I S1 ⟨b7, 3, none⟩ (.int .u8 u9) ∧
    ∃ ua, Cell I S1 ⟨b7, 4, none⟩ (.int .u8 ua) ∧
    Runs Tryz.prog 56 #[.agg #[.int .u8 u6, .slice u7 u7n u7c, .bool u8, .int .u8 u9, .int .u8 ua], .string x0] I S1 fun v I1 S1' => ∃ ub ubn ubc, v = .slice ub ubn ubc ∧
    bolterlaw19_Zone_b6 g3 R x0 x5 x5n x5c x12 x12n x12c x13 x14 ub ubn ubc (ubn : Int) 0 I1 S1')
def bolterlaw19_Zone_l3 (g3 : bolterlaw19_Zone_t3) (R : RT) (x0 : ByteArray) (x5 : OA) (x5n x5c : Nat) (x12 : OA) (x12n x12c : Nat) (x13 x14 : Int) (I : IMem) (S : SH) : Prop :=
  bcase (decide (x14 < x13))
    (bolterlaw19_Zone_b4 g3 R x0 x5 x5n x5c x12 x12n x12c x13 x14 I S)
    (bolterlaw19_Zone_b5 R x5 x5n x5c I S)
def bolterlaw19_Zone_b2 (R : RT) (x0 : ByteArray) (x5 : OA) (x5n x5c : Nat) (x12 : OA) (x12n x12c : Nat) (x13 x14 : Int) (I : IMem) (S : SH) : Prop :=
  ∃ (Inv : Nat → bolterlaw19_Zone_t3) (m : Nat), Inv m x0 x5 x5n x5c x12 x12n x12c x13 x14 I S ∧
    ∀ (m : Nat) (x0 : ByteArray) (x5 : OA) (x5n x5c : Nat) (x12 : OA) (x12n x12c : Nat) (x13 x14 : Int) (J : IMem) (T : SH), I.le J → Inv m x0 x5 x5n x5c x12 x12n x12c x13 x14 J T →
      bolterlaw19_Zone_l3 (fun x0 x5 x5n x5c x12 x12n x12c x13 x14 I S => ∃ m', m' < m ∧ Inv m' x0 x5 x5n x5c x12 x12n x12c x13 x14 I S) R x0 x5 x5n x5c x12 x12n x12c x13 x14 J T
def bolterlaw19_Zone_b1 (R : RT) (x0 : ByteArray) (x1 : OA) (x1n x1c : Nat) (x5 : OA) (x5n x5c : Nat) (I : IMem) (S : SH) : Prop :=
  bolterlaw19_Zone_b2 R x0 x5 x5n x5c x1 x1n x1c (x1n : Int) 0 I S
def bolterlaw19_Zone (R : RT) (u0 : ByteArray) (u1 : OA) (u1n u1c : Nat) (I : IMem) (S : SH) : Prop :=
  bolterlaw19_Zone_b1 R u0 u1 u1n u1c none 0 0 I S
theorem bolterlaw19_Zone_fn (R : RT) (u0 : ByteArray) (u1 : OA) (u1n u1c : Nat) (I : IMem) (S : SH) (h : bolterlaw19_Zone R u0 u1 u1n u1c I S) : Runs Tryz.prog 23 #[.string u0, .slice u1 u1n u1c] I S R := by
  refine Runs.of_wp (c := cd Tryz.f23) Tryz.func23 (by kernel_rfl) (by kernel_rfl) ?_
  refine cO 2 [kS 0, kL 1, kL 5] (bolterlaw19_Zone_b1 R) h fun _ _ _ _ _ _ _ _ _ _ _ h => ?_
  refine sO [kL 5] (bolterlaw19_Zone_b5 R) ?_ fun _ _ _ _ _ _ _ h => ?_
  · refine cO 1 [kS 0, kL 5, kL 12, kI .i64 13, kI .i64 14] (bolterlaw19_Zone_b2 R) h fun _ _ _ _ _ _ _ _ _ _ _ _ _ h => ?_
    refine bK ?_
    obtain ⟨Vg3, mg3, h, hr⟩ := h
    refine lO [kS 0, kL 5, kL 12, kI .i64 13, kI .i64 14] Vg3 mg3 h fun mg3 _ I S hle x0 x5 x5n x5c x12 x12n x12c x13 x14 h => ?_
    have h := hr mg3 x0 x5 x5n x5c x12 x12n x12c x13 x14 I S hle h
    refine cO 2 [kS 0, kL 5, kL 12, kI .i64 13, kI .i64 14] (bolterlaw19_Zone_b4 (fun x0 x5 x5n x5c x12 x12n x12c x13 x14 I S => ∃ m', m' < mg3 ∧ Vg3 m' x0 x5 x5n x5c x12 x12n x12c x13 x14 I S) R) h fun _ _ _ _ _ _ _ _ _ _ _ _ _ h => ?_
    refine sO [kS 0, kL 5, kL 12, kI .i64 13, kI .i64 14] (bolterlaw19_Zone_b9 (fun x0 x5 x5n x5c x12 x12n x12c x13 x14 I S => ∃ m', m' < mg3 ∧ Vg3 m' x0 x5 x5n x5c x12 x12n x12c x13 x14 I S) R) ?_ fun _ _ _ _ _ _ _ _ _ _ _ _ _ h => ?_
    · refine bK ?_
      refine cO 3 [kS 0, kL 5, kL 12, kI .i64 13, kI .i64 14, kL 23, kI .i64 24, kI .i64 25] (bolterlaw19_Zone_b6 (fun x0 x5 x5n x5c x12 x12n x12c x13 x14 I S => ∃ m', m' < mg3 ∧ Vg3 m' x0 x5 x5n x5c x12 x12n x12c x13 x14 I S) R) h fun _ _ _ _ _ _ _ _ _ _ _ _ _ _ _ _ _ _ h => ?_
      refine bK ?_
      obtain ⟨Vg7, mg7, h, hr⟩ := h
      refine lO [kS 0, kL 5, kL 12, kI .i64 13, kI .i64 14, kL 23, kI .i64 24, kI .i64 25] Vg7 mg7 h fun mg7 _ I S hle x0 x5 x5n x5c x12 x12n x12c x13 x14 x23 x23n x23c x24 x25 h => ?_
      have h := hr mg7 x0 x5 x5n x5c x12 x12n x12c x13 x14 x23 x23n x23c x24 x25 I S hle h
      refine cO 3 [kS 0, kL 5, kL 12, kI .i64 13, kI .i64 14, kL 23, kI .i64 24, kI .i64 25] (bolterlaw19_Zone_b8 (fun x0 x5 x5n x5c x12 x12n x12c x13 x14 I S => ∃ m', m' < mg3 ∧ Vg3 m' x0 x5 x5n x5c x12 x12n x12c x13 x14 I S) (fun x0 x5 x5n x5c x12 x12n x12c x13 x14 x23 x23n x23c x24 x25 I S => ∃ m', m' < mg7 ∧ Vg7 m' x0 x5 x5n x5c x12 x12n x12c x13 x14 x23 x23n x23c x24 x25 I S) R) h fun _ _ _ _ _ _ _ _ _ _ _ _ _ _ _ _ _ _ h => ?_
      exact pS h
    exact pS h
  exact pS h
def bolterlaw19_Rule_Records (R : RT) (u0 : Int) (u1 : OA) (u1n u1c : Nat) (u2 : Bool) (u3 u4 : Int) (u5 : ByteArray) (I : IMem) (S : SH) : Prop :=
  ∀ b2 : Nat,
  ∃ u6, Cell I ((b2, .cells #[.int .u8 u0, .slice u1 u1n u1c, .bool u2, .int .u8 u3, .int .u8 u4] 27 (0, 0)) :: S) ⟨b2, 0, none⟩ (.int .u8 u6) ∧
  ∃ u7 u7n u7c, Cell I ((b2, .cells #[.int .u8 u0, .slice u1 u1n u1c, .bool u2, .int .u8 u3, .int .u8 u4] 27 (0, 0)) :: S) ⟨b2, 1, none⟩ (.slice u7 u7n u7c) ∧
  ∃ u8, Cell I ((b2, .cells #[.int .u8 u0, .slice u1 u1n u1c, .bool u2, .int .u8 u3, .int .u8 u4] 27 (0, 0)) :: S) ⟨b2, 2, none⟩ (.bool u8) ∧
  ∃ u9, Cell I ((b2, .cells #[.int .u8 u0, .slice u1 u1n u1c, .bool u2, .int .u8 u3, .int .u8 u4] 27 (0, 0)) :: S) ⟨b2, 3, none⟩ (.int .u8 u9) ∧
  Runs Tryz.prog 12 #[.int .u8 u6, .slice u7 u7n u7c, .bool u8, .int .u8 u9] I ((b2, .cells #[.int .u8 u0, .slice u1 u1n u1c, .bool u2, .int .u8 u3, .int .u8 u4] 27 (0, 0)) :: S) fun v I1 S1 => ∃ ua ub uc ud, v = .agg #[.int .i64 ua, .string ub, .string uc, .int .i64 ud] ∧
  Runs Tryz.prog 33 #[.agg #[.int .i64 ua, .string ub, .string uc, .int .i64 ud]] I1 S1 fun v' I1' S1' => ∃ ue uf, v' = .tuple #[.string ue, .bool uf] ∧
  Runs Tryz.prog 24 #[.string ue, .string u5] I1' S1' fun v'' I1'' S1'' => ∃ ug uh, v'' = .tuple #[.string ug, .bool uh] ∧
  bcase (!uh)
    (R (.slice none 0 0) I1'' S1'')
    (∀ b32 : Nat,
    ∃ ui, Cell I1'' ((b32, .cells #[.string ⟨#[]⟩, .string ⟨#[1, 42]⟩, .string ⟨#[12, 114, 112, 122, 45, 112, 97, 115, 115, 116, 104, 114, 117]⟩, .string ⟨#[8, 114, 112, 122, 45, 100, 114, 111, 112]⟩, .string ⟨#[12, 114, 112, 122, 45, 116, 99, 112, 45, 111, 110, 108, 121]⟩, .string ⟨#[1, 42, 3, 111, 114, 103]⟩, .string ⟨#[3, 119, 119, 119]⟩] 9 (0, 0)) :: S1'') ⟨b2, 4, none⟩ (.int .u8 ui) ∧
    bcase (decide ((IntKind.wrap .i64 (ui.tmod (10 : Int))) < (7 : Int)))
      (ptrP (some ⟨b32, 0, none⟩) fun uj => (0 : Int) ≤ (IntKind.wrap .i64 (ui.tmod (10 : Int))) ∧ (IntKind.wrap .i64 (ui.tmod (10 : Int))) < (7 : Int) ∧
      ∃ uk, Cell I1'' ((b32, .cells #[.string ⟨#[]⟩, .string ⟨#[1, 42]⟩, .string ⟨#[12, 114, 112, 122, 45, 112, 97, 115, 115, 116, 104, 114, 117]⟩, .string ⟨#[8, 114, 112, 122, 45, 100, 114, 111, 112]⟩, .string ⟨#[12, 114, 112, 122, 45, 116, 99, 112, 45, 111, 110, 108, 121]⟩, .string ⟨#[1, 42, 3, 111, 114, 103]⟩, .string ⟨#[3, 119, 119, 119]⟩] 9 (0, 0)) :: S1'') (uj.add ((IntKind.wrap .i64 (ui.tmod (10 : Int))).toNat * 1)) (.string uk) ∧
      ∀ b46 : Nat,
      R (.slice (some ⟨b46, 0, none⟩) 1 1) I1'' ((b46, .cells #[.string ug, .int .u16 5, .int .u32 5, .string uk] 69 (0, 0)) :: ((b32, .cells #[.string ⟨#[]⟩, .string ⟨#[1, 42]⟩, .string ⟨#[12, 114, 112, 122, 45, 112, 97, 115, 115, 116, 104, 114, 117]⟩, .string ⟨#[8, 114, 112, 122, 45, 100, 114, 111, 112]⟩, .string ⟨#[12, 114, 112, 122, 45, 116, 99, 112, 45, 111, 110, 108, 121]⟩, .string ⟨#[1, 42, 3, 111, 114, 103]⟩, .string ⟨#[3, 119, 119, 119]⟩] 9 (0, 0)) :: S1'')))
      (bcase ((IntKind.wrap .i64 (ui.tmod (10 : Int))) == (7 : Int))
        (∀ b54 : Nat,
        R (.slice (some ⟨b54, 0, none⟩) 2 2) I1'' ((b54, .cells #[.string ug, .int .u16 1, .int .u32 5, .string ⟨#[10, 0, 0, 1]⟩, .string ug, .int .u16 16, .int .u32 5, .string ⟨#[1, 120]⟩] 69 (0, 0)) :: ((b32, .cells #[.string ⟨#[]⟩, .string ⟨#[1, 42]⟩, .string ⟨#[12, 114, 112, 122, 45, 112, 97, 115, 115, 116, 104, 114, 117]⟩, .string ⟨#[8, 114, 112, 122, 45, 100, 114, 111, 112]⟩, .string ⟨#[12, 114, 112, 122, 45, 116, 99, 112, 45, 111, 110, 108, 121]⟩, .string ⟨#[1, 42, 3, 111, 114, 103]⟩, .string ⟨#[3, 119, 119, 119]⟩] 9 (0, 0)) :: S1'')))
        (bcase ((IntKind.wrap .i64 (ui.tmod (10 : Int))) == (8 : Int))
          (∀ b62 : Nat,
          R (.slice (some ⟨b62, 0, none⟩) 2 2) I1'' ((b62, .cells #[.string ug, .int .u16 1, .int .u32 5, .string ⟨#[10, 0, 0, 1]⟩, .string ug, .int .u16 5, .int .u32 5, .string ⟨#[]⟩] 69 (0, 0)) :: ((b32, .cells #[.string ⟨#[]⟩, .string ⟨#[1, 42]⟩, .string ⟨#[12, 114, 112, 122, 45, 112, 97, 115, 115, 116, 104, 114, 117]⟩, .string ⟨#[8, 114, 112, 122, 45, 100, 114, 111, 112]⟩, .string ⟨#[12, 114, 112, 122, 45, 116, 99, 112, 45, 111, 110, 108, 121]⟩, .string ⟨#[1, 42, 3, 111, 114, 103]⟩, .string ⟨#[3, 119, 119, 119]⟩] 9 (0, 0)) :: S1'')))
          (∀ b65 : Nat,
          R (.slice (some ⟨b65, 0, none⟩) 1 1) I1'' ((b65, .cells #[.string ug, .int .u16 28, .int .u32 7, .string ⟨#[48, 49, 50, 51, 52, 53, 54, 55, 56, 57, 97, 98, 99, 100, 101, 102]⟩] 69 (0, 0)) :: ((b32, .cells #[.string ⟨#[]⟩, .string ⟨#[1, 42]⟩, .string ⟨#[12, 114, 112, 122, 45, 112, 97, 115, 115, 116, 104, 114, 117]⟩, .string ⟨#[8, 114, 112, 122, 45, 100, 114, 111, 112]⟩, .string ⟨#[12, 114, 112, 122, 45, 116, 99, 112, 45, 111, 110, 108, 121]⟩, .string ⟨#[1, 42, 3, 111, 114, 103]⟩, .string ⟨#[3, 119, 119, 119]⟩] 9 (0, 0)) :: S1''))))))
theorem bolterlaw19_Rule_Records_fn (R : RT) (u0 : Int) (u1 : OA) (u1n u1c : Nat) (u2 : Bool) (u3 u4 : Int) (u5 : ByteArray) (I : IMem) (S : SH) (h : bolterlaw19_Rule_Records R u0 u1 u1n u1c u2 u3 u4 u5 I S) : Runs Tryz.prog 56 #[.agg #[.int .u8 u0, .slice u1 u1n u1c, .bool u2, .int .u8 u3, .int .u8 u4], .string u5] I S R := by
  refine Runs.of_wp (c := cd Tryz.f56) Tryz.func56 (by kernel_rfl) (by kernel_rfl) ?_
  exact pS h
abbrev bolterlaw19_Query_Facts_t4 := Addr → Addr → Addr → OA → Nat → Nat → Int → Int → PR
def bolterlaw19_Query_Facts_b7 (g4 : bolterlaw19_Query_Facts_t4) (R : RT) (x1 x2 x3 : Addr) (x21 : OA) (x21n x21c : Nat) (x22 x23 : Int) (I : IMem) (S : SH) : Prop :=
  g4 x1 x2 x3 x21 x21n x21c x22 (IntKind.wrap .i64 (x23 + (1 : Int))) I S
def bolterlaw19_Query_Facts_b6 (g4 : bolterlaw19_Query_Facts_t4) (R : RT) (x1 x2 x3 : Addr) (x4 : Int) (x5 : OA) (x5n x5c : Nat) (x21 : OA) (x21n x21c : Nat) (x22 x23 : Int) (x29 : Bool) (I : IMem) (S : SH) : Prop :=
  bcase x29
    (∃ u0 u0n u0c, Cell I S (x3.add 2) (.slice u0 u0n u0c) ∧
    ∃ u1, Cell I S x1 (.bool u1) ∧
    Runs Tryz.prog 35 #[.bool (u1 == ((x4.tmod (2 : Int)) == (0 : Int))), .slice x5 x5n x5c] I S fun v I1 S1 => ∃ u2, v = .string u2 ∧
    Keep I S I1 S1 ∧
    ∀ b40 : Nat,
    Keep I S I1 ((b40, .cells #[.string u2] 9 (0, 0)) :: S1) ∧
    AppG 9 1 16 [.string ⟨#[]⟩] (some (.slice 9)) I1 ((b40, .cells #[.string u2] 9 (0, 0)) :: S1) (.slice u0 u0n u0c) (.slice (some ⟨b40, 0, none⟩) 1 1) fun u3 u3n u3c S1' =>
    StP S1' (x3.add 2) [.slice u3 u3n u3c] fun S1'' =>
    bolterlaw19_Query_Facts_b7 g4 R x1 x2 x3 x21 x21n x21c x22 x23 I1 S1'')
    (bolterlaw19_Query_Facts_b7 g4 R x1 x2 x3 x21 x21n x21c x22 x23 I S)
def bolterlaw19_Query_Facts_b5 (g4 : bolterlaw19_Query_Facts_t4) (R : RT) (x1 x2 x3 : Addr) (x21 : OA) (x21n x21c : Nat) (x22 x23 : Int) (I : IMem) (S : SH) : Prop :=
  ptrP x21 fun u0 => (0 : Int) ≤ x23 ∧ x23 < (x21n : Int) ∧
  ∃ u1 u1n u1c, Cell I S (u0.add (x23.toNat * 1)) (.slice u1 u1n u1c) ∧
  bolterlaw19_Query_Facts_b6 g4 R x1 x2 x3 x23 u1 u1n u1c x21 x21n x21c x22 x23 (decide (x23 < (4 : Int))) I S
abbrev bolterlaw19_Query_Facts_t10 := Addr → Addr → Addr → OA → Nat → Nat → Int → Int → PR
def bolterlaw19_Query_Facts_b13 (g10 : bolterlaw19_Query_Facts_t10) (R : RT) (x1 x2 x3 : Addr) (x45 : OA) (x45n x45c : Nat) (x46 x47 : Int) (I : IMem) (S : SH) : Prop :=
  g10 x1 x2 x3 x45 x45n x45c x46 (IntKind.wrap .i64 (x47 + (1 : Int))) I S
def bolterlaw19_Query_Facts_b12 (g10 : bolterlaw19_Query_Facts_t10) (R : RT) (x1 x2 x3 : Addr) (x7 : OA) (x7n x7c : Nat) (x45 : OA) (x45n x45c : Nat) (x46 x47 : Int) (x53 : Bool) (I : IMem) (S : SH) : Prop :=
  bcase x53
    (∃ u0 u0n u0c, Cell I S (x3.add 3) (.slice u0 u0n u0c) ∧
    Runs Tryz.prog 12 #[.int .u8 1, .slice x7 x7n x7c, .bool false, .int .u8 0] I S fun v I1 S1 => ∃ u1 u2 u3 u4, v = .agg #[.int .i64 u1, .string u2, .string u3, .int .i64 u4] ∧
    Keep I S I1 S1 ∧
    ∀ b59 : Nat,
    Keep I S I1 ((b59, .cells #[.string u2] 29 (0, 0)) :: S1) ∧
    AppG 29 1 16 [.string ⟨#[]⟩] (some (.slice 29)) I1 ((b59, .cells #[.string u2] 29 (0, 0)) :: S1) (.slice u0 u0n u0c) (.slice (some ⟨b59, 0, none⟩) 1 1) fun u5 u5n u5c S1' =>
    StP S1' (x3.add 3) [.slice u5 u5n u5c] fun S1'' =>
    bolterlaw19_Query_Facts_b13 g10 R x1 x2 x3 x45 x45n x45c x46 x47 I1 S1'')
    (bolterlaw19_Query_Facts_b13 g10 R x1 x2 x3 x45 x45n x45c x46 x47 I S)
def bolterlaw19_Query_Facts_b11 (g10 : bolterlaw19_Query_Facts_t10) (R : RT) (x1 x2 x3 : Addr) (x45 : OA) (x45n x45c : Nat) (x46 x47 : Int) (I : IMem) (S : SH) : Prop :=
  ptrP x45 fun u0 => (0 : Int) ≤ x47 ∧ x47 < (x45n : Int) ∧
  ∃ u1 u1n u1c, Cell I S (u0.add (x47.toNat * 1)) (.slice u1 u1n u1c) ∧
  bolterlaw19_Query_Facts_b12 g10 R x1 x2 x3 u1 u1n u1c x45 x45n x45c x46 x47 (decide (x47 < (4 : Int))) I S
abbrev bolterlaw19_Query_Facts_t16 := Addr → Addr → Addr → OA → Nat → Nat → Int → Int → PR
def bolterlaw19_Query_Facts_b19 (g16 : bolterlaw19_Query_Facts_t16) (R : RT) (x1 x2 x3 : Addr) (x64 : OA) (x64n x64c : Nat) (x65 x66 : Int) (I : IMem) (S : SH) : Prop :=
  g16 x1 x2 x3 x64 x64n x64c x65 (IntKind.wrap .i64 (x66 + (1 : Int))) I S
def bolterlaw19_Query_Facts_b18 (g16 : bolterlaw19_Query_Facts_t16) (R : RT) (x1 x2 x3 : Addr) (x9 : OA) (x9n x9c : Nat) (x64 : OA) (x64n x64c : Nat) (x65 x66 : Int) (x72 : Bool) (I : IMem) (S : SH) : Prop :=
  bcase x72
    (∃ u0 u0n u0c, Cell I S (x3.add 4) (.slice u0 u0n u0c) ∧
    ∃ u1, Cell I S x1 (.bool u1) ∧
    Runs Tryz.prog 35 #[.bool u1, .slice x9 x9n x9c] I S fun v I1 S1 => ∃ u2, v = .string u2 ∧
    Keep I S I1 S1 ∧
    ∀ b79 : Nat,
    Keep I S I1 ((b79, .cells #[.string u2] 9 (0, 0)) :: S1) ∧
    AppG 9 1 16 [.string ⟨#[]⟩] (some (.slice 9)) I1 ((b79, .cells #[.string u2] 9 (0, 0)) :: S1) (.slice u0 u0n u0c) (.slice (some ⟨b79, 0, none⟩) 1 1) fun u3 u3n u3c S1' =>
    StP S1' (x3.add 4) [.slice u3 u3n u3c] fun S1'' =>
    bolterlaw19_Query_Facts_b19 g16 R x1 x2 x3 x64 x64n x64c x65 x66 I1 S1'')
    (bolterlaw19_Query_Facts_b19 g16 R x1 x2 x3 x64 x64n x64c x65 x66 I S)
def bolterlaw19_Query_Facts_b17 (g16 : bolterlaw19_Query_Facts_t16) (R : RT) (x1 x2 x3 : Addr) (x64 : OA) (x64n x64c : Nat) (x65 x66 : Int) (I : IMem) (S : SH) : Prop :=
  ptrP x64 fun u0 => (0 : Int) ≤ x66 ∧ x66 < (x64n : Int) ∧
  ∃ u1 u1n u1c, Cell I S (u0.add (x66.toNat * 1)) (.slice u1 u1n u1c) ∧
  bolterlaw19_Query_Facts_b18 g16 R x1 x2 x3 u1 u1n u1c x64 x64n x64c x65 x66 (decide (x66 < (4 : Int))) I S
def bolterlaw19_Query_Facts_b20 (R : RT) (x2 x3 : Addr) (I : IMem) (S : SH) : Prop :=
  ∃ u0, Cell I S x3 (.string u0) ∧
  ∃ u1, Cell I S (x3.add 1) (.string u1) ∧
  ∃ u2 u2n u2c, Cell I S (x3.add 2) (.slice u2 u2n u2c) ∧
  ∃ u3 u3n u3c, Cell I S (x3.add 3) (.slice u3 u3n u3c) ∧
  ∃ u4 u4n u4c, Cell I S (x3.add 4) (.slice u4 u4n u4c) ∧
  StP S x2 [.string u0, .string u1, .slice u2 u2n u2c, .slice u3 u3n u3c, .slice u4 u4n u4c] fun S1 =>
  ∃ u5, Cell I S1 x2 (.string u5) ∧
  ∃ u6, Cell I S1 (x2.add 1) (.string u6) ∧
  ∃ u7 u7n u7c, Cell I S1 (x2.add 2) (.slice u7 u7n u7c) ∧
  ∃ u8 u8n u8c, Cell I S1 (x2.add 3) (.slice u8 u8n u8c) ∧
  ∃ u9 u9n u9c, Cell I S1 (x2.add 4) (.slice u9 u9n u9c) ∧
  R (.agg #[.string u5, .string u6, .slice u7 u7n u7c, .slice u8 u8n u8c, .slice u9 u9n u9c]) I S1
def bolterlaw19_Query_Facts_l16 (g16 : bolterlaw19_Query_Facts_t16) (R : RT) (x1 x2 x3 : Addr) (x64 : OA) (x64n x64c : Nat) (x65 x66 : Int) (I : IMem) (S : SH) : Prop :=
  bcase (decide (x66 < x65))
    (bolterlaw19_Query_Facts_b17 g16 R x1 x2 x3 x64 x64n x64c x65 x66 I S)
    (bolterlaw19_Query_Facts_b20 R x2 x3 I S)
def bolterlaw19_Query_Facts_b15 (R : RT) (x1 x2 x3 : Addr) (x64 : OA) (x64n x64c : Nat) (x65 x66 : Int) (I : IMem) (S : SH) : Prop :=
  ∃ (Inv : Nat → bolterlaw19_Query_Facts_t16) (m : Nat), Inv m x1 x2 x3 x64 x64n x64c x65 x66 I S ∧
    ∀ (m : Nat) (x1 x2 x3 : Addr) (x64 : OA) (x64n x64c : Nat) (x65 x66 : Int) (J : IMem) (T : SH), I.le J → Inv m x1 x2 x3 x64 x64n x64c x65 x66 J T →
      bolterlaw19_Query_Facts_l16 (fun x1 x2 x3 x64 x64n x64c x65 x66 I S => ∃ m', m' < m ∧ Inv m' x1 x2 x3 x64 x64n x64c x65 x66 I S) R x1 x2 x3 x64 x64n x64c x65 x66 J T
def bolterlaw19_Query_Facts_b14 (R : RT) (x1 x2 x3 : Addr) (I : IMem) (S : SH) : Prop :=
  ∃ u0 u0n u0c, Cell I S (x1.add 5) (.slice u0 u0n u0c) ∧
  bolterlaw19_Query_Facts_b15 R x1 x2 x3 u0 u0n u0c (u0n : Int) 0 I S
def bolterlaw19_Query_Facts_l10 (g10 : bolterlaw19_Query_Facts_t10) (R : RT) (x1 x2 x3 : Addr) (x45 : OA) (x45n x45c : Nat) (x46 x47 : Int) (I : IMem) (S : SH) : Prop :=
  bcase (decide (x47 < x46))
    (bolterlaw19_Query_Facts_b11 g10 R x1 x2 x3 x45 x45n x45c x46 x47 I S)
    (bolterlaw19_Query_Facts_b14 R x1 x2 x3 I S)
def bolterlaw19_Query_Facts_b9 (R : RT) (x1 x2 x3 : Addr) (x45 : OA) (x45n x45c : Nat) (x46 x47 : Int) (I : IMem) (S : SH) : Prop :=
  ∃ (Inv : Nat → bolterlaw19_Query_Facts_t10) (m : Nat), Inv m x1 x2 x3 x45 x45n x45c x46 x47 I S ∧
    ∀ (m : Nat) (x1 x2 x3 : Addr) (x45 : OA) (x45n x45c : Nat) (x46 x47 : Int) (J : IMem) (T : SH), I.le J → Inv m x1 x2 x3 x45 x45n x45c x46 x47 J T →
      bolterlaw19_Query_Facts_l10 (fun x1 x2 x3 x45 x45n x45c x46 x47 I S => ∃ m', m' < m ∧ Inv m' x1 x2 x3 x45 x45n x45c x46 x47 I S) R x1 x2 x3 x45 x45n x45c x46 x47 J T
def bolterlaw19_Query_Facts_b8 (R : RT) (x1 x2 x3 : Addr) (I : IMem) (S : SH) : Prop :=
  ∃ u0 u0n u0c, Cell I S (x1.add 4) (.slice u0 u0n u0c) ∧
  bolterlaw19_Query_Facts_b9 R x1 x2 x3 u0 u0n u0c (u0n : Int) 0 I S
def bolterlaw19_Query_Facts_l4 (g4 : bolterlaw19_Query_Facts_t4) (R : RT) (x1 x2 x3 : Addr) (x21 : OA) (x21n x21c : Nat) (x22 x23 : Int) (I : IMem) (S : SH) : Prop :=
  bcase (decide (x23 < x22))
    (bolterlaw19_Query_Facts_b5 g4 R x1 x2 x3 x21 x21n x21c x22 x23 I S)
    (bolterlaw19_Query_Facts_b8 R x1 x2 x3 I S)
def bolterlaw19_Query_Facts_b3 (R : RT) (x1 x2 x3 : Addr) (x21 : OA) (x21n x21c : Nat) (x22 x23 : Int) (I : IMem) (S : SH) : Prop :=
  ∃ (Inv : Nat → bolterlaw19_Query_Facts_t4) (m : Nat), Inv m x1 x2 x3 x21 x21n x21c x22 x23 I S ∧
    ∀ (m : Nat) (x1 x2 x3 : Addr) (x21 : OA) (x21n x21c : Nat) (x22 x23 : Int) (J : IMem) (T : SH), I.le J → Inv m x1 x2 x3 x21 x21n x21c x22 x23 J T →
      bolterlaw19_Query_Facts_l4 (fun x1 x2 x3 x21 x21n x21c x22 x23 I S => ∃ m', m' < m ∧ Inv m' x1 x2 x3 x21 x21n x21c x22 x23 I S) R x1 x2 x3 x21 x21n x21c x22 x23 J T
def bolterlaw19_Query_Facts_b2 (R : RT) (x1 x2 x3 : Addr) (I : IMem) (S : SH) : Prop :=
  ∃ u0 u0n u0c, Cell I S (x1.add 3) (.slice u0 u0n u0c) ∧
  bolterlaw19_Query_Facts_b3 R x1 x2 x3 u0 u0n u0c (u0n : Int) 0 I S
def bolterlaw19_Query_Facts_b1 (R : RT) (x1 x2 : Addr) (I : IMem) (S : SH) : Prop :=
  ∃ u0, Cell I S x1 (.bool u0) ∧
  ∃ u1 u1n u1c, Cell I S (x1.add 1) (.slice u1 u1n u1c) ∧
  ∃ u2 u2n u2c, Cell I S (x1.add 2) (.slice u2 u2n u2c) ∧
  (Runs Tryz.prog 35 #[.bool u0, .slice u1 u1n u1c] I S fun v I1 S1 => ∃ u3, v = .string u3 ∧
  Keep I S I1 S1 ∧
  (Runs Tryz.prog 12 #[.int .u8 1, .slice u2 u2n u2c, .bool false, .int .u8 0] I1 S1 fun v' I1' S1' => ∃ u4 u5 u6 u7, v' = .agg #[.int .i64 u4, .string u5, .string u6, .int .i64 u7] ∧
  ∀ b3 : Nat,
  Keep I S I1' ((b3, .cells #[.string ⟨#[]⟩, .string ⟨#[]⟩, .slice none 0 0, .slice none 0 0, .slice none 0 0] 37 (0, 0)) :: S1') ∧
  StP ((b3, .cells #[.string ⟨#[]⟩, .string ⟨#[]⟩, .slice none 0 0, .slice none 0 0, .slice none 0 0] 37 (0, 0)) :: S1') ⟨b3, 0, none⟩ [.string u3, .string u5, .slice none 0 0, .slice none 0 0, .slice none 0 0] fun S1'' =>
  bolterlaw19_Query_Facts_b2 R x1 x2 ⟨b3, 0, none⟩ I1' S1'') ∧
  (∀ b3' : Nat,
  Keep I S I1 ((b3', .cells #[.string ⟨#[]⟩, .string ⟨#[]⟩, .slice none 0 0, .slice none 0 0, .slice none 0 0] 37 (0, 0)) :: S1) ∧
  Runs Tryz.prog 12 #[.int .u8 1, .slice u2 u2n u2c, .bool false, .int .u8 0] I1 ((b3', .cells #[.string ⟨#[]⟩, .string ⟨#[]⟩, .slice none 0 0, .slice none 0 0, .slice none 0 0] 37 (0, 0)) :: S1) fun v'' I1'' S1_r3 => ∃ u8 u9 ua ub, v'' = .agg #[.int .i64 u8, .string u9, .string ua, .int .i64 ub] ∧
  StP S1_r3 ⟨b3', 0, none⟩ [.string u3, .string u9, .slice none 0 0, .slice none 0 0, .slice none 0 0] fun S1_r4 =>
  bolterlaw19_Query_Facts_b2 R x1 x2 ⟨b3', 0, none⟩ I1'' S1_r4)) ∧
  (∀ b3'' : Nat,
  Keep I S I ((b3'', .cells #[.string ⟨#[]⟩, .string ⟨#[]⟩, .slice none 0 0, .slice none 0 0, .slice none 0 0] 37 (0, 0)) :: S) ∧
  Runs Tryz.prog 35 #[.bool u0, .slice u1 u1n u1c] I ((b3'', .cells #[.string ⟨#[]⟩, .string ⟨#[]⟩, .slice none 0 0, .slice none 0 0, .slice none 0 0] 37 (0, 0)) :: S) fun v_r3 I1_r3 S1_r5 => ∃ uc, v_r3 = .string uc ∧
  Keep I S I1_r3 S1_r5 ∧
  Runs Tryz.prog 12 #[.int .u8 1, .slice u2 u2n u2c, .bool false, .int .u8 0] I1_r3 S1_r5 fun v_r4 I1_r4 S1_r6 => ∃ ud ue uf ug, v_r4 = .agg #[.int .i64 ud, .string ue, .string uf, .int .i64 ug] ∧
  StP S1_r6 ⟨b3'', 0, none⟩ [.string uc, .string ue, .slice none 0 0, .slice none 0 0, .slice none 0 0] fun S1_r7 =>
  bolterlaw19_Query_Facts_b2 R x1 x2 ⟨b3'', 0, none⟩ I1_r4 S1_r7)
def bolterlaw19_Query_Facts (R : RT) (u0 : Bool) (u1 : OA) (u1n u1c : Nat) (u2 : OA) (u2n u2c : Nat) (u3 : OA) (u3n u3c : Nat) (u4 : OA) (u4n u4c : Nat) (u5 : OA) (u5n u5c : Nat) (I : IMem) (S : SH) : Prop :=
  ∀ b1 : Nat,
  ∀ b2 : Nat,
  bolterlaw19_Query_Facts_b1 R ⟨b1, 0, none⟩ ⟨b2, 0, none⟩ I ((b2, .cells #[.string ⟨#[]⟩, .string ⟨#[]⟩, .slice none 0 0, .slice none 0 0, .slice none 0 0] 37 (0, 0)) :: ((b1, .cells #[.bool u0, .slice u1 u1n u1c, .slice u2 u2n u2c, .slice u3 u3n u3c, .slice u4 u4n u4c, .slice u5 u5n u5c] 25 (0, 0)) :: S))
theorem bolterlaw19_Query_Facts_fn (R : RT) (u0 : Bool) (u1 : OA) (u1n u1c : Nat) (u2 : OA) (u2n u2c : Nat) (u3 : OA) (u3n u3c : Nat) (u4 : OA) (u4n u4c : Nat) (u5 : OA) (u5n u5c : Nat) (I : IMem) (S : SH) (h : bolterlaw19_Query_Facts R u0 u1 u1n u1c u2 u2n u2c u3 u3n u3c u4 u4n u4c u5 u5n u5c I S) : Runs Tryz.prog 14 #[.agg #[.bool u0, .slice u1 u1n u1c, .slice u2 u2n u2c, .slice u3 u3n u3c, .slice u4 u4n u4c, .slice u5 u5n u5c]] I S R := by
  refine Runs.of_wp (c := cd Tryz.f14) Tryz.func14 (by kernel_rfl) (by kernel_rfl) ?_
  refine cO 1 [kA 1, kA 2] (bolterlaw19_Query_Facts_b1 R) h fun _ _ _ _ _ _ h => ?_
  refine sO [kA 1, kA 2, kA 3] (bolterlaw19_Query_Facts_b2 R) (dR (tk 4 0 (.take 5 (.take 6 (.fork 4 (.fork 7 (.take 8 (.take 9 (.step 10 (.step 11 .done)))) 10 (.step 7 (.take 8 (.take 9 (.step 11 .done))))) 10 (.step 4 (.step 7 (.take 8 (.take 9 (.step 11 .done))))))))) [4, 7, 10, 11] h) fun _ _ _ _ _ _ _ h => ?_
  refine sO [kA 1, kA 2, kA 3] (bolterlaw19_Query_Facts_b8 R) ?_ fun _ _ _ _ _ _ _ h => ?_
  · refine cO 1 [kA 1, kA 2, kA 3, kL 21, kI .i64 22, kI .i64 23] (bolterlaw19_Query_Facts_b3 R) h fun _ _ _ _ _ _ _ _ _ _ _ _ h => ?_
    refine bK ?_
    obtain ⟨Vg4, mg4, h, hr⟩ := h
    refine lO [kA 1, kA 2, kA 3, kL 21, kI .i64 22, kI .i64 23] Vg4 mg4 h fun mg4 _ I S hle x1 x2 x3 x21 x21n x21c x22 x23 h => ?_
    have h := hr mg4 x1 x2 x3 x21 x21n x21c x22 x23 I S hle h
    refine cO 2 [kA 1, kA 2, kA 3, kL 21, kI .i64 22, kI .i64 23] (bolterlaw19_Query_Facts_b5 (fun x1 x2 x3 x21 x21n x21c x22 x23 I S => ∃ m', m' < mg4 ∧ Vg4 m' x1 x2 x3 x21 x21n x21c x22 x23 I S) R) h fun _ _ _ _ _ _ _ _ _ _ _ _ h => ?_
    refine sO [kA 1, kA 2, kA 3, kL 21, kI .i64 22, kI .i64 23] (bolterlaw19_Query_Facts_b7 (fun x1 x2 x3 x21 x21n x21c x22 x23 I S => ∃ m', m' < mg4 ∧ Vg4 m' x1 x2 x3 x21 x21n x21c x22 x23 I S) R) ?_ fun _ _ _ _ _ _ _ _ _ _ _ _ h => ?_
    · refine bK ?_
      refine cO 2 [kA 1, kA 2, kA 3, kI .i64 4, kL 5, kL 21, kI .i64 22, kI .i64 23, kB 29] (bolterlaw19_Query_Facts_b6 (fun x1 x2 x3 x21 x21n x21c x22 x23 I S => ∃ m', m' < mg4 ∧ Vg4 m' x1 x2 x3 x21 x21n x21c x22 x23 I S) R) h fun _ _ _ _ _ _ _ _ _ _ _ _ _ _ _ _ _ h => ?_
      exact cD h (fun h => dR (tk 9 0 (.step 9 (.step 10 (.step 11 (.take 12 (.step 13 .done)))))) [9, 10, 11, 13] h) fun h => pS h
    exact pS h
  refine sO [kA 1, kA 2, kA 3] (bolterlaw19_Query_Facts_b14 R) ?_ fun _ _ _ _ _ _ _ h => ?_
  · refine cO 1 [kA 1, kA 2, kA 3, kL 45, kI .i64 46, kI .i64 47] (bolterlaw19_Query_Facts_b9 R) h fun _ _ _ _ _ _ _ _ _ _ _ _ h => ?_
    refine bK ?_
    obtain ⟨Vg10, mg10, h, hr⟩ := h
    refine lO [kA 1, kA 2, kA 3, kL 45, kI .i64 46, kI .i64 47] Vg10 mg10 h fun mg10 _ I S hle x1 x2 x3 x45 x45n x45c x46 x47 h => ?_
    have h := hr mg10 x1 x2 x3 x45 x45n x45c x46 x47 I S hle h
    refine cO 2 [kA 1, kA 2, kA 3, kL 45, kI .i64 46, kI .i64 47] (bolterlaw19_Query_Facts_b11 (fun x1 x2 x3 x45 x45n x45c x46 x47 I S => ∃ m', m' < mg10 ∧ Vg10 m' x1 x2 x3 x45 x45n x45c x46 x47 I S) R) h fun _ _ _ _ _ _ _ _ _ _ _ _ h => ?_
    refine sO [kA 1, kA 2, kA 3, kL 45, kI .i64 46, kI .i64 47] (bolterlaw19_Query_Facts_b13 (fun x1 x2 x3 x45 x45n x45c x46 x47 I S => ∃ m', m' < mg10 ∧ Vg10 m' x1 x2 x3 x45 x45n x45c x46 x47 I S) R) ?_ fun _ _ _ _ _ _ _ _ _ _ _ _ h => ?_
    · refine bK ?_
      refine cO 2 [kA 1, kA 2, kA 3, kL 7, kL 45, kI .i64 46, kI .i64 47, kB 53] (bolterlaw19_Query_Facts_b12 (fun x1 x2 x3 x45 x45n x45c x46 x47 I S => ∃ m', m' < mg10 ∧ Vg10 m' x1 x2 x3 x45 x45n x45c x46 x47 I S) R) h fun _ _ _ _ _ _ _ _ _ _ _ _ _ _ _ _ h => ?_
      exact cD h (fun h => dR (tk 3 0 (.step 3 (.take 4 (.step 5 (.step 6 (.take 7 (.step 8 .done))))))) [3, 5, 6, 8] h) fun h => pS h
    exact pS h
  refine sO [kA 2, kA 3] (bolterlaw19_Query_Facts_b20 R) ?_ fun _ _ _ _ _ _ h => ?_
  · refine cO 1 [kA 1, kA 2, kA 3, kL 64, kI .i64 65, kI .i64 66] (bolterlaw19_Query_Facts_b15 R) h fun _ _ _ _ _ _ _ _ _ _ _ _ h => ?_
    refine bK ?_
    obtain ⟨Vg16, mg16, h, hr⟩ := h
    refine lO [kA 1, kA 2, kA 3, kL 64, kI .i64 65, kI .i64 66] Vg16 mg16 h fun mg16 _ I S hle x1 x2 x3 x64 x64n x64c x65 x66 h => ?_
    have h := hr mg16 x1 x2 x3 x64 x64n x64c x65 x66 I S hle h
    refine cO 2 [kA 1, kA 2, kA 3, kL 64, kI .i64 65, kI .i64 66] (bolterlaw19_Query_Facts_b17 (fun x1 x2 x3 x64 x64n x64c x65 x66 I S => ∃ m', m' < mg16 ∧ Vg16 m' x1 x2 x3 x64 x64n x64c x65 x66 I S) R) h fun _ _ _ _ _ _ _ _ _ _ _ _ h => ?_
    refine sO [kA 1, kA 2, kA 3, kL 64, kI .i64 65, kI .i64 66] (bolterlaw19_Query_Facts_b19 (fun x1 x2 x3 x64 x64n x64c x65 x66 I S => ∃ m', m' < mg16 ∧ Vg16 m' x1 x2 x3 x64 x64n x64c x65 x66 I S) R) ?_ fun _ _ _ _ _ _ _ _ _ _ _ _ h => ?_
    · refine bK ?_
      refine cO 2 [kA 1, kA 2, kA 3, kL 9, kL 64, kI .i64 65, kI .i64 66, kB 72] (bolterlaw19_Query_Facts_b18 (fun x1 x2 x3 x64 x64n x64c x65 x66 I S => ∃ m', m' < mg16 ∧ Vg16 m' x1 x2 x3 x64 x64n x64c x65 x66 I S) R) h fun _ _ _ _ _ _ _ _ _ _ _ _ _ _ _ _ h => ?_
      exact cD h (fun h => dR (tk 5 0 (.step 5 (.step 6 (.step 7 (.take 8 (.step 9 .done)))))) [5, 6, 7, 9] h) fun h => pS h
    exact pS h
  exact pS h
abbrev bolterlaw19_Policies_t3 := OA → Nat → Nat → OA → Nat → Nat → OA → Nat → Nat → Int → Int → PR
def bolterlaw19_Policies_b5 (R : RT) (x5 : OA) (x5n x5c : Nat) (I : IMem) (S : SH) : Prop :=
  R (.slice x5 x5n x5c) I S
def bolterlaw19_Policies_b10 (g3 : bolterlaw19_Policies_t3) (R : RT) (x1 : OA) (x1n x1c : Nat) (x5 : OA) (x5n x5c : Nat) (x9 : OA) (x9n x9c : Nat) (x10 x11 : Int) (I : IMem) (S : SH) : Prop :=
  g3 x1 x1n x1c x5 x5n x5c x9 x9n x9c x10 (IntKind.wrap .i64 (x11 + (1 : Int))) I S
def bolterlaw19_Policies_b9 (g3 : bolterlaw19_Policies_t3) (R : RT) (x1 : OA) (x1n x1c : Nat) (x5 : OA) (x5n x5c : Nat) (x8 : Addr) (x9 : OA) (x9n x9c : Nat) (x10 x11 : Int) (I : IMem) (S : SH) : Prop :=
  ∃ u0, Cell I S x8 (.string u0) ∧
  ∃ u1 u1n u1c, Cell I S (x8.add 1) (.slice u1 u1n u1c) ∧
  ∃ u2, Cell I S (x8.add 2) (.bool u2) ∧
  ∃ u3, Cell I S (x8.add 3) (.int .i64 u3) ∧
  ∀ b50 : Nat,
  AppG 61 4 56 [.string ⟨#[]⟩, .slice none 0 0, .bool false, .int .i64 0] (some (.slice 61)) I ((b50, .cells #[.string u0, .slice u1 u1n u1c, .bool u2, .int .i64 u3] 61 (0, 0)) :: S) (.slice x5 x5n x5c) (.slice (some ⟨b50, 0, none⟩) 1 1) fun u4 u4n u4c S1 =>
  bolterlaw19_Policies_b10 g3 R x1 x1n x1c u4 u4n u4c x9 x9n x9c x10 x11 I S1
def bolterlaw19_Policies_b8 (g3 : bolterlaw19_Policies_t3) (R : RT) (x1 : OA) (x1n x1c : Nat) (x5 : OA) (x5n x5c : Nat) (x8 : Addr) (x9 : OA) (x9n x9c : Nat) (x10 x11 : Int) (I : IMem) (S : SH) : Prop :=
  ∃ u0, Cell I S (x8.add 3) (.int .i64 u0) ∧
  bcase (decide (u0 > (6 : Int)))
    (StP S (x8.add 3) [.int .i64 0] fun S1 =>
    bolterlaw19_Policies_b9 g3 R x1 x1n x1c x5 x5n x5c x8 x9 x9n x9c x10 x11 I S1)
    (bolterlaw19_Policies_b9 g3 R x1 x1n x1c x5 x5n x5c x8 x9 x9n x9c x10 x11 I S)
def bolterlaw19_Policies_b7 (g3 : bolterlaw19_Policies_t3) (R : RT) (x1 : OA) (x1n x1c : Nat) (x5 : OA) (x5n x5c : Nat) (x6 : Int) (x8 : Addr) (x9 : OA) (x9n x9c : Nat) (x10 x11 : Int) (x28 : Bool) (I : IMem) (S : SH) : Prop :=
  bcase x28
    (∃ F1 : SH, Keep I F1 I S ∧
    ptrP x1 fun u0 => (0 : Int) ≤ x6 ∧ x6 < (x1n : Int) ∧
    ∃ u1, Cell I F1 (u0.add (x6.toNat * 1)) (.int .u8 u1) ∧
    ptrP x1 fun u2 => (0 : Int) ≤ x6 ∧ x6 < (x1n : Int) ∧
    ∃ u3, Cell I F1 (u2.add (x6.toNat * 1)) (.int .u8 u3) ∧
    StP S (x8.add 3) [.int .i64 (IntKind.wrap .i64 (IntKind.wrap .u8 ((u1.tmod (24 : Int)).tdiv (2 : Int))))] fun S1 =>
    Keep I F1 I S1 ∧
    StP S1 (x8.add 2) [.bool ((IntKind.wrap .u8 (u3.tdiv (64 : Int))) != (3 : Int))] fun S1' =>
    bolterlaw19_Policies_b8 g3 R x1 x1n x1c x5 x5n x5c x8 x9 x9n x9c x10 x11 I S1')
    (bolterlaw19_Policies_b9 g3 R x1 x1n x1c x5 x5n x5c x8 x9 x9n x9c x10 x11 I S)
def bolterlaw19_Policies_b6 (g3 : bolterlaw19_Policies_t3) (R : RT) (x1 : OA) (x1n x1c : Nat) (x5 : OA) (x5n x5c : Nat) (x6 : Int) (x8 : Addr) (x9 : OA) (x9n x9c : Nat) (x10 x11 : Int) (I : IMem) (S : SH) : Prop :=
  bolterlaw19_Policies_b7 g3 R x1 x1n x1c x5 x5n x5c x6 x8 x9 x9n x9c x10 x11 (decide (x6 < (x1n : Int))) I S
def bolterlaw19_Policies_b4 (g3 : bolterlaw19_Policies_t3) (R : RT) (x1 : OA) (x1n x1c : Nat) (x5 : OA) (x5n x5c : Nat) (x9 : OA) (x9n x9c : Nat) (x10 x11 : Int) (I : IMem) (S : SH) : Prop :=
  ptrP x9 fun u0 => (0 : Int) ≤ x11 ∧ x11 < (x9n : Int) ∧
  ∃ u1 u1n u1c, Cell I S (u0.add (x11.toNat * 1)) (.slice u1 u1n u1c) ∧
  bcase (x11 == (5 : Int))
    (bolterlaw19_Policies_b5 R x5 x5n x5c I S)
    (Runs Tryz.prog 22 #[.int .i64 x11] I S fun v I1 S1 => ∃ u2, v = .string u2 ∧
    Runs Tryz.prog 22 #[.int .i64 x11] I1 S1 fun v' I1' S1' => ∃ u3, v' = .string u3 ∧
    Runs Tryz.prog 23 #[.string u3, .slice u1 u1n u1c] I1' S1' fun v'' I1'' S1'' => ∃ u4 u4n u4c, v'' = .slice u4 u4n u4c ∧
    ∀ b8 : Nat,
    StP ((b8, .cells #[.string ⟨#[]⟩, .slice none 0 0, .bool false, .int .i64 0] 61 (0, 0)) :: S1'') ⟨b8, 0, none⟩ [.string u2, .slice u4 u4n u4c, .bool true, .int .i64 0] fun S1_r3 =>
    bolterlaw19_Policies_b6 g3 R x1 x1n x1c x5 x5n x5c x11 ⟨b8, 0, none⟩ x9 x9n x9c x10 x11 I1'' S1_r3)
def bolterlaw19_Policies_l3 (g3 : bolterlaw19_Policies_t3) (R : RT) (x1 : OA) (x1n x1c : Nat) (x5 : OA) (x5n x5c : Nat) (x9 : OA) (x9n x9c : Nat) (x10 x11 : Int) (I : IMem) (S : SH) : Prop :=
  bcase (decide (x11 < x10))
    (bolterlaw19_Policies_b4 g3 R x1 x1n x1c x5 x5n x5c x9 x9n x9c x10 x11 I S)
    (bolterlaw19_Policies_b5 R x5 x5n x5c I S)
def bolterlaw19_Policies_b2 (R : RT) (x1 : OA) (x1n x1c : Nat) (x5 : OA) (x5n x5c : Nat) (x9 : OA) (x9n x9c : Nat) (x10 x11 : Int) (I : IMem) (S : SH) : Prop :=
  ∃ (Inv : Nat → bolterlaw19_Policies_t3) (m : Nat), Inv m x1 x1n x1c x5 x5n x5c x9 x9n x9c x10 x11 I S ∧
    ∀ (m : Nat) (x1 : OA) (x1n x1c : Nat) (x5 : OA) (x5n x5c : Nat) (x9 : OA) (x9n x9c : Nat) (x10 x11 : Int) (J : IMem) (T : SH), I.le J → Inv m x1 x1n x1c x5 x5n x5c x9 x9n x9c x10 x11 J T →
      bolterlaw19_Policies_l3 (fun x1 x1n x1c x5 x5n x5c x9 x9n x9c x10 x11 I S => ∃ m', m' < m ∧ Inv m' x1 x1n x1c x5 x5n x5c x9 x9n x9c x10 x11 I S) R x1 x1n x1c x5 x5n x5c x9 x9n x9c x10 x11 J T
def bolterlaw19_Policies_b1 (R : RT) (x0 : OA) (x0n x0c : Nat) (x1 : OA) (x1n x1c : Nat) (x5 : OA) (x5n x5c : Nat) (I : IMem) (S : SH) : Prop :=
  bolterlaw19_Policies_b2 R x1 x1n x1c x5 x5n x5c x0 x0n x0c (x0n : Int) 0 I S
def bolterlaw19_Policies (R : RT) (u0 : OA) (u0n u0c : Nat) (u1 : OA) (u1n u1c : Nat) (I : IMem) (S : SH) : Prop :=
  bolterlaw19_Policies_b1 R u0 u0n u0c u1 u1n u1c none 0 0 I S
theorem bolterlaw19_Policies_fn (R : RT) (u0 : OA) (u0n u0c : Nat) (u1 : OA) (u1n u1c : Nat) (I : IMem) (S : SH) (h : bolterlaw19_Policies R u0 u0n u0c u1 u1n u1c I S) : Runs Tryz.prog 29 #[.slice u0 u0n u0c, .slice u1 u1n u1c] I S R := by
  refine Runs.of_wp (c := cd Tryz.f29) Tryz.func29 (by kernel_rfl) (by kernel_rfl) ?_
  refine cO 2 [kL 0, kL 1, kL 5] (bolterlaw19_Policies_b1 R) h fun _ _ _ _ _ _ _ _ _ _ _ _ _ h => ?_
  refine sO [kL 5] (bolterlaw19_Policies_b5 R) ?_ fun _ _ _ _ _ _ _ h => ?_
  · refine cO 1 [kL 1, kL 5, kL 9, kI .i64 10, kI .i64 11] (bolterlaw19_Policies_b2 R) h fun _ _ _ _ _ _ _ _ _ _ _ _ _ _ _ h => ?_
    refine bK ?_
    obtain ⟨Vg3, mg3, h, hr⟩ := h
    refine lO [kL 1, kL 5, kL 9, kI .i64 10, kI .i64 11] Vg3 mg3 h fun mg3 _ I S hle x1 x1n x1c x5 x5n x5c x9 x9n x9c x10 x11 h => ?_
    have h := hr mg3 x1 x1n x1c x5 x5n x5c x9 x9n x9c x10 x11 I S hle h
    refine cO 2 [kL 1, kL 5, kL 9, kI .i64 10, kI .i64 11] (bolterlaw19_Policies_b4 (fun x1 x1n x1c x5 x5n x5c x9 x9n x9c x10 x11 I S => ∃ m', m' < mg3 ∧ Vg3 m' x1 x1n x1c x5 x5n x5c x9 x9n x9c x10 x11 I S) R) h fun _ _ _ _ _ _ _ _ _ _ _ _ _ _ _ h => ?_
    refine sO [kL 1, kL 5, kL 9, kI .i64 10, kI .i64 11] (bolterlaw19_Policies_b10 (fun x1 x1n x1c x5 x5n x5c x9 x9n x9c x10 x11 I S => ∃ m', m' < mg3 ∧ Vg3 m' x1 x1n x1c x5 x5n x5c x9 x9n x9c x10 x11 I S) R) ?_ fun _ _ _ _ _ _ _ _ _ _ _ _ _ _ _ h => ?_
    · refine bK ?_
      refine cO 3 [kL 1, kL 5, kI .i64 6, kA 8, kL 9, kI .i64 10, kI .i64 11] (bolterlaw19_Policies_b6 (fun x1 x1n x1c x5 x5n x5c x9 x9n x9c x10 x11 I S => ∃ m', m' < mg3 ∧ Vg3 m' x1 x1n x1c x5 x5n x5c x9 x9n x9c x10 x11 I S) R) h fun _ _ _ _ _ _ _ _ _ _ _ _ _ _ _ _ _ h => ?_
      refine sO [kL 1, kL 5, kA 8, kL 9, kI .i64 10, kI .i64 11] (bolterlaw19_Policies_b9 (fun x1 x1n x1c x5 x5n x5c x9 x9n x9c x10 x11 I S => ∃ m', m' < mg3 ∧ Vg3 m' x1 x1n x1c x5 x5n x5c x9 x9n x9c x10 x11 I S) R) ?_ fun _ _ _ _ _ _ _ _ _ _ _ _ _ _ _ _ h => ?_
      · refine cO 1 [kL 1, kL 5, kI .i64 6, kA 8, kL 9, kI .i64 10, kI .i64 11, kB 28] (bolterlaw19_Policies_b7 (fun x1 x1n x1c x5 x5n x5c x9 x9n x9c x10 x11 I S => ∃ m', m' < mg3 ∧ Vg3 m' x1 x1n x1c x5 x5n x5c x9 x9n x9c x10 x11 I S) R) h fun _ _ _ _ _ _ _ _ _ _ _ _ _ _ _ _ _ _ h => ?_
        refine cD h (fun h => ?_) fun h => pS h
        refine sO [kL 1, kL 5, kA 8, kL 9, kI .i64 10, kI .i64 11] (bolterlaw19_Policies_b8 (fun x1 x1n x1c x5 x5n x5c x9 x9n x9c x10 x11 I S => ∃ m', m' < mg3 ∧ Vg3 m' x1 x1n x1c x5 x5n x5c x9 x9n x9c x10 x11 I S) R) (dF (tk 14 0 (.step 14 (.take 15 (.step 16 .done)))) [14, 16] h) fun _ _ _ _ _ _ _ _ _ _ _ _ _ _ _ _ h => ?_
        exact pS h
      exact pS h
    exact pS h
  exact pS h
def bolterlaw19_SearchZones_f1_b1 (R : RT) (x4 : Bool) (I : IMem) (S : SH) : Prop :=
  R (.bool x4) I S
def bolterlaw19_SearchZones_f1 (R : RT) (u0 u1 : Int) (u2 u3 : ByteArray) (u4 u5 : Int) (u6 : ByteArray) (u7 : Bool) (u8 : OA) (u8n u8c : Nat) (u9 ua : Int) (ub uc : ByteArray) (ud ue : Int) (uf : ByteArray) (ug : Bool) (uh : OA) (uhn uhc : Nat) (I : IMem) (S : SH) : Prop :=
  ∀ b2 : Nat,
  ∀ b3 : Nat,
  ∃ ui, Cell I ((b3, .cells #[.int .i64 u9, .int .i64 ua, .string ub, .string uc, .int .i64 ud, .int .i64 ue, .string uf, .bool ug, .slice uh uhn uhc] 80 (0, 0)) :: ((b2, .cells #[.int .i64 u0, .int .i64 u1, .string u2, .string u3, .int .i64 u4, .int .i64 u5, .string u6, .bool u7, .slice u8 u8n u8c] 80 (0, 0)) :: S)) ⟨b2, 0, none⟩ (.int .i64 ui) ∧
  ∃ uj, Cell I ((b3, .cells #[.int .i64 u9, .int .i64 ua, .string ub, .string uc, .int .i64 ud, .int .i64 ue, .string uf, .bool ug, .slice uh uhn uhc] 80 (0, 0)) :: ((b2, .cells #[.int .i64 u0, .int .i64 u1, .string u2, .string u3, .int .i64 u4, .int .i64 u5, .string u6, .bool u7, .slice u8 u8n u8c] 80 (0, 0)) :: S)) ⟨b3, 0, none⟩ (.int .i64 uj) ∧
  bcase (ui == uj)
    (∃ uk, Cell I ((b3, .cells #[.int .i64 u9, .int .i64 ua, .string ub, .string uc, .int .i64 ud, .int .i64 ue, .string uf, .bool ug, .slice uh uhn uhc] 80 (0, 0)) :: ((b2, .cells #[.int .i64 u0, .int .i64 u1, .string u2, .string u3, .int .i64 u4, .int .i64 u5, .string u6, .bool u7, .slice u8 u8n u8c] 80 (0, 0)) :: S)) ⟨b2, 1, none⟩ (.int .i64 uk) ∧
    ∃ ul, Cell I ((b3, .cells #[.int .i64 u9, .int .i64 ua, .string ub, .string uc, .int .i64 ud, .int .i64 ue, .string uf, .bool ug, .slice uh uhn uhc] 80 (0, 0)) :: ((b2, .cells #[.int .i64 u0, .int .i64 u1, .string u2, .string u3, .int .i64 u4, .int .i64 u5, .string u6, .bool u7, .slice u8 u8n u8c] 80 (0, 0)) :: S)) ⟨b2, 2, none⟩ (.string ul) ∧
    ∃ um, Cell I ((b3, .cells #[.int .i64 u9, .int .i64 ua, .string ub, .string uc, .int .i64 ud, .int .i64 ue, .string uf, .bool ug, .slice uh uhn uhc] 80 (0, 0)) :: ((b2, .cells #[.int .i64 u0, .int .i64 u1, .string u2, .string u3, .int .i64 u4, .int .i64 u5, .string u6, .bool u7, .slice u8 u8n u8c] 80 (0, 0)) :: S)) ⟨b2, 3, none⟩ (.string um) ∧
    ∃ un, Cell I ((b3, .cells #[.int .i64 u9, .int .i64 ua, .string ub, .string uc, .int .i64 ud, .int .i64 ue, .string uf, .bool ug, .slice uh uhn uhc] 80 (0, 0)) :: ((b2, .cells #[.int .i64 u0, .int .i64 u1, .string u2, .string u3, .int .i64 u4, .int .i64 u5, .string u6, .bool u7, .slice u8 u8n u8c] 80 (0, 0)) :: S)) ⟨b2, 4, none⟩ (.int .i64 un) ∧
    ∃ uo, Cell I ((b3, .cells #[.int .i64 u9, .int .i64 ua, .string ub, .string uc, .int .i64 ud, .int .i64 ue, .string uf, .bool ug, .slice uh uhn uhc] 80 (0, 0)) :: ((b2, .cells #[.int .i64 u0, .int .i64 u1, .string u2, .string u3, .int .i64 u4, .int .i64 u5, .string u6, .bool u7, .slice u8 u8n u8c] 80 (0, 0)) :: S)) ⟨b3, 1, none⟩ (.int .i64 uo) ∧
    ∃ up, Cell I ((b3, .cells #[.int .i64 u9, .int .i64 ua, .string ub, .string uc, .int .i64 ud, .int .i64 ue, .string uf, .bool ug, .slice uh uhn uhc] 80 (0, 0)) :: ((b2, .cells #[.int .i64 u0, .int .i64 u1, .string u2, .string u3, .int .i64 u4, .int .i64 u5, .string u6, .bool u7, .slice u8 u8n u8c] 80 (0, 0)) :: S)) ⟨b3, 2, none⟩ (.string up) ∧
    ∃ uq, Cell I ((b3, .cells #[.int .i64 u9, .int .i64 ua, .string ub, .string uc, .int .i64 ud, .int .i64 ue, .string uf, .bool ug, .slice uh uhn uhc] 80 (0, 0)) :: ((b2, .cells #[.int .i64 u0, .int .i64 u1, .string u2, .string u3, .int .i64 u4, .int .i64 u5, .string u6, .bool u7, .slice u8 u8n u8c] 80 (0, 0)) :: S)) ⟨b3, 3, none⟩ (.string uq) ∧
    ∃ ur, Cell I ((b3, .cells #[.int .i64 u9, .int .i64 ua, .string ub, .string uc, .int .i64 ud, .int .i64 ue, .string uf, .bool ug, .slice uh uhn uhc] 80 (0, 0)) :: ((b2, .cells #[.int .i64 u0, .int .i64 u1, .string u2, .string u3, .int .i64 u4, .int .i64 u5, .string u6, .bool u7, .slice u8 u8n u8c] 80 (0, 0)) :: S)) ⟨b3, 4, none⟩ (.int .i64 ur) ∧
    bcase (((uk : Int) == (uo : Int)) && (((ul : ByteArray) == (up : ByteArray)) && ((((um : ByteArray) == (uq : ByteArray)) && (((un : Int) == (ur : Int)) && true)) && true)))
      (∃ us, Cell I ((b3, .cells #[.int .i64 u9, .int .i64 ua, .string ub, .string uc, .int .i64 ud, .int .i64 ue, .string uf, .bool ug, .slice uh uhn uhc] 80 (0, 0)) :: ((b2, .cells #[.int .i64 u0, .int .i64 u1, .string u2, .string u3, .int .i64 u4, .int .i64 u5, .string u6, .bool u7, .slice u8 u8n u8c] 80 (0, 0)) :: S)) ⟨b2, 5, none⟩ (.int .i64 us) ∧
      ∃ ut, Cell I ((b3, .cells #[.int .i64 u9, .int .i64 ua, .string ub, .string uc, .int .i64 ud, .int .i64 ue, .string uf, .bool ug, .slice uh uhn uhc] 80 (0, 0)) :: ((b2, .cells #[.int .i64 u0, .int .i64 u1, .string u2, .string u3, .int .i64 u4, .int .i64 u5, .string u6, .bool u7, .slice u8 u8n u8c] 80 (0, 0)) :: S)) ⟨b2, 6, none⟩ (.string ut) ∧
      ∃ uu, Cell I ((b3, .cells #[.int .i64 u9, .int .i64 ua, .string ub, .string uc, .int .i64 ud, .int .i64 ue, .string uf, .bool ug, .slice uh uhn uhc] 80 (0, 0)) :: ((b2, .cells #[.int .i64 u0, .int .i64 u1, .string u2, .string u3, .int .i64 u4, .int .i64 u5, .string u6, .bool u7, .slice u8 u8n u8c] 80 (0, 0)) :: S)) ⟨b2, 7, none⟩ (.bool uu) ∧
      ∃ uv uvn uvc, Cell I ((b3, .cells #[.int .i64 u9, .int .i64 ua, .string ub, .string uc, .int .i64 ud, .int .i64 ue, .string uf, .bool ug, .slice uh uhn uhc] 80 (0, 0)) :: ((b2, .cells #[.int .i64 u0, .int .i64 u1, .string u2, .string u3, .int .i64 u4, .int .i64 u5, .string u6, .bool u7, .slice u8 u8n u8c] 80 (0, 0)) :: S)) ⟨b2, 8, none⟩ (.slice uv uvn uvc) ∧
      ∃ uw, Cell I ((b3, .cells #[.int .i64 u9, .int .i64 ua, .string ub, .string uc, .int .i64 ud, .int .i64 ue, .string uf, .bool ug, .slice uh uhn uhc] 80 (0, 0)) :: ((b2, .cells #[.int .i64 u0, .int .i64 u1, .string u2, .string u3, .int .i64 u4, .int .i64 u5, .string u6, .bool u7, .slice u8 u8n u8c] 80 (0, 0)) :: S)) ⟨b3, 5, none⟩ (.int .i64 uw) ∧
      ∃ ux, Cell I ((b3, .cells #[.int .i64 u9, .int .i64 ua, .string ub, .string uc, .int .i64 ud, .int .i64 ue, .string uf, .bool ug, .slice uh uhn uhc] 80 (0, 0)) :: ((b2, .cells #[.int .i64 u0, .int .i64 u1, .string u2, .string u3, .int .i64 u4, .int .i64 u5, .string u6, .bool u7, .slice u8 u8n u8c] 80 (0, 0)) :: S)) ⟨b3, 6, none⟩ (.string ux) ∧
      ∃ uy, Cell I ((b3, .cells #[.int .i64 u9, .int .i64 ua, .string ub, .string uc, .int .i64 ud, .int .i64 ue, .string uf, .bool ug, .slice uh uhn uhc] 80 (0, 0)) :: ((b2, .cells #[.int .i64 u0, .int .i64 u1, .string u2, .string u3, .int .i64 u4, .int .i64 u5, .string u6, .bool u7, .slice u8 u8n u8c] 80 (0, 0)) :: S)) ⟨b3, 7, none⟩ (.bool uy) ∧
      ∃ uz uzn uzc, Cell I ((b3, .cells #[.int .i64 u9, .int .i64 ua, .string ub, .string uc, .int .i64 ud, .int .i64 ue, .string uf, .bool ug, .slice uh uhn uhc] 80 (0, 0)) :: ((b2, .cells #[.int .i64 u0, .int .i64 u1, .string u2, .string u3, .int .i64 u4, .int .i64 u5, .string u6, .bool u7, .slice u8 u8n u8c] 80 (0, 0)) :: S)) ⟨b3, 8, none⟩ (.slice uz uzn uzc) ∧
      Runs Tryz.prog 28 #[.agg #[.int .i64 us, .string ut, .bool uu, .slice uv uvn uvc], .agg #[.int .i64 uw, .string ux, .bool uy, .slice uz uzn uzc]] I ((b3, .cells #[.int .i64 u9, .int .i64 ua, .string ub, .string uc, .int .i64 ud, .int .i64 ue, .string uf, .bool ug, .slice uh uhn uhc] 80 (0, 0)) :: ((b2, .cells #[.int .i64 u0, .int .i64 u1, .string u2, .string u3, .int .i64 u4, .int .i64 u5, .string u6, .bool u7, .slice u8 u8n u8c] 80 (0, 0)) :: S)) fun v I1 S1 => ∃ u10, v = .bool u10 ∧
      bolterlaw19_SearchZones_f1_b1 R u10 I1 S1)
      (bolterlaw19_SearchZones_f1_b1 R false I ((b3, .cells #[.int .i64 u9, .int .i64 ua, .string ub, .string uc, .int .i64 ud, .int .i64 ue, .string uf, .bool ug, .slice uh uhn uhc] 80 (0, 0)) :: ((b2, .cells #[.int .i64 u0, .int .i64 u1, .string u2, .string u3, .int .i64 u4, .int .i64 u5, .string u6, .bool u7, .slice u8 u8n u8c] 80 (0, 0)) :: S))))
    (bolterlaw19_SearchZones_f1_b1 R false I ((b3, .cells #[.int .i64 u9, .int .i64 ua, .string ub, .string uc, .int .i64 ud, .int .i64 ue, .string uf, .bool ug, .slice uh uhn uhc] 80 (0, 0)) :: ((b2, .cells #[.int .i64 u0, .int .i64 u1, .string u2, .string u3, .int .i64 u4, .int .i64 u5, .string u6, .bool u7, .slice u8 u8n u8c] 80 (0, 0)) :: S)))
theorem bolterlaw19_SearchZones_f1_fn (R : RT) (u0 u1 : Int) (u2 u3 : ByteArray) (u4 u5 : Int) (u6 : ByteArray) (u7 : Bool) (u8 : OA) (u8n u8c : Nat) (u9 ua : Int) (ub uc : ByteArray) (ud ue : Int) (uf : ByteArray) (ug : Bool) (uh : OA) (uhn uhc : Nat) (I : IMem) (S : SH) (h : bolterlaw19_SearchZones_f1 R u0 u1 u2 u3 u4 u5 u6 u7 u8 u8n u8c u9 ua ub uc ud ue uf ug uh uhn uhc I S) : Runs Tryz.prog 32 #[.agg #[.int .i64 u0, .int .i64 u1, .string u2, .string u3, .int .i64 u4, .int .i64 u5, .string u6, .bool u7, .slice u8 u8n u8c], .agg #[.int .i64 u9, .int .i64 ua, .string ub, .string uc, .int .i64 ud, .int .i64 ue, .string uf, .bool ug, .slice uh uhn uhc]] I S R := by
  refine Runs.of_wp (c := cd Tryz.f32) Tryz.func32 (by kernel_rfl) (by kernel_rfl) ?_
  refine cO 2 [kB 4] (bolterlaw19_SearchZones_f1_b1 R) h fun _ _ _ _ _ h => ?_
  exact pS h
end Go.Proofs.YtmlojdbahlfiaaaGreatDoor
/- The document's example of a search. -/
namespace Go.Proofs.YtmlojdbahlfiaaaGreatDoor
open Go.Px
set_option linter.unusedVariables false
set_option linter.unusedSimpArgs false
set_option maxRecDepth 8000

def exL : ByteArray := ⟨#[101, 120]⟩
def rpzL : ByteArray := ⟨#[114, 112, 122]⟩
def exN : ByteArray := ⟨#[2, 101, 120]⟩
def rpzN : ByteArray := ⟨#[3, 114, 112, 122]⟩
def exrN : ByteArray := ⟨#[2, 101, 120, 3, 114, 112, 122]⟩
theorem mkEx : makeN [exL] ByteArray.empty = some exN := by decide +kernel
theorem mkRpz : makeN [rpzL] ByteArray.empty = some rpzN := by decide +kernel
theorem mkExr : makeN [exL, rpzL] ByteArray.empty = some exrN := by decide +kernel
theorem exN_ok : IsName exN := isName_iff.2 (by decide +kernel)
theorem rpzN_ok : IsName rpzN := isName_iff.2 (by decide +kernel)
theorem dec_ex : decF exN = some (1, exN, ⟨#[]⟩, 0) := by
  have h : labN exN = some [exL] := by decide +kernel
  have hk : kindOf exL = none := by decide +kernel
  have hl : decL [exL] = namedF [exL] 1 2 := by
    unfold decL
    rw [show ([exL] : List ByteArray).getLast? = some exL from rfl]
    dsimp only
    rw [hk]
  have hd : decF exN = decL [exL] := by
    unfold decF
    rw [h]
  rw [hd, hl]
  unfold namedF
  dsimp only
  rw [if_neg (by decide +kernel), mkEx]
  rfl
abbrev rcA : Rc := (exrN, 5, 0, ⟨#[]⟩)
abbrev plA (b : Nat) : Pl := ⟨rpzN, (some ⟨b, 0, none⟩, 1, 1), [rcA], true, 0⟩
abbrev faA : Fa := ⟨⟨#[]⟩, exN, (none, 0, 0), (none, 0, 0), (none, 0, 0), [], [], []⟩
theorem node_A (b : Nat) : nodeF (plA b) exrN = some ((1, exN, ⟨#[]⟩, 0), ⟨4, ⟨#[]⟩, false, []⟩) := by
  have e : exrN = exN ++ rpzN := by decide +kernel
  have hs : stripN exrN rpzN = (exN, true) := by
    rw [e]; exact strip_app exN_ok rpzN_ok (by decide)
  have hf : [rcA].filter (ofN exrN) = [rcA] := by
    have : ofN exrN rcA = true := keq.2 rfl
    simp [this]
  have ha : actF [rcA] = some ⟨4, ⟨#[]⟩, false, []⟩ := by
    have ht : tgtF ⟨#[]⟩ = (4, ⟨#[]⟩, false) := if_pos rfl
    unfold actF
    rw [if_neg (by decide +kernel)]
    show (if (5 : Int) = 5 then some (⟨(tgtF ⟨#[]⟩).1, (tgtF ⟨#[]⟩).2.1, (tgtF ⟨#[]⟩).2.2, []⟩ : Av) else _) = _
    rw [if_pos rfl, ht]
  unfold nodeF
  show (if (stripN exrN rpzN).2 = true then _ else none) = _
  rw [hs, if_pos rfl]
  show (match decF exN, actF ([rcA].filter (ofN exrN)) with | some t, some a => some (t, overF a 0) | _, _ => none) = _
  rw [dec_ex, hf, ha]
  rfl
theorem of_A (b : Nat) : ofF faA [plA b] 0 none = some (0, (1, exN, ⟨#[]⟩, 0), ⟨4, ⟨#[]⟩, false, []⟩) := by
  have hm : matchT (1, exN, ⟨#[]⟩, 0) faA = true := by
    unfold matchT
    rw [if_neg (by decide), if_pos rfl]
    exact keq.2 rfl
  show polF faA 0 (plA b) none = _
  unfold polF
  rw [if_pos rfl]
  show stepR faA 0 (plA b) none rcA = _
  unfold stepR
  rw [show nodeF (plA b) rcA.1 = _ from node_A b]
  exact if_pos ⟨by decide, hm, rfl⟩
theorem strs_row {I : IMem} {S : SH} {e : TypeId} {b : Nat} (xs : List ByteArray) (h : xs.length ≤ 100) : RowIn I ((b, .cells (xs.flatMap elS).toArray e (0, 0)) :: S) (some ⟨b, 0, none⟩) xs.length 1 elS xs :=
  (OwnR.row (e := e) elS_len (c := xs.length) (own := [(b, .cells (xs.flatMap elS).toArray e (0, 0))]) (.inr ⟨b, xs.length, [], rfl, by rw [List.append_nil], by simp, by simp only [maxLen]; omega⟩)).sub (Sub.left (L := [(b, .cells (xs.flatMap elS).toArray e (0, 0))]) (M := S) (Sub.refl _))
theorem ls_nil {I : IMem} {S : SH} : LsIn I S (none, 0, 0) [] := ⟨⟨rfl, fun i x h => by simp at h⟩, rfl, by decide⟩
theorem encR_row1 {I : IMem} {S : SH} {b : Nat} (r : Rc) : RowIn I ((b, .cells (encR r).toArray 69 (0, 0)) :: S) (some ⟨b, 0, none⟩) 1 4 encR [r] :=
  (OwnR.row (e := 69) encR_len (c := 1) (own := [(b, .cells (encR r).toArray 69 (0, 0))]) (.inr ⟨b, 1, [], rfl, by simp, rfl, by decide⟩)).sub (Sub.left (L := [(b, .cells (encR r).toArray 69 (0, 0))]) (M := S) (Sub.refl _))
theorem encPl_row1 {I : IMem} {S : SH} {b : Nat} (p : Pl) : RowIn I (plB b p :: S) (some ⟨b, 0, none⟩) 1 4 encPl [p] :=
  (OwnR.row (e := 61) (el := encPl) (fun _ => rfl) (c := 1) (own := [plB b p]) (.inr ⟨b, 1, [], rfl, by simp, rfl, by decide⟩)).sub (Sub.left (L := [plB b p]) (M := S) (Sub.refl _))
theorem awake19_runs {I : IMem} (g : GL I) (S : SH) : Runs Tryz.prog 11 #[] I S fun v _ T => v = .bool true ∧ T = S := by
  refine Runs.drop (bolterlaw19_awake_fn _ _ _ ?_)
  unfold bolterlaw19_awake bolterlaw19_awake_b1
  intro b10
  refine (Make_runs (ls := [rpzL]) (strs_row [rpzL] (by decide)) (by decide)).mono ?_
  rintro v J1 T1 hle1 ⟨rfl, rfl⟩
  rw [mkRpz]
  refine ⟨_, _, rfl, fun b15 => (Make_runs (ls := [exL, rpzL]) (strs_row [exL, rpzL] (by decide)) (by decide)).mono ?_⟩
  rintro v J2 T2 hle2 ⟨rfl, rfl⟩
  rw [mkExr]
  refine ⟨_, _, rfl, fun b20 => (Make_runs (ls := [exL]) (strs_row [exL] (by decide)) (by decide)).mono ?_⟩
  rintro v J3 T3 hle3 ⟨rfl, rfl⟩
  rw [mkEx]
  refine ⟨_, _, rfl, fun b28 b30 => ?_⟩
  have hpl : PlIn J3 (plB b30 (plA b28) :: ((b28, Obj.cells (encR rcA).toArray 69 (0, 0)) :: ((b20, Obj.cells (List.flatMap elS [exL]).toArray 9 (0, 0)) :: ((b15, Obj.cells (List.flatMap elS [exL, rpzL]).toArray 9 (0, 0)) :: ((b10, Obj.cells (List.flatMap elS [rpzL]).toArray 9 (0, 0)) :: S))))) (plA b28) := ⟨(encR_row1 rcA).sub ((Sub.refl _).skip _), rfl, (by show 1 ≤ 10000; decide)⟩
  refine (Of_runs (ps := [plA b28]) (f := faA) (c := 1) (((g.le hle1).le hle2).le hle3) ⟨ls_nil, ls_nil, ls_nil⟩ (encPl_row1 (plA b28)) (fun p hp => by rw [List.mem_singleton.1 hp]; exact hpl) (by show 1 ≤ 2000; decide)).mono ?_
  rintro v J4 T4 hle4 ⟨q, n, c, own, rfl, ho, hs⟩
  rw [of_A] at ho ⊢
  refine ⟨_, _, _, _, _, _, _, _, _, _, _, _, rfl, fun b7 => StP.all (vs := encVd (bsV (some (0, (1, exN, ⟨#[]⟩, 0), ⟨4, ⟨#[]⟩, false, []⟩))) q n c) rfl rfl ?_⟩
  refine bcase_t rfl ⟨_, Cell.at0 rfl, bcase_t rfl ⟨_, Cell.at0 rfl, _, Cell.at0 rfl, _, Cell.at0 rfl, _, Cell.at0 rfl, S, ?_, ?_, rfl⟩⟩
  · exact hs.right.drop.drop.drop.drop.drop.skip _
  · have e1 : (exN == exN) = true := ba_beq.2 rfl
    have e2 : ((⟨#[]⟩ : ByteArray) == ⟨#[]⟩) = true := ba_beq.2 rfl
    simp only [bsV, e1, e2]
    rfl
end Go.Proofs.YtmlojdbahlfiaaaGreatDoor
/- action.Same; what a name of a zone does, as the law says it. -/
namespace Go.Proofs.YtmlojdbahlfiaaaGreatDoor
open Go.Px
set_option linter.unusedVariables false
set_option linter.unusedSimpArgs false

theorem Av.eq {a b : Av} (h0 : a.k = b.k) (h1 : a.t = b.t) (h2 : a.w = b.w) (h3 : a.rs = b.rs) : a = b := by cases a; cases b; simp_all
theorem Same_runs {a b : Av} {p q : Option Addr} {c d : Nat} {I : IMem} {S : SH} (hp : RowIn I S p a.rs.length 4 encR a.rs) (hq : RowIn I S q b.rs.length 4 encR b.rs) (hl : a.rs.length ≤ 9223372036854775807) :
    Runs Tryz.prog 28 #[vAv a p a.rs.length c, vAv b q b.rs.length d] I S fun v _ T => (∃ r, v = .bool r ∧ (r = true ↔ a = b)) ∧ T = S := by
  refine Runs.drop (action_Same_fn _ _ _ _ _ _ _ _ _ _ _ _ _ _ _ ?_)
  unfold action_Same action_Same_b1
  intro b2 b3
  have hA : Sub (acB b2 (encAv a p a.rs.length c) :: S) (acB b3 (encAv b q b.rs.length d) :: acB b2 (encAv a p a.rs.length c) :: S) := (Sub.refl _).skip _
  have hB : Sub (acB b3 (encAv b q b.rs.length d) :: acB b2 (encAv a p a.rs.length c) :: S) (acB b3 (encAv b q b.rs.length d) :: acB b2 (encAv a p a.rs.length c) :: S) := Sub.refl _
  have hS := hA.drop
  obtain ⟨c0, c1, c2, c3⟩ := avX (I := I) hA
  obtain ⟨d0, d1, d2, d3⟩ := avX (I := I) hB
  have no : a ≠ b → action_Same_b2 (fun v _ T => ∃ L, Sub L T ∧ (∃ r, v = .bool r ∧ (r = true ↔ a = b)) ∧ L = S) ⟨b2, 0, none⟩ ⟨b3, 0, none⟩ true I (acB b3 (encAv b q b.rs.length d) :: acB b2 (encAv a p a.rs.length c) :: S) := by
    intro h
    unfold action_Same_b2
    exact bcase_t rfl ⟨S, hS, ⟨false, rfl, fun e => (by cases e), fun e => absurd e h⟩, rfl⟩
  refine ⟨_, c0, _, d0, bcase_bne (fun h => no (fun e => h (by rw [e]))) (fun h0 => ⟨_, c1, _, d1, bcase_not (bcase_of (fun h1 => ⟨_, c2, _, d2, bcase_not (bcase_of (fun h2 => ⟨_, _, _, c3, _, _, _, d3, ?_⟩) (fun h2 => no (fun e => by rw [e, beq_self_eq_true] at h2; cases h2)))⟩) (fun h1 => no (fun e => by rw [e, beq_self_eq_true] at h1; cases h1)))⟩)⟩
  have h1 : a.t = b.t := keq.1 h1
  have h2 : a.w = b.w := eq_of_beq h2
  by_cases hn : a.rs.length = b.rs.length
  · rw [show ((a.rs.length : Int) != (b.rs.length : Int)) = false by rw [hn, bne_self_eq_false]]
    unfold action_Same_b2 action_Same_b3 action_Same_b4
    refine bcase_f rfl ⟨_, _, _, c3, ?_⟩
    refine ⟨fun m x2 x3 n i J T => x2 = ⟨b2, 0, none⟩ ∧ x3 = ⟨b3, 0, none⟩ ∧ n = (a.rs.length : Int) ∧ I.le J ∧ T = acB b3 (encAv b q b.rs.length d) :: acB b2 (encAv a p a.rs.length c) :: S ∧ ∃ k : Nat, i = (k : Int) ∧ k ≤ a.rs.length ∧ m = a.rs.length - k ∧ a.rs.take k = b.rs.take k,
      a.rs.length, ⟨rfl, rfl, rfl, IMem.le.refl I, rfl, 0, rfl, Nat.zero_le _, rfl, rfl⟩, ?_⟩
    rintro m x2 x3 n i J T - ⟨rfl, rfl, rfl, hle, rfl, k, rfl, hk, rfl, htk⟩
    unfold action_Same_l5
    refine bcase_dec (fun hg => ?_) (fun hg => ?_)
    · obtain ⟨x, hx⟩ := get_lt (xs := a.rs) (k := k) (by omega)
      obtain ⟨y, hy⟩ := get_lt (xs := b.rs) (k := k) (by omega)
      obtain ⟨a', rfl, hc⟩ := ((hp.sub hS).le hle).cell hx
      obtain ⟨a2, rfl, hd⟩ := ((hq.sub hS).le hle).cell hy
      obtain ⟨x0, x1, x2, x3⟩ := CellsR hc
      obtain ⟨y0, y1, y2, y3⟩ := CellsR hd
      obtain ⟨c0, c1, c2, c3⟩ := avX (I := J) hA
      obtain ⟨d0, d1, d2, d3⟩ := avX (I := J) hB
      unfold action_Same_b6 action_Same_b7
      refine ⟨_, _, _, c3, by omega, by omega, _, x0, _, x1, _, x2, _, x3, _, _, _, d3, by omega, by omega, _, y0, _, y1, _, y2, _, y3, ?_⟩
      unfold action_Same_b8 action_Same_b9
      refine bcase_not (bcase_of (fun h => ?_) (fun h => ⟨S, hS, ⟨false, rfl, fun e => (by cases e), fun e => ?_⟩, rfl⟩))
      · have hxy : x = y := recB_iff.1 h
        exact ⟨a.rs.length - (k + 1), by omega, rfl, rfl, rfl, hle, rfl, k + 1, by rw [wrap_i64 (by omega) (by omega)]; rfl, by omega, rfl, by rw [take_snoc hx, take_snoc hy, htk, hxy]⟩
      · have hxy : x = y := by rw [e, hy] at hx; exact (Option.some.inj hx).symm
        have : recB x y = true := recB_iff.2 hxy
        rw [show recB x y = false from h] at this
        cases this
    · have hke : k = a.rs.length := by omega
      subst hke
      unfold action_Same_b10
      rw [List.take_length, hn, List.take_length] at htk
      exact ⟨S, hS, ⟨true, rfl, fun _ => Av.eq h0 h1 h2 htk, fun _ => rfl⟩, rfl⟩
  · rw [show ((a.rs.length : Int) != (b.rs.length : Int)) = true by rw [bne_iff_ne]; omega]
    exact no (fun e => hn (by rw [e]))
section
variable {b2 b4 b5 b9 b14 : Nat} {p : Pl} {t : Tg} {a : Av} {q : Option Addr} {n c : Nat} {own F S T : SH} {J : IMem}
end
end Go.Proofs.YtmlojdbahlfiaaaGreatDoor
/- The law's addresses and triggers by numbers: what they are. -/
namespace Go.Proofs.YtmlojdbahlfiaaaGreatDoor
open Go.Px
set_option linter.unusedVariables false
set_option linter.unusedSimpArgs false
set_option maxRecDepth 8000

def bytF (n : Int) : UInt8 := match n.toNat % 6 with
  | 0 => 0
  | 1 => 1
  | 2 => 128
  | 3 => 255
  | 4 => 192
  | _ => UInt8.ofNat n.toNat
def adrG : List UInt8 → Nat → List Int → List UInt8
  | l, _, [] => l
  | l, k, n :: ns => adrG (if k < l.length then l.set (k * 7 % l.length) (bytF n) else l) (k + 1) ns
theorem adrG_cons (l : List UInt8) (k : Nat) (n : Int) (ns : List Int) : adrG l k (n :: ns) = adrG (if k < l.length then l.set (k * 7 % l.length) (bytF n) else l) (k + 1) ns := rfl
def adrS (six : Bool) (ns : List Int) : ByteArray := if six = true then ⟨(adrG (List.replicate 16 0) 0 ns).toArray⟩ else ⟨(adrG (List.replicate 4 0) 0 ns).toArray⟩
theorem adrG_len : ∀ (ns : List Int) (l : List UInt8) (k : Nat), (adrG l k ns).length = l.length
  | [], l, k => rfl
  | n :: ns, l, k => by
    unfold adrG
    rw [adrG_len ns]
    split
    · rw [List.length_set]
    · rfl
theorem adrS_size (six : Bool) (ns : List Int) : (adrS six ns).size = 4 ∨ (adrS six ns).size = 16 := by
  unfold adrS
  cases six
  · left
    show (adrG (List.replicate 4 0) 0 ns).toArray.size = 4
    rw [List.size_toArray, adrG_len]; rfl
  · right
    show (adrG (List.replicate 16 0) 0 ns).toArray.size = 16
    rw [List.size_toArray, adrG_len]; rfl
def wrdF (n : Int) : ByteArray := match n.toNat % 5 with
  | 0 => ⟨#[97]⟩
  | 1 => ⟨#[98]⟩
  | 2 => ⟨#[119, 119, 119]⟩
  | 3 => ⟨#[101, 120]⟩
  | _ => ⟨#[111, 114, 103]⟩
theorem wrdF_mem (n : Int) : wrdF n ∈ wrdL := by
  unfold wrdF
  split <;> simp [wrdL]
def trigG (k : Nat) (ns : List Int) (six : Bool) (bits : Int) : Tg :=
  if k = 0 ∨ k = 3 ∨ k = 6 then ((k : Int), ⟨#[]⟩, cutB (adrS six ns) (bits.toNat % (8 * (adrS six ns).size + 1)), ((bits.toNat % (8 * (adrS six ns).size + 1) : Nat) : Int))
  else ((k : Int), nm (if (ns.take 5).map wrdF = [] ∧ (k = 1 ∨ k = 4) then [⟨#[97]⟩] else (ns.take 5).map wrdF), ⟨#[]⟩, 0)
def trigF (kind : Int) (ns : List Int) (six : Bool) (bits : Int) : Tg := trigG (kind.toNat % 7) ns six bits
theorem AdrF_runs {ns : List Int} {a : Option Addr} {c : Nat} (six : Bool) {I : IMem} {S : SH} (hx : RowIn I S a ns.length 1 elI8 ns) (hl : ns.length ≤ 9223372036854775807) (hp : ∀ x ∈ ns, 0 ≤ x ∧ x ≤ 255) :
    Runs Tryz.prog 35 #[.bool six, .slice a ns.length c] I S fun v _ T => v = .string (adrS six ns) ∧ Sub S T := by
  refine bolterlaw12_Addr_fn _ _ _ _ _ _ _ ?_
  unfold bolterlaw12_Addr
  refine ⟨by decide, by decide, by decide, by decide, fun b8 => ?_⟩
  have body : ∀ (n g : Nat) (F : SH) (l0 : List UInt8), (n = 4 ∨ n = 16) → l0.length = n → Sub S F → bolterlaw12_Addr_b1 (fun v _ T => v = .string ⟨(adrG l0 0 ns).toArray⟩ ∧ Sub S T) a ns.length c (some ⟨g, 0, none⟩) n n I ((g, .cells (bytL l0).toArray 5 (0, 0)) :: F) := by
    intro n g F l0 hn hl0 hF
    unfold bolterlaw12_Addr_b1 bolterlaw12_Addr_b2
    refine ⟨fun m b bn bc x xn xc q i J T => b = some ⟨g, 0, none⟩ ∧ bn = n ∧ bc = n ∧ x = a ∧ xn = ns.length ∧ q = (ns.length : Int) ∧ I.le J ∧ ∃ (k : Nat) (l : List UInt8), i = (k : Int) ∧ k ≤ ns.length ∧ m = ns.length - k ∧ l.length = n ∧ adrG l k (ns.drop k) = adrG l0 0 ns ∧ Sub ((g, .cells (bytL l).toArray 5 (0, 0)) :: F) T,
      ns.length, ⟨rfl, rfl, rfl, rfl, rfl, rfl, IMem.le.refl I, 0, l0, rfl, Nat.zero_le _, rfl, hl0, rfl, Sub.refl _⟩, ?_⟩
    rintro m b bn bc x xn xc q i J T - ⟨rfl, rfl, rfl, rfl, rfl, rfl, hle, k, l, rfl, hk, rfl, hll, hG, hs⟩
    have hST : Sub S T := hF.trans hs.drop
    unfold bolterlaw12_Addr_l3
    refine bcase_dec (fun h => ?_) (fun h => ?_)
    · obtain ⟨x, hxk⟩ := get_lt (xs := ns) (k := k) (by omega)
      obtain ⟨a', rfl, hc⟩ := ((hx.sub hST).le hle).cell hxk
      have h0 := hc 0 (.int .u8 x) rfl
      have e0 : (a'.add (k * 1)).add 0 = a'.add (k * 1) := by simp [Addr.add]
      rw [e0] at h0
      have hxb := hp x (List.mem_of_getElem? hxk)
      unfold bolterlaw12_Addr_b4 bolterlaw12_Addr_b5
      refine ⟨by omega, by omega, x, h0, ?_⟩
      rw [drop_get hxk, adrG_cons] at hG
      have next : ∀ (T' : SH) (l' : List UInt8), l'.length = bc → adrG l' (k + 1) (ns.drop (k + 1)) = adrG l0 0 ns → Sub ((g, .cells (bytL l').toArray 5 (0, 0)) :: F) T' → bolterlaw12_Addr_b6 (fun b_5 b_5n b_5c x11 x11n x11c x12 x13 I_1 S_1 => ∃ m', m' < ns.length - k ∧ (b_5 = some ⟨g, 0, none⟩ ∧ b_5n = bc ∧ b_5c = bc ∧ x11 = some a' ∧ x11n = ns.length ∧ x12 = (ns.length : Int) ∧ I.le I_1 ∧ ∃ (k : Nat) (l : List UInt8), x13 = (k : Int) ∧ k ≤ ns.length ∧ m' = ns.length - k ∧ l.length = bc ∧ adrG l k (ns.drop k) = adrG l0 0 ns ∧ Sub ((g, .cells (bytL l).toArray 5 (0, 0)) :: F) S_1))
          (fun v _ T => v = .string ⟨(adrG l0 0 ns).toArray⟩ ∧ Sub S T) (some ⟨g, 0, none⟩) bc bc (some a') ns.length xc (ns.length : Int) (k : Int) J T' := by
        intro T' l' hl' hG' hs'
        unfold bolterlaw12_Addr_b6
        exact ⟨ns.length - (k + 1), by omega, rfl, rfl, rfl, rfl, rfl, rfl, hle, k + 1, l', by rw [wrap_i64 (by omega) (by omega)]; rfl, by omega, rfl, hl', hG', hs'⟩
      refine bcase_dec (fun hkb => ?_) (fun hkb => next T l hll (by rw [if_neg (by omega)] at hG; exact hG) hs)
      refine bcase_f (decide_eq_false (by omega)) ?_
      intro b29
      have e6 : x.tmod 6 = ((x.toNat % 6 : Nat) : Int) := by rw [Int.tmod_eq_emod_of_nonneg (by omega)]; omega
      have hr6 : x.toNat % 6 < 6 := Nat.mod_lt _ (by decide)
      have ek : (IntKind.wrap .i64 ((k : Int) * 7)).tmod (bc : Int) = ((k * 7 % bc : Nat) : Int) := by
        rw [wrap_i64 (by omega) (by omega), Int.tmod_eq_emod_of_nonneg (by omega)]
        have : (k : Int) * 7 = ((k * 7 : Nat) : Int) := by omega
        rw [this]; exact (Int.natCast_emod _ _).symm
      have hrb : k * 7 % bc < bc := Nat.mod_lt _ (by omega)
      rw [e6, ek]
      have hcell : Cell J ((b29, .cells #[.int .u8 0, .int .u8 1, .int .u8 128, .int .u8 255, .int .u8 192, .int .u8 x] 5 (0, 0)) :: T) ((⟨b29, 0, none⟩ : Addr).add (((x.toNat % 6 : Nat) : Int).toNat * 1)) (.int .u8 ((bytF x).toNat : Int)) := by
        rw [add_mk, Int.toNat_natCast, Nat.zero_add, Nat.mul_one]
        have hcx : ((UInt8.ofNat x.toNat).toNat : Int) = x := by rw [ofNatU (by omega)]; omega
        unfold bytF
        rcases (show x.toNat % 6 = 0 ∨ x.toNat % 6 = 1 ∨ x.toNat % 6 = 2 ∨ x.toNat % 6 = 3 ∨ x.toNat % 6 = 4 ∨ x.toNat % 6 = 5 by omega) with e | e | e | e | e | e <;> rw [e]
        · exact Cell.at0 rfl
        · exact Cell.at0 rfl
        · exact Cell.at0 rfl
        · exact Cell.at0 rfl
        · exact Cell.at0 rfl
        · show Cell _ _ _ (.int .u8 ((UInt8.ofNat x.toNat).toNat : Int)); rw [hcx]; exact Cell.at0 rfl
      obtain ⟨y, hyy, hy⟩ : ∃ y, y = bytF x ∧ Cell J ((b29, .cells #[.int .u8 0, .int .u8 1, .int .u8 128, .int .u8 255, .int .u8 192, .int .u8 x] 5 (0, 0)) :: T) ((⟨b29, 0, none⟩ : Addr).add (((x.toNat % 6 : Nat) : Int).toNat * 1)) (.int .u8 (y.toNat : Int)) := ⟨_, rfl, hcell⟩
      refine ⟨by omega, by omega, (y.toNat : Int), hy, by omega, by omega, ?_⟩
      have ea : (⟨g, 0, none⟩ : Addr).add (((k * 7 % bc : Nat) : Int).toNat * 1) = ⟨g, k * 7 % bc, none⟩ := by rw [add_mk]; congr 1; omega
      rw [ea]
      refine StP.tl (StP.of_sub hs (StP.list (o := k * 7 % bc) (by rw [bytL_len]; simp only [List.length_singleton]; omega) rfl ?_))
      intro T' hs'
      have hset := map_set_at (fun u : UInt8 => Value.int .u8 (u.toNat : Int)) (xs := l) (i := k * 7 % bc) (by omega) y []
      rw [List.append_nil, List.append_nil] at hset
      have hs2 : Sub ((g, .cells (bytL (l.set (k * 7 % bc) y)).toArray 5 (0, 0)) :: F) T' := by
        rw [bytL, ← hset]; exact hs'
      exact next _ (l.set (k * 7 % bc) y) (by rw [List.length_set, hll]) (by rw [if_pos (by omega), hll, ← hyy] at hG; exact hG) (hs2.skip _)
    · unfold bolterlaw12_Addr_b7
      have := BytesAt.list (I := J) (S := F) (g := g) (n := bc) (l := l) (rest := []) (e := 5) (fz := (0, 0)) hll.symm
      rw [List.append_nil] at this
      have hke : k = ns.length := by omega
      subst hke
      rw [List.drop_length] at hG
      have hG : l = adrG l0 0 ns := hG
      exact ⟨_, BytesAt.sub this hs, by rw [hG], hST⟩
  refine bcase_of (fun h6 => ⟨by decide, by decide, by decide, by decide, fun b10 => ?_⟩) (fun h6 => ?_)
  · rw [adrS, if_pos h6]; exact body 16 b10 _ (List.replicate 16 0) (.inr rfl) rfl ((Sub.refl S).skip _)
  · rw [adrS, if_neg (by rw [h6]; exact Bool.false_ne_true)]; exact body 4 b8 _ (List.replicate 4 0) (.inl rfl) rfl (Sub.refl S)

theorem TrigF_runs {ns : List Int} {a : Option Addr} {c : Nat} {kind bits : Int} (six : Bool) {I : IMem} {S : SH} (hx : RowIn I S a ns.length 1 elI8 ns) (hl : ns.length ≤ 9223372036854775807) (hp : ∀ x ∈ ns, 0 ≤ x ∧ x ≤ 255) (hk : 0 ≤ kind ∧ kind ≤ 255) (hb : 0 ≤ bits ∧ bits ≤ 255) :
    Runs Tryz.prog 12 #[.int .u8 kind, .slice a ns.length c, .bool six, .int .u8 bits] I S fun v _ T => (v = vT (trigF kind ns six bits) ∧ (GoodP (trigF kind ns six bits) ∨ GoodN (trigF kind ns six bits))) ∧ Sub S T := by
  refine bolterlaw13_Trigger_fn _ _ _ _ _ _ _ _ _ ?_
  unfold bolterlaw13_Trigger
  intro b8 b9
  have e7 : kind.tmod 7 = ((kind.toNat % 7 : Nat) : Int) := by rw [Int.tmod_eq_emod_of_nonneg hk.1]; omega
  have hr7 : kind.toNat % 7 < 7 := Nat.mod_lt _ (by decide)
  rw [e7, wrap_i64 (x := ((kind.toNat % 7 : Nat) : Int)) (by omega) (by omega)]
  have htr : trigF kind ns six bits = trigG (kind.toNat % 7) ns six bits := rfl
  rw [htr]
  clear htr
  generalize kind.toNat % 7 = k at hr7
  refine StP.tg (x := t0) (t := (((k : Int), ⟨#[]⟩, ⟨#[]⟩, 0) : Tg)) ?_
  have hs0 : Sub ((b9, .cells (elT ((k : Int), ⟨#[]⟩, ⟨#[]⟩, 0)).toArray 33 (0, 0)) :: (b8, .cells (elT t0).toArray 33 (0, 0)) :: S) ((b9, .cells (elT ((k : Int), ⟨#[]⟩, ⟨#[]⟩, 0)).toArray 33 (0, 0)) :: (b8, .cells (elT t0).toArray 33 (0, 0)) :: S) := Sub.refl _
  unfold bolterlaw13_Trigger_b1 bolterlaw13_Trigger_b2
  refine ⟨(k : Int), Cell.at0 rfl, ?_⟩
  have pre : (k = 0 ∨ k = 3 ∨ k = 6) → bolterlaw13_Trigger_b3 (fun v _ T => (v = vT (trigG k ns six bits) ∧ (GoodP (trigG k ns six bits) ∨ GoodN (trigG k ns six bits))) ∧ Sub S T) a ns.length c six bits ⟨b8, 0, none⟩ ⟨b9, 0, none⟩ true I ((b9, .cells (elT ((k : Int), ⟨#[]⟩, ⟨#[]⟩, 0)).toArray 33 (0, 0)) :: (b8, .cells (elT t0).toArray 33 (0, 0)) :: S) := by
    intro hk3
    unfold bolterlaw13_Trigger_b3
    refine bcase_t rfl ((AdrF_runs six (hx.sub (((Sub.refl S).skip _).skip _)) hl hp).mono ?_)
    rintro v J T hle ⟨rfl, hs⟩
    have hsz := adrS_size six ns
    have htg : trigG k ns six bits = ((k : Int), ⟨#[]⟩, cutB (adrS six ns) (bits.toNat % (8 * (adrS six ns).size + 1)), ((bits.toNat % (8 * (adrS six ns).size + 1) : Nat) : Int)) := by unfold trigG; rw [if_pos hk3]
    refine ⟨_, rfl, ?_⟩
    rw [htg]
    clear htg
    generalize adrS six ns = s at hsz
    have hw : IntKind.wrap .i64 (IntKind.wrap .i64 (8 * (s.size : Int)) + 1) = ((8 * s.size + 1 : Nat) : Int) := by
      rw [wrap_i64 (x := 8 * (s.size : Int)) (by omega) (by omega), wrap_i64 (by omega) (by omega)]; omega
    have hm : (IntKind.wrap .i64 bits).tmod ((8 * s.size + 1 : Nat) : Int) = ((bits.toNat % (8 * s.size + 1) : Nat) : Int) := by
      rw [wrap_i64 (by omega) (by omega), Int.tmod_eq_emod_of_nonneg hb.1]
      have : bits = ((bits.toNat : Nat) : Int) := by omega
      rw [this]; exact (Int.natCast_emod _ _).symm
    have hr : bits.toNat % (8 * s.size + 1) < 8 * s.size + 1 := Nat.mod_lt _ (by omega)
    rw [hw, hm]
    generalize bits.toNat % (8 * s.size + 1) = n at hr
    refine bcase_f (decide_eq_false (by omega)) ((Cut_runs s (n : Int) J T).mono ?_)
    rintro v J1 T1 hle1 ⟨rfl, rfl⟩
    have hok : okC s (n : Int) := ⟨hsz, by omega, by omega⟩
    rw [cutV, if_pos hok]
    refine ⟨_, _, _, rfl, ?_⟩
    rw [add_mk]
    refine StP.of_sub hs (StP.at0 (o := 2) (Nat.le_refl 4) rfl ?_)
    intro T' hs'
    refine retT (t := (((k : Int), ⟨#[]⟩, cutB s n, (n : Int)) : Tg)) (x := t0) (K := fun v T => (v = vT ((k : Int), ⟨#[]⟩, cutB s n, (n : Int)) ∧ (GoodP ((k : Int), ⟨#[]⟩, cutB s n, (n : Int)) ∨ GoodN ((k : Int), ⟨#[]⟩, cutB s n, (n : Int)))) ∧ Sub S T) hs' ?_
    intro T2 hs2
    refine ⟨⟨rfl, .inl ⟨by dsimp only; omega, rfl, ⟨?_, ?_⟩⟩⟩, hs2⟩
    · exact ⟨by rw [cutB_size]; exact hsz, by dsimp only; omega, by dsimp only; rw [cutB_size]; omega⟩
    · exact cutB_idem s n
  have nam : (k = 1 ∨ k = 2 ∨ k = 4 ∨ k = 5) → bolterlaw13_Trigger_b3 (fun v _ T => (v = vT (trigG k ns six bits) ∧ (GoodP (trigG k ns six bits) ∨ GoodN (trigG k ns six bits))) ∧ Sub S T) a ns.length c six bits ⟨b8, 0, none⟩ ⟨b9, 0, none⟩ false I ((b9, .cells (elT ((k : Int), ⟨#[]⟩, ⟨#[]⟩, 0)).toArray 33 (0, 0)) :: (b8, .cells (elT t0).toArray 33 (0, 0)) :: S) := by
    intro hk4
    unfold bolterlaw13_Trigger_b3 bolterlaw13_Trigger_b5 bolterlaw13_Trigger_b6
    refine bcase_f rfl ?_
    refine ⟨fun m x8 t9 o on oc x xn xc q i J T => x8 = ⟨b8, 0, none⟩ ∧ t9 = ⟨b9, 0, none⟩ ∧ x = a ∧ xn = ns.length ∧ q = (ns.length : Int) ∧ I.le J ∧ ∃ (j : Nat) (ls : List ByteArray) (own : SH), i = (j : Int) ∧ j ≤ ns.length ∧ m = ns.length - j ∧ OwnS (.slice o on oc) ls own ∧ ls = ((ns.take j).take 5).map wrdF ∧
        Sub (own ++ (b9, .cells (elT ((k : Int), ⟨#[]⟩, ⟨#[]⟩, 0)).toArray 33 (0, 0)) :: (b8, .cells (elT t0).toArray 33 (0, 0)) :: S) T,
      ns.length, ⟨rfl, rfl, rfl, rfl, rfl, IMem.le.refl I, 0, [], [], rfl, Nat.zero_le _, rfl, OwnR.nil, rfl, Sub.refl _⟩, ?_⟩
    rintro m x8 t9 o on oc x xn xc q i J T - ⟨rfl, rfl, rfl, rfl, rfl, hle, j, ls, own, rfl, hj, rfl, ho, hlseq, hs⟩
    have hls : ∀ l ∈ ls, l ∈ wrdL := fun l hl => by
      rw [hlseq] at hl
      obtain ⟨x, _, rfl⟩ := List.mem_map.1 hl
      exact wrdF_mem x
    have hll : ls.length ≤ 5 := by rw [hlseq, List.length_map, List.length_take]; omega
    have hon := ho.len
    subst hon
    unfold bolterlaw13_Trigger_l7
    refine bcase_dec (fun h => ?_) (fun h => ?_)
    · obtain ⟨x, hxk⟩ := get_lt (xs := ns) (k := j) (by omega)
      obtain ⟨a', rfl, hc⟩ := ((hx.sub hs.right.drop.drop).le hle).cell hxk
      have h0 := hc 0 (.int .u8 x) rfl
      have e0 : (a'.add (j * 1)).add 0 = a'.add (j * 1) := by simp [Addr.add]
      rw [e0] at h0
      have hxb := hp x (List.mem_of_getElem? hxk)
      refine ⟨by omega, by omega, x, h0, bcase_dec (fun h5 => ?_) (fun h5 => ?_)⟩
      · intro b30
        have e5 : x.tmod 5 = ((x.toNat % 5 : Nat) : Int) := by rw [Int.tmod_eq_emod_of_nonneg (by omega)]; omega
        have hr5 : x.toNat % 5 < 5 := Nat.mod_lt _ (by decide)
        rw [e5]
        have hcell : Cell J ((b30, .cells #[.string ⟨#[97]⟩, .string ⟨#[98]⟩, .string ⟨#[119, 119, 119]⟩, .string ⟨#[101, 120]⟩, .string ⟨#[111, 114, 103]⟩] 9 (0, 0)) :: T) ((⟨b30, 0, none⟩ : Addr).add (((x.toNat % 5 : Nat) : Int).toNat * 1)) (.string (wrdF x)) := by
          rw [add_mk, Int.toNat_natCast, Nat.zero_add, Nat.mul_one]
          unfold wrdF
          rcases (show x.toNat % 5 = 0 ∨ x.toNat % 5 = 1 ∨ x.toNat % 5 = 2 ∨ x.toNat % 5 = 3 ∨ x.toNat % 5 = 4 by omega) with e | e | e | e | e <;> rw [e] <;> exact Cell.at0 rfl
        have hlen : ls.length = min j 5 := by rw [hlseq, List.length_map, List.length_take, List.length_take]; omega
        refine ⟨by omega, by omega, _, hcell, fun b35 => AppS1 (hs.skip _) ho (by omega) ?_⟩
        intro p n' c' own' T' ho' hs'
        unfold bolterlaw13_Trigger_b8
        refine ⟨ns.length - (j + 1), by omega, rfl, rfl, rfl, rfl, rfl, hle, j + 1, ls ++ [wrdF x], own', by rw [wrap_i64 (by omega) (by omega)]; rfl, by omega, rfl, ho', ?_, hs'⟩
        have hj5 : j < 5 := by omega
        have e1 : (ns.take (j + 1)).take 5 = (ns.take j).take 5 ++ [x] := by
          rw [take_snoc hxk, List.take_of_length_le (l := ns.take j ++ [x]) (by rw [List.length_append, List.length_take, List.length_singleton]; omega), List.take_of_length_le (l := ns.take j) (by rw [List.length_take]; omega)]
        rw [e1, List.map_append, ← hlseq]
        rfl
      · unfold bolterlaw13_Trigger_b8
        refine ⟨ns.length - (j + 1), by omega, rfl, rfl, rfl, rfl, rfl, hle, j + 1, ls, own, by rw [wrap_i64 (by omega) (by omega)]; rfl, by omega, rfl, ho, ?_, hs⟩
        have hlen : ls.length = min j 5 := by rw [hlseq, List.length_map, List.length_take, List.length_take]; omega
        rw [hlseq, List.take_take, List.take_take, Nat.min_eq_left (by omega), Nat.min_eq_left (by omega)]
    · have hje : j = ns.length := by omega
      subst hje
      rw [List.take_length] at hlseq
      have fin : ∀ (us : List ByteArray) (p : Option Addr) (c' : Nat) (T' : SH), RowIn J T' p us.length 1 elS us → (∀ l ∈ us, l ∈ wrdL) → us.length ≤ 5 → (k = 1 ∨ k = 4 → us ≠ []) → trigG k ns six bits = ((k : Int), nm us, ⟨#[]⟩, 0) → Sub ((b9, .cells (elT ((k : Int), ⟨#[]⟩, ⟨#[]⟩, 0)).toArray 33 (0, 0)) :: (b8, .cells (elT t0).toArray 33 (0, 0)) :: S) T' →
          bolterlaw13_Trigger_b11 (fun v _ T => (v = vT (trigG k ns six bits) ∧ (GoodP (trigG k ns six bits) ∨ GoodN (trigG k ns six bits))) ∧ Sub S T) ⟨b8, 0, none⟩ ⟨b9, 0, none⟩ p us.length c' J T' := by
        intro us p c' T' hr hus hul hne htg hs'
        unfold bolterlaw13_Trigger_b11
        refine (Make_runs hr (by omega)).mono ?_
        rintro v J2 T2 hle2 ⟨rfl, rfl⟩
        rw [wrd_make hus hul]
        refine ⟨_, _, rfl, ?_⟩
        rw [add_mk]
        refine StP.of_sub hs' (StP.at0 (o := 1) (by show 1 + 1 ≤ 4; decide) rfl ?_)
        intro T3 hs3
        refine retT (t := (((k : Int), nm us, ⟨#[]⟩, 0) : Tg)) (x := t0) (K := fun v T => (v = vT (trigG k ns six bits) ∧ (GoodP (trigG k ns six bits) ∨ GoodN (trigG k ns six bits))) ∧ Sub S T) hs3 ?_
        intro T4 hs4
        rw [htg]
        exact ⟨⟨rfl, .inr ⟨by dsimp only; omega, rfl, us, hus, hul, rfl, fun h => hne (by dsimp only at h; omega)⟩⟩, hs4⟩
      have keep : (k = 1 ∨ k = 4 → ls ≠ []) → bolterlaw13_Trigger_b10 (fun v _ T => (v = vT (trigG k ns six bits) ∧ (GoodP (trigG k ns six bits) ∨ GoodN (trigG k ns six bits))) ∧ Sub S T) ⟨b8, 0, none⟩ ⟨b9, 0, none⟩ o ls.length oc false J T := by
        intro hne
        unfold bolterlaw13_Trigger_b10
        exact bcase_f rfl (fin ls o oc T ((OwnS.row ho).sub hs.left) hls hll hne (by unfold trigG; rw [if_neg (by omega), ← hlseq, if_neg (fun h => hne h.2 h.1)]) hs.right)
      have one : ls = [] → (k = 1 ∨ k = 4) → bolterlaw13_Trigger_b10 (fun v _ T => (v = vT (trigG k ns six bits) ∧ (GoodP (trigG k ns six bits) ∨ GoodN (trigG k ns six bits))) ∧ Sub S T) ⟨b8, 0, none⟩ ⟨b9, 0, none⟩ o ls.length oc true J T := by
        intro hnil hk14
        unfold bolterlaw13_Trigger_b10
        refine bcase_t rfl ?_
        intro b51
        refine fin [⟨#[97]⟩] _ 1 _ ?_ (fun l hl => by rw [List.mem_singleton.1 hl]; simp [wrdL]) (by decide) (fun _ h => by cases h) (by unfold trigG; rw [if_neg (by omega), ← hlseq, if_pos ⟨hnil, hk14⟩]) (hs.right.skip _)
        exact (OwnS.row (I := J) (OwnS.mk (xs := [⟨#[97]⟩]) (g := b51) (cap := 1) (rest := []) rfl (by decide))).sub ⟨T, List.Perm.refl _⟩
      unfold bolterlaw13_Trigger_b9
      obtain ⟨c0, _⟩ := tgCell (I := J) hs.right
      refine bcase_beq (fun h0 => ?_) (fun h0 => keep (fun _ e => h0 (by rw [e]; rfl)))
      refine ⟨_, c0, bcase_beq (fun h1 => one (List.eq_nil_of_length_eq_zero (by omega)) (.inl (by dsimp only at h1; omega))) (fun h1 => ⟨_, c0, ?_⟩)⟩
      dsimp only at h1 ⊢
      by_cases h4 : k = 4
      · rw [show ((k : Int) == 4) = true by rw [h4]; rfl]; exact one (List.eq_nil_of_length_eq_zero (by omega)) (.inr h4)
      · rw [show ((k : Int) == 4) = false by rw [beq_eq_false_iff_ne]; omega]; exact keep (fun h => by omega)
  refine bcase_beq (fun e => ?_) (fun e => bcase_beq (fun e3 => ?_) (fun e3 => ?_))
  · rw [show ((k : Int) == 0) = true by rw [e]; rfl]; exact pre (by omega)
  · rw [show ((k : Int) == 3) = true by rw [e3]; rfl]; exact pre (by omega)
  · by_cases e6 : k = 6
    · rw [show ((k : Int) == 6) = true by rw [e6]; rfl]; exact pre (by omega)
    · rw [show ((k : Int) == 6) = false by rw [beq_eq_false_iff_ne]; omega]; exact nam (by omega)
end Go.Proofs.YtmlojdbahlfiaaaGreatDoor
/- Facts by numbers. -/
namespace Go.Proofs.YtmlojdbahlfiaaaGreatDoor
open Go.Px
set_option linter.unusedVariables false
set_option linter.unusedSimpArgs false
set_option maxRecDepth 8000

/-- some bytes, and a list of such -/
structure Sb where
  a : Sl
  ns : List Int
abbrev elSb (x : Sb) : List Value := [.slice x.a.1 x.a.2.1 x.a.2.2]
def SbIn (I : IMem) (S : SH) (x : Sb) : Prop := RowIn I S x.a.1 x.ns.length 1 elI8 x.ns ∧ x.a.2.1 = x.ns.length ∧ x.ns.length ≤ 9223372036854775807 ∧ ∀ v ∈ x.ns, 0 ≤ v ∧ v ≤ 255
theorem SbIn.keep {I J : IMem} {S T : SH} {x : Sb} (hk : Keep I S J T) (h : SbIn I S x) : SbIn J T x := ⟨h.1.keep hk, h.2⟩
structure Sbs where
  a : Sl
  xs : List Sb
def SbsIn (I : IMem) (S : SH) (x : Sbs) : Prop := RowIn I S x.a.1 x.xs.length 1 elSb x.xs ∧ x.a.2.1 = x.xs.length ∧ x.xs.length ≤ 9223372036854775807 ∧ ∀ y ∈ x.xs, SbIn I S y
theorem SbsIn.keep {I J : IMem} {S T : SH} {x : Sbs} (hk : Keep I S J T) (h : SbsIn I S x) : SbsIn J T x := ⟨h.1.keep hk, h.2.1, h.2.2.1, fun y hy => (h.2.2.2 y hy).keep hk⟩
structure Qr where
  six : Bool
  cl : Sb
  nm : Sb
  an : Sbs
  sv : Sbs
  ho : Sbs
abbrev encQr (q : Qr) : List Value := [.bool q.six, .slice q.cl.a.1 q.cl.a.2.1 q.cl.a.2.2, .slice q.nm.a.1 q.nm.a.2.1 q.nm.a.2.2, .slice q.an.a.1 q.an.a.2.1 q.an.a.2.2, .slice q.sv.a.1 q.sv.a.2.1 q.sv.a.2.2, .slice q.ho.a.1 q.ho.a.2.1 q.ho.a.2.2]
abbrev vQr (q : Qr) : Value := .agg #[.bool q.six, .slice q.cl.a.1 q.cl.a.2.1 q.cl.a.2.2, .slice q.nm.a.1 q.nm.a.2.1 q.nm.a.2.2, .slice q.an.a.1 q.an.a.2.1 q.an.a.2.2, .slice q.sv.a.1 q.sv.a.2.1 q.sv.a.2.2, .slice q.ho.a.1 q.ho.a.2.1 q.ho.a.2.2]
abbrev qrB (b : Nat) (q : Qr) : Nat × Obj := (b, .cells (encQr q).toArray 25 (0, 0))
structure QrIn (I : IMem) (S : SH) (q : Qr) : Prop where
  cl : SbIn I S q.cl
  nm : SbIn I S q.nm
  an : SbsIn I S q.an
  sv : SbsIn I S q.sv
  ho : SbsIn I S q.ho
theorem QrIn.keep {I J : IMem} {S T : SH} {q : Qr} (hk : Keep I S J T) (h : QrIn I S q) : QrIn J T q := ⟨h.cl.keep hk, h.nm.keep hk, h.an.keep hk, h.sv.keep hk, h.ho.keep hk⟩
theorem QrIn.sub {I : IMem} {S T : SH} {q : Qr} (hs : Sub S T) (h : QrIn I S q) : QrIn I T q := h.keep (hs.keep (IMem.le.refl I))
theorem QrIn.le {I J : IMem} {S : SH} {q : Qr} (hle : I.le J) (h : QrIn I S q) : QrIn J S q := h.keep ((Sub.refl S).keep hle)

def upF (g : Nat → Sb → ByteArray) (xs : List Sb) : List ByteArray := (xs.take 4).mapIdx g
theorem upF_lt {g : Nat → Sb → ByteArray} {xs : List Sb} {j : Nat} {x : Sb} (h : xs[j]? = some x) (hj : j < 4) : upF g (xs.take (j + 1)) = upF g (xs.take j) ++ [g j x] := by
  have hjl : j < xs.length := by obtain ⟨h, _⟩ := List.getElem?_eq_some_iff.1 h; exact h
  unfold upF
  rw [take_snoc h, List.take_of_length_le (l := xs.take j ++ [x]) (by rw [List.length_append, List.length_take, List.length_singleton]; omega), List.take_of_length_le (l := xs.take j) (by rw [List.length_take]; omega), List.mapIdx_append, List.length_take, Nat.min_eq_left (by omega)]
  simp
theorem upF_ge {g : Nat → Sb → ByteArray} {xs : List Sb} {j : Nat} (hj : 4 ≤ j) : upF g (xs.take (j + 1)) = upF g (xs.take j) := by
  unfold upF
  rw [List.take_take, List.take_take, Nat.min_eq_left (by omega), Nat.min_eq_left (by omega)]
theorem upF_len (g : Nat → Sb → ByteArray) (xs : List Sb) : (upF g xs).length ≤ 4 := by
  unfold upF
  rw [List.length_mapIdx, List.length_take]; omega
def ansF (six : Bool) (k : Nat) (x : Sb) : ByteArray := adrS (six == decide (k % 2 = 0)) x.ns
def srvF (k : Nat) (x : Sb) : ByteArray := (trigF 1 x.ns false 0).2.1
def hosF (six : Bool) (k : Nat) (x : Sb) : ByteArray := adrS six x.ns
abbrev facF (q : Qr) (a s h : Sl) : Fa := ⟨adrS q.six q.cl.ns, (trigF 1 q.nm.ns false 0).2.1, a, s, h, upF (ansF q.six) q.an.xs, upF srvF q.sv.xs, upF (hosF q.six) q.ho.xs⟩
abbrev faZ : Fa := ⟨⟨#[]⟩, ⟨#[]⟩, (none, 0, 0), (none, 0, 0), (none, 0, 0), [], [], []⟩
/-- what is answered -/
def FacR (q : Qr) (S : SH) : Value → IMem → SH → Prop := fun v J T => ∃ a s h : Sl, v = vFa (facF q a s h) ∧ FaIn J T (facF q a s h) ∧ Sub S T

theorem AppT1 {t : TypeId} {xs : List ByteArray} {l : ByteArray} {b : Nat} {v : Value} {S F own : SH} {I : IMem} {K : Option Addr → Nat → Nat → SH → Prop} (hs : Sub (own ++ F) S) (hv : OwnR t 1 elS v xs own) (hl : xs.length ≤ 1000000000)
    (hK : ∀ p n c own' T, OwnR t 1 elS (.slice p n c) (xs ++ [l]) own' → Sub (own' ++ F) T → K p n c T) :
    AppG t 1 16 [.string ⟨#[]⟩] (some (.slice t)) I ((b, .cells #[.string l] t (0, 0)) :: S) v (.slice (some ⟨b, 0, none⟩) 1 1) K := by
  obtain ⟨G, hG⟩ := hs
  refine AppG.own (xs := xs) (ys := [l]) (el := elS) (own := own) (F := (b, .cells #[.string l] t (0, 0)) :: (F ++ G)) (fun _ => rfl) (fun _ => rfl) rfl ((hG.cons _).trans (by rw [List.append_assoc]; exact perm_mid1)) hv ⟨?_, rfl⟩ ?_ ?_ ?_
  · exact Rd.list (L := elS l) rfl (by simp [elS])
  · simp only [List.length_singleton, maxLen]; omega
  · simp only [List.length_singleton]; omega
  · intro p n c own' ho
    exact hK p n c own' _ ho ⟨(b, .cells #[.string l] t (0, 0)) :: G, by rw [List.append_assoc]; exact List.Perm.append_left own' perm_mid1⟩

theorem facts_end {f : Fa} {b2 b3 : Nat} {I : IMem} {S F : SH} {R : RT} (hs : Sub (faB b3 f :: faB b2 faZ :: F) S) (hR : ∀ T, Sub F T → R (vFa f) I T) : bolterlaw19_Query_Facts_b20 R ⟨b2, 0, none⟩ ⟨b3, 0, none⟩ I S := by
  unfold bolterlaw19_Query_Facts_b20
  obtain ⟨d0, d1, d2, d3, d4⟩ := bA f (I := I) hs
  refine ⟨_, d0, _, d1, _, _, _, d2, _, _, _, d3, _, _, _, d4, StP.among (e := 37) (L := encFa faZ) (hs.perm (List.Perm.swap _ _ _)) (by show 0 + 5 ≤ 5; decide) rfl rfl ?_⟩
  intro T hs'
  obtain ⟨d0, d1, d2, d3, d4⟩ := bA f (I := I) hs'
  exact ⟨_, d0, _, d1, _, _, _, d2, _, _, _, d3, _, _, _, d4, hR T hs'.drop.drop⟩

theorem qrA (q : Qr) {I : IMem} {S F : SH} {b : Nat} (hs : Sub (qrB b q :: F) S) : Cell I S ⟨b, 0, none⟩ (.bool q.six) ∧ Cell I S ((⟨b, 0, none⟩ : Addr).add 1) (.slice q.cl.a.1 q.cl.a.2.1 q.cl.a.2.2) ∧ Cell I S ((⟨b, 0, none⟩ : Addr).add 2) (.slice q.nm.a.1 q.nm.a.2.1 q.nm.a.2.2) ∧ Cell I S ((⟨b, 0, none⟩ : Addr).add 3) (.slice q.an.a.1 q.an.a.2.1 q.an.a.2.2) ∧ Cell I S ((⟨b, 0, none⟩ : Addr).add 4) (.slice q.sv.a.1 q.sv.a.2.1 q.sv.a.2.2) ∧ Cell I S ((⟨b, 0, none⟩ : Addr).add 5) (.slice q.ho.a.1 q.ho.a.2.1 q.ho.a.2.2) :=
  ⟨Cell.among hs rfl, Cell.at_ (add_mk _ _ _) (Cell.among hs rfl), Cell.at_ (add_mk _ _ _) (Cell.among hs rfl), Cell.at_ (add_mk _ _ _) (Cell.among hs rfl), Cell.at_ (add_mk _ _ _) (Cell.among hs rfl), Cell.at_ (add_mk _ _ _) (Cell.among hs rfl)⟩
theorem e_add0 (a : Addr) (k : Nat) : (a.add k).add 0 = a.add k := by simp [Addr.add]
section
variable {q : Qr} {b1 b2 b3 : Nat} {I : IMem} {S : SH}
theorem facts_hos {own1 own2 : SH} {a s : Sl} {J : IMem} {T : SH} (hq : QrIn I S q) (hle : I.le J)
    (ho1 : OwnR 9 1 elS (.slice a.1 a.2.1 a.2.2) (upF (ansF q.six) q.an.xs) own1) (ho2 : OwnR 29 1 elS (.slice s.1 s.2.1 s.2.2) (upF srvF q.sv.xs) own2)
    (hs : Sub (own1 ++ (own2 ++ (faB b3 (facF q a s (none, 0, 0)) :: faB b2 faZ :: qrB b1 q :: S))) T) :
    bolterlaw19_Query_Facts_b14 (FacR q S) ⟨b1, 0, none⟩ ⟨b2, 0, none⟩ ⟨b3, 0, none⟩ J T := by
  unfold bolterlaw19_Query_Facts_b14 bolterlaw19_Query_Facts_b15
  obtain ⟨_, _, _, _, _, c5⟩ := qrA q (I := J) hs.right.right.drop.drop
  obtain ⟨hr, hn, hl, hy⟩ := hq.ho
  refine ⟨_, q.ho.xs.length, _, by rw [← hn]; exact c5, ?_⟩
  refine ⟨fun m x1 x2 x3 x xn xc n i J' T' => x1 = ⟨b1, 0, none⟩ ∧ x2 = ⟨b2, 0, none⟩ ∧ x3 = ⟨b3, 0, none⟩ ∧ x = q.ho.a.1 ∧ xn = q.ho.xs.length ∧ n = (q.ho.xs.length : Int) ∧ J.le J' ∧ ∃ (j : Nat) (h : Sl) (own : SH), i = (j : Int) ∧ j ≤ q.ho.xs.length ∧ m = q.ho.xs.length - j ∧ OwnS (.slice h.1 h.2.1 h.2.2) (upF (hosF q.six) (q.ho.xs.take j)) own ∧
      Sub (own ++ (own1 ++ (own2 ++ (faB b3 (facF q a s h) :: faB b2 faZ :: qrB b1 q :: S)))) T',
    q.ho.xs.length, ⟨rfl, rfl, rfl, rfl, rfl, rfl, IMem.le.refl J, 0, (none, 0, 0), [], rfl, Nat.zero_le _, rfl, OwnR.nil, hs⟩, ?_⟩
  rintro m x1 x2 x3 x xn xc n i J' T' - ⟨rfl, rfl, rfl, rfl, rfl, rfl, hle', j, h, own, rfl, hj, rfl, ho, hs'⟩
  unfold bolterlaw19_Query_Facts_l16
  have hST : Sub S T' := hs'.right.right.right.drop.drop.drop
  refine bcase_dec (fun hlt => ?_) (fun hge => ?_)
  · obtain ⟨x, hxk⟩ := get_lt (xs := q.ho.xs) (k := j) (by omega)
    obtain ⟨a', ea, hc⟩ := ((hr.sub hST).le (hle.trans hle')).cell hxk
    have h0 := hc 0 _ rfl
    rw [e_add0] at h0
    obtain ⟨yr, yn, yl, yb⟩ := hy x (List.mem_of_getElem? hxk)
    unfold bolterlaw19_Query_Facts_b17 bolterlaw19_Query_Facts_b18
    rw [ea]
    refine ⟨by omega, by omega, _, x.ns.length, _, by rw [← yn]; exact h0, ?_⟩
    refine bcase_dec (fun hk => ?_) (fun hk => ?_)
    · obtain ⟨_, _, _, _, d4⟩ := bA (facF q a s h) (I := J') hs'.right.right.right
      obtain ⟨c0, _, _, _, _, _⟩ := qrA q (I := J') hs'.right.right.right.drop.drop
      refine ⟨_, _, _, d4, _, c0, (AdrF_runs q.six ((yr.sub hST).le (hle.trans hle')) yl yb).mono ?_⟩
      rintro v J2 T2 hle2 ⟨rfl, hs2⟩
      refine ⟨_, rfl, hs2.keep hle2, fun b => ⟨(hs2.skip _).keep hle2, AppT1 (hs'.trans hs2) ho (by have := upF_len (hosF q.six) (q.ho.xs.take j); omega) ?_⟩⟩
      intro p n' c' own' T3 ho' hs3
      have hs4 : Sub (faB b3 (facF q a s h) :: (own' ++ (own1 ++ (own2 ++ (faB b2 faZ :: qrB b1 q :: S))))) T3 := hs3.re (by intro a; simp only [cnt_cons, cnt_app, cnt_nil]; omega)
      refine StP.at_ (add_mk _ _ _) (StP.among (e := 37) (L := encFa (facF q a s h)) hs4 (by show 4 + 1 ≤ 5; decide) rfl rfl ?_)
      intro T4 hs5
      unfold bolterlaw19_Query_Facts_b19
      refine ⟨q.ho.xs.length - (j + 1), by omega, rfl, rfl, rfl, rfl, rfl, rfl, hle'.trans hle2, j + 1, (p, n', c'), own', by rw [wrap_i64 (by omega) (by omega)]; rfl, by omega, rfl, ?_, ?_⟩
      · rw [upF_lt hxk (by omega)]; exact ho'
      · exact Sub.re (M := faB b3 (facF q a s (p, n', c')) :: (own' ++ (own1 ++ (own2 ++ (faB b2 faZ :: qrB b1 q :: S))))) hs5 (by intro a; simp only [cnt_cons, cnt_app, cnt_nil]; omega)
    · unfold bolterlaw19_Query_Facts_b19
      exact ⟨q.ho.xs.length - (j + 1), by omega, rfl, rfl, rfl, rfl, rfl, rfl, hle', j + 1, h, own, by rw [wrap_i64 (by omega) (by omega)]; rfl, by omega, rfl, by rw [upF_ge (by omega)]; exact ho, hs'⟩
  · have he : j = q.ho.xs.length := by omega
    subst he
    rw [List.take_length] at ho
    refine facts_end (f := facF q a s h) (F := own ++ (own1 ++ (own2 ++ (qrB b1 q :: S)))) (hs'.re (by intro a; simp only [cnt_cons, cnt_app, cnt_nil]; omega)) ?_
    intro T5 hs5
    have l1 := ho1.len
    have l2 := ho2.len
    have l3 := ho.len
    have n1 := upF_len (ansF q.six) q.an.xs
    have n2 := upF_len srvF q.sv.xs
    have n3 := upF_len (hosF q.six) q.ho.xs
    have r1 := (OwnR.row (I := J') elS_len ho1).sub hs5.right.left
    have r2 := (OwnR.row (I := J') elS_len ho2).sub hs5.right.right.left
    have r3 := (OwnR.row (I := J') elS_len ho).sub hs5.left
    rw [l1] at r1
    rw [l2] at r2
    rw [l3] at r3
    exact ⟨a, s, h, rfl, ⟨⟨r1, l1, by show (upF (ansF q.six) q.an.xs).length ≤ _; omega⟩, ⟨r2, l2, by show (upF srvF q.sv.xs).length ≤ _; omega⟩, ⟨r3, l3, by show (upF (hosF q.six) q.ho.xs).length ≤ _; omega⟩⟩, hs5.right.right.right.drop⟩
theorem facts_srv {own1 : SH} {a : Sl} {J : IMem} {T : SH} (hq : QrIn I S q) (hle : I.le J)
    (ho1 : OwnR 9 1 elS (.slice a.1 a.2.1 a.2.2) (upF (ansF q.six) q.an.xs) own1)
    (hs : Sub (own1 ++ (faB b3 (facF q a (none, 0, 0) (none, 0, 0)) :: faB b2 faZ :: qrB b1 q :: S)) T) :
    bolterlaw19_Query_Facts_b8 (FacR q S) ⟨b1, 0, none⟩ ⟨b2, 0, none⟩ ⟨b3, 0, none⟩ J T := by
  unfold bolterlaw19_Query_Facts_b8 bolterlaw19_Query_Facts_b9
  obtain ⟨_, _, _, _, c4, _⟩ := qrA q (I := J) hs.right.drop.drop
  obtain ⟨hr, hn, hl, hy⟩ := hq.sv
  refine ⟨_, q.sv.xs.length, _, by rw [← hn]; exact c4, ?_⟩
  refine ⟨fun m x1 x2 x3 x xn xc n i J' T' => x1 = ⟨b1, 0, none⟩ ∧ x2 = ⟨b2, 0, none⟩ ∧ x3 = ⟨b3, 0, none⟩ ∧ x = q.sv.a.1 ∧ xn = q.sv.xs.length ∧ n = (q.sv.xs.length : Int) ∧ J.le J' ∧ ∃ (j : Nat) (h : Sl) (own : SH), i = (j : Int) ∧ j ≤ q.sv.xs.length ∧ m = q.sv.xs.length - j ∧ OwnR 29 1 elS (.slice h.1 h.2.1 h.2.2) (upF srvF (q.sv.xs.take j)) own ∧
      Sub (own1 ++ (own ++ (faB b3 (facF q a h (none, 0, 0)) :: faB b2 faZ :: qrB b1 q :: S))) T',
    q.sv.xs.length, ⟨rfl, rfl, rfl, rfl, rfl, rfl, IMem.le.refl J, 0, (none, 0, 0), [], rfl, Nat.zero_le _, rfl, OwnR.nil, hs⟩, ?_⟩
  rintro m x1 x2 x3 x xn xc n i J' T' - ⟨rfl, rfl, rfl, rfl, rfl, rfl, hle', j, h, own, rfl, hj, rfl, ho, hs'⟩
  unfold bolterlaw19_Query_Facts_l10
  have hST : Sub S T' := hs'.right.right.drop.drop.drop
  refine bcase_dec (fun hlt => ?_) (fun hge => ?_)
  · obtain ⟨x, hxk⟩ := get_lt (xs := q.sv.xs) (k := j) (by omega)
    obtain ⟨a', ea, hc⟩ := ((hr.sub hST).le (hle.trans hle')).cell hxk
    have h0 := hc 0 _ rfl
    rw [e_add0] at h0
    obtain ⟨yr, yn, yl, yb⟩ := hy x (List.mem_of_getElem? hxk)
    unfold bolterlaw19_Query_Facts_b11 bolterlaw19_Query_Facts_b12
    rw [ea]
    refine ⟨by omega, by omega, _, x.ns.length, _, by rw [← yn]; exact h0, ?_⟩
    refine bcase_dec (fun hk => ?_) (fun hk => ?_)
    · obtain ⟨_, _, _, d3, _⟩ := bA (facF q a h (none, 0, 0)) (I := J') hs'.right.right
      refine ⟨_, _, _, d3, (TrigF_runs (kind := 1) (bits := 0) false ((yr.sub hST).le (hle.trans hle')) yl yb (by decide) (by decide)).mono ?_⟩
      rintro v J2 T2 hle2 ⟨⟨rfl, -⟩, hs2⟩
      refine ⟨_, _, _, _, rfl, hs2.keep hle2, fun b => ⟨(hs2.skip _).keep hle2, AppT1 (F := own1 ++ (faB b3 (facF q a h (none, 0, 0)) :: faB b2 faZ :: qrB b1 q :: S)) ((hs'.trans hs2).re (by intro a; simp only [cnt_cons, cnt_app, cnt_nil]; omega)) ho (by have := upF_len srvF (q.sv.xs.take j); omega) ?_⟩⟩
      intro p n' c' own' T3 ho' hs3
      have hs4 : Sub (faB b3 (facF q a h (none, 0, 0)) :: (own' ++ (own1 ++ (faB b2 faZ :: qrB b1 q :: S)))) T3 := hs3.re (by intro a; simp only [cnt_cons, cnt_app, cnt_nil]; omega)
      refine StP.at_ (add_mk _ _ _) (StP.among (e := 37) (L := encFa (facF q a h (none, 0, 0))) hs4 (by show 3 + 1 ≤ 5; decide) rfl rfl ?_)
      intro T4 hs5
      unfold bolterlaw19_Query_Facts_b13
      refine ⟨q.sv.xs.length - (j + 1), by omega, rfl, rfl, rfl, rfl, rfl, rfl, hle'.trans hle2, j + 1, (p, n', c'), own', by rw [wrap_i64 (by omega) (by omega)]; rfl, by omega, rfl, ?_, ?_⟩
      · rw [upF_lt hxk (by omega)]; exact ho'
      · exact Sub.re (M := faB b3 (facF q a (p, n', c') (none, 0, 0)) :: (own' ++ (own1 ++ (faB b2 faZ :: qrB b1 q :: S)))) hs5 (by intro a; simp only [cnt_cons, cnt_app, cnt_nil]; omega)
    · unfold bolterlaw19_Query_Facts_b13
      exact ⟨q.sv.xs.length - (j + 1), by omega, rfl, rfl, rfl, rfl, rfl, rfl, hle', j + 1, h, own, by rw [wrap_i64 (by omega) (by omega)]; rfl, by omega, rfl, by rw [upF_ge (by omega)]; exact ho, hs'⟩
  · have he : j = q.sv.xs.length := by omega
    subst he
    rw [List.take_length] at ho
    exact facts_hos hq (hle.trans hle') ho1 ho hs'
theorem mod2 (j : Nat) : (((j : Int).tmod 2) == (0 : Int)) = decide (j % 2 = 0) := by
  rw [Int.tmod_eq_emod_of_nonneg (by omega)]
  by_cases h : j % 2 = 0
  · rw [decide_eq_true h, beq_iff_eq]; omega
  · rw [decide_eq_false h, beq_eq_false_iff_ne]; omega
theorem facts_ans {J : IMem} {T : SH} (hq : QrIn I S q) (hle : I.le J)
    (hs : Sub (faB b3 (facF q (none, 0, 0) (none, 0, 0) (none, 0, 0)) :: faB b2 faZ :: qrB b1 q :: S) T) :
    bolterlaw19_Query_Facts_b2 (FacR q S) ⟨b1, 0, none⟩ ⟨b2, 0, none⟩ ⟨b3, 0, none⟩ J T := by
  unfold bolterlaw19_Query_Facts_b2 bolterlaw19_Query_Facts_b3
  obtain ⟨_, _, _, c3, _, _⟩ := qrA q (I := J) hs.drop.drop
  obtain ⟨hr, hn, hl, hy⟩ := hq.an
  refine ⟨_, q.an.xs.length, _, by rw [← hn]; exact c3, ?_⟩
  refine ⟨fun m x1 x2 x3 x xn xc n i J' T' => x1 = ⟨b1, 0, none⟩ ∧ x2 = ⟨b2, 0, none⟩ ∧ x3 = ⟨b3, 0, none⟩ ∧ x = q.an.a.1 ∧ xn = q.an.xs.length ∧ n = (q.an.xs.length : Int) ∧ J.le J' ∧ ∃ (j : Nat) (h : Sl) (own : SH), i = (j : Int) ∧ j ≤ q.an.xs.length ∧ m = q.an.xs.length - j ∧ OwnR 9 1 elS (.slice h.1 h.2.1 h.2.2) (upF (ansF q.six) (q.an.xs.take j)) own ∧
      Sub (own ++ (faB b3 (facF q h (none, 0, 0) (none, 0, 0)) :: faB b2 faZ :: qrB b1 q :: S)) T',
    q.an.xs.length, ⟨rfl, rfl, rfl, rfl, rfl, rfl, IMem.le.refl J, 0, (none, 0, 0), [], rfl, Nat.zero_le _, rfl, OwnR.nil, hs⟩, ?_⟩
  rintro m x1 x2 x3 x xn xc n i J' T' - ⟨rfl, rfl, rfl, rfl, rfl, rfl, hle', j, h, own, rfl, hj, rfl, ho, hs'⟩
  unfold bolterlaw19_Query_Facts_l4
  have hST : Sub S T' := hs'.right.drop.drop.drop
  refine bcase_dec (fun hlt => ?_) (fun hge => ?_)
  · obtain ⟨x, hxk⟩ := get_lt (xs := q.an.xs) (k := j) (by omega)
    obtain ⟨a', ea, hc⟩ := ((hr.sub hST).le (hle.trans hle')).cell hxk
    have h0 := hc 0 _ rfl
    rw [e_add0] at h0
    obtain ⟨yr, yn, yl, yb⟩ := hy x (List.mem_of_getElem? hxk)
    unfold bolterlaw19_Query_Facts_b5 bolterlaw19_Query_Facts_b6
    rw [ea]
    refine ⟨by omega, by omega, _, x.ns.length, _, by rw [← yn]; exact h0, ?_⟩
    refine bcase_dec (fun hk => ?_) (fun hk => ?_)
    · obtain ⟨_, _, d2, _, _⟩ := bA (facF q h (none, 0, 0) (none, 0, 0)) (I := J') hs'.right
      obtain ⟨c0, _, _, _, _, _⟩ := qrA q (I := J') hs'.right.drop.drop
      refine ⟨_, _, _, d2, _, c0, ?_⟩
      rw [mod2]
      refine (AdrF_runs (q.six == decide (j % 2 = 0)) ((yr.sub hST).le (hle.trans hle')) yl yb).mono ?_
      rintro v J2 T2 hle2 ⟨rfl, hs2⟩
      refine ⟨_, rfl, hs2.keep hle2, fun b => ⟨(hs2.skip _).keep hle2, AppT1 (hs'.trans hs2) ho (by have := upF_len (ansF q.six) (q.an.xs.take j); omega) ?_⟩⟩
      intro p n' c' own' T3 ho' hs3
      have hs4 : Sub (faB b3 (facF q h (none, 0, 0) (none, 0, 0)) :: (own' ++ (faB b2 faZ :: qrB b1 q :: S))) T3 := hs3.re (by intro a; simp only [cnt_cons, cnt_app, cnt_nil]; omega)
      refine StP.at_ (add_mk _ _ _) (StP.among (e := 37) (L := encFa (facF q h (none, 0, 0) (none, 0, 0))) hs4 (by show 2 + 1 ≤ 5; decide) rfl rfl ?_)
      intro T4 hs5
      unfold bolterlaw19_Query_Facts_b7
      refine ⟨q.an.xs.length - (j + 1), by omega, rfl, rfl, rfl, rfl, rfl, rfl, hle'.trans hle2, j + 1, (p, n', c'), own', by rw [wrap_i64 (by omega) (by omega)]; rfl, by omega, rfl, ?_, ?_⟩
      · rw [upF_lt hxk (by omega)]; exact ho'
      · exact Sub.re (M := faB b3 (facF q (p, n', c') (none, 0, 0) (none, 0, 0)) :: (own' ++ (faB b2 faZ :: qrB b1 q :: S))) hs5 (by intro a; simp only [cnt_cons, cnt_app, cnt_nil]; omega)
    · unfold bolterlaw19_Query_Facts_b7
      exact ⟨q.an.xs.length - (j + 1), by omega, rfl, rfl, rfl, rfl, rfl, rfl, hle', j + 1, h, own, by rw [wrap_i64 (by omega) (by omega)]; rfl, by omega, rfl, by rw [upF_ge (by omega)]; exact ho, hs'⟩
  · have he : j = q.an.xs.length := by omega
    subst he
    rw [List.take_length] at ho
    exact facts_srv hq (hle.trans hle') ho hs'
theorem Facts_runs (hq : QrIn I S q) : Runs Tryz.prog 14 #[vQr q] I S (FacR q S) := by
  refine bolterlaw19_Query_Facts_fn _ _ _ _ _ _ _ _ _ _ _ _ _ _ _ _ _ _ _ ?_
  unfold bolterlaw19_Query_Facts bolterlaw19_Query_Facts_b1
  intro b1 b2
  have hs0 : Sub (qrB b1 q :: S) (faB b2 faZ :: qrB b1 q :: S) := (Sub.refl _).skip _
  obtain ⟨c0, c1, c2, _, _, _⟩ := qrA q (I := I) hs0
  obtain ⟨yr, yn, yl, yb⟩ := hq.cl
  obtain ⟨zr, zn, zl, zb⟩ := hq.nm
  refine ⟨_, c0, _, q.cl.ns.length, _, by rw [← yn]; exact c1, _, q.nm.ns.length, _, by rw [← zn]; exact c2, ⟨?_, ?_⟩⟩
  · refine (AdrF_runs q.six (yr.sub hs0.drop) yl yb).mono ?_
    rintro v J T hle ⟨rfl, hs⟩
    refine ⟨_, rfl, hs.keep hle, ?_, fun b3 => ⟨(hs.skip _).keep hle, ?_⟩⟩
    · refine (TrigF_runs (kind := 1) (bits := 0) false ((zr.sub (hs0.drop.trans hs)).le hle) zl zb (by decide) (by decide)).mono ?_
      rintro v J2 T2 hle2 ⟨⟨rfl, -⟩, hs2⟩
      refine ⟨_, _, _, _, rfl, fun b3 => ⟨((hs.trans hs2).skip _).keep (hle.trans hle2), ?_⟩⟩
      refine StP.all (vs := encFa (facF q (none, 0, 0) (none, 0, 0) (none, 0, 0))) rfl rfl ?_
      exact facts_ans hq (hle.trans hle2) ((hs.trans hs2).cons _)
    · refine (TrigF_runs (kind := 1) (bits := 0) false ((zr.sub ((hs0.drop.trans hs).skip _)).le hle) zl zb (by decide) (by decide)).mono ?_
      rintro v J2 T2 hle2 ⟨⟨rfl, -⟩, hs2⟩
      refine ⟨_, _, _, _, rfl, ?_⟩
      refine StP.among (e := 37) (L := encFa faZ) ((hs.cons _).trans hs2) (by show 0 + 5 ≤ 5; decide) rfl rfl ?_
      intro T3 hs3
      exact facts_ans hq (hle.trans hle2) hs3
  · intro b3
    refine ⟨((Sub.refl _).skip _).keep (IMem.le.refl I), ?_⟩
    refine (AdrF_runs q.six (yr.sub (hs0.drop.skip _)) yl yb).mono ?_
    rintro v J T hle ⟨rfl, hs⟩
    refine ⟨_, rfl, hs.drop.keep hle, ?_⟩
    refine (TrigF_runs (kind := 1) (bits := 0) false ((zr.sub ((hs0.drop.skip _).trans hs)).le hle) zl zb (by decide) (by decide)).mono ?_
    rintro v J2 T2 hle2 ⟨⟨rfl, -⟩, hs2⟩
    refine ⟨_, _, _, _, rfl, ?_⟩
    refine StP.among (e := 37) (L := encFa faZ) (hs.trans hs2) (by show 0 + 5 ≤ 5; decide) rfl rfl ?_
    intro T3 hs3
    exact facts_ans hq (hle.trans hle2) hs3
end
end Go.Proofs.YtmlojdbahlfiaaaGreatDoor
/- Rules by numbers: their records, and the zone of them. -/
namespace Go.Proofs.YtmlojdbahlfiaaaGreatDoor
open Go.Px
set_option linter.unusedVariables false
set_option linter.unusedSimpArgs false
set_option maxRecDepth 8000

structure Ru where
  kind : Int
  nm : Sb
  six : Bool
  bits : Int
  how : Int
abbrev encRu (r : Ru) : List Value := [.int .u8 r.kind, .slice r.nm.a.1 r.nm.a.2.1 r.nm.a.2.2, .bool r.six, .int .u8 r.bits, .int .u8 r.how]
abbrev vRu (r : Ru) : Value := .agg #[.int .u8 r.kind, .slice r.nm.a.1 r.nm.a.2.1 r.nm.a.2.2, .bool r.six, .int .u8 r.bits, .int .u8 r.how]
abbrev ruB (b : Nat) (r : Ru) : Nat × Obj := (b, .cells (encRu r).toArray 27 (0, 0))
structure RuIn (I : IMem) (S : SH) (r : Ru) : Prop where
  kind : 0 ≤ r.kind ∧ r.kind ≤ 255
  nm : SbIn I S r.nm
  bits : 0 ≤ r.bits ∧ r.bits ≤ 255
  how : 0 ≤ r.how ∧ r.how ≤ 255
theorem RuIn.keep {I J : IMem} {S T : SH} {r : Ru} (hk : Keep I S J T) (h : RuIn I S r) : RuIn J T r := ⟨h.kind, h.nm.keep hk, h.bits, h.how⟩
theorem RuIn.sub {I : IMem} {S T : SH} {r : Ru} (hs : Sub S T) (h : RuIn I S r) : RuIn I T r := h.keep (hs.keep (IMem.le.refl I))
theorem RuIn.le {I J : IMem} {S : SH} {r : Ru} (hle : I.le J) (h : RuIn I S r) : RuIn J S r := h.keep ((Sub.refl S).keep hle)
/-! ### an origin -/
def orgL (k : Nat) : ByteArray := ⟨#[122, UInt8.ofNat (97 + k)]⟩
def orgN (k : Nat) : ByteArray := ⟨#[2, 122, UInt8.ofNat (97 + k)]⟩
theorem orgN_mk : ∀ k, k < 10 → makeN [orgL k] ByteArray.empty = some (orgN k) := by decide +kernel
theorem Origin_runs {k : Nat} (hk : k < 10) (I : IMem) (S : SH) : Runs Tryz.prog 22 #[.int .i64 (k : Int)] I S fun v _ T => v = .string (orgN k) ∧ T = S := by
  refine Runs.drop (bolterlaw19_Origin_fn _ _ _ _ ?_)
  unfold bolterlaw19_Origin
  intro b10
  have e1 : IntKind.wrap .u8 (IntKind.wrap .i64 ((97 : Int) + ((k : Int).tmod (32 : Int)))) = ((UInt8.ofNat (97 + k)).toNat : Int) := by
    rw [Int.tmod_eq_emod_of_nonneg (by omega), wrap_i64 (by omega) (by omega), wrap_u8 (by omega) (by omega), ofNatU (by omega)]; omega
  rw [e1]
  have hb := BytesAt.list (I := I) (S := S) (g := b10) (n := 2) (l := [122, UInt8.ofNat (97 + k)]) (rest := []) (e := 5) (fz := (0, 0)) rfl
  refine ⟨orgL k, hb, fun b12 => (Make_runs (ls := [orgL k]) (strs_row [orgL k] (by show 1 ≤ 100; decide)) (by show 1 ≤ 140737488355328; decide)).mono ?_⟩
  rintro v J T hle ⟨rfl, rfl⟩
  rw [orgN_mk k hk]
  exact ⟨_, _, rfl, S, ((Sub.refl S).skip _).skip _, rfl, rfl⟩
/-! ### a rule's records -/
def RecsR (S : SH) : Value → IMem → SH → Prop := fun v _ T => ∃ (rs : List Rc) (p : Option Addr) (c : Nat) (own : SH), v = .slice p rs.length c ∧ OwnZ (.slice p rs.length c) rs own ∧ rs.length ≤ 2 ∧ Sub (own ++ S) T
theorem own_rs {xs : List Rc} {b : Nat} (hne : xs.length ≤ 2) : OwnZ (.slice (some ⟨b, 0, none⟩) xs.length xs.length) xs [(b, .cells (xs.flatMap encR).toArray 69 (0, 0))] :=
  .inr ⟨b, xs.length, [], rfl, by rw [List.append_nil], by simp, by unfold maxLen; omega⟩
theorem Records_runs {r : Ru} {o : ByteArray} {I : IMem} {S : SH} (g : GL I) (h : RuIn I S r) : Runs Tryz.prog 56 #[vRu r, .string o] I S (RecsR S) := by
  refine bolterlaw19_Rule_Records_fn _ _ _ _ _ _ _ _ _ _ _ ?_
  unfold bolterlaw19_Rule_Records
  intro b2
  obtain ⟨yr, yn, yl, yb⟩ := h.nm
  have hk : Sub S (ruB b2 r :: S) := (Sub.refl S).skip _
  refine ⟨_, Cell.at0 rfl, _, r.nm.ns.length, _, (by rw [← yn]; exact Cell.at0 rfl), _, Cell.at0 rfl, _, Cell.at0 rfl, ?_⟩
  refine (TrigF_runs r.six (yr.sub hk) yl yb h.kind h.bits).mono ?_
  rintro v J1 T1 hle1 ⟨⟨rfl, -⟩, hs1⟩
  refine ⟨_, _, _, _, rfl, (Encode_runs (trigF r.kind r.nm.ns r.six r.bits) (g.le hle1) T1).mono ?_⟩
  rintro v J2 T2 hle2 ⟨rfl, rfl⟩
  have hmk : ∃ m b, mkV (encF (trigF r.kind r.nm.ns r.six r.bits)) = .tuple #[.string m, .bool b] := by
    cases encF (trigF r.kind r.nm.ns r.six r.bits) with
    | none => exact ⟨_, _, rfl⟩
    | some m => exact ⟨_, _, rfl⟩
  obtain ⟨m, b, hmv⟩ := hmk
  rw [hmv]
  refine ⟨_, _, rfl, (Join_runs _ _ _ _).mono ?_⟩
  rintro v J3 T3 hle3 ⟨rfl, rfl⟩
  refine ⟨_, _, rfl, bcase_not (bcase_of (fun hj => ?_) (fun hj => ⟨[], none, 0, [], rfl, OwnR.nil, Nat.zero_le _, hs1.drop⟩))⟩
  generalize (joinN m o).1 = n
  intro b32
  have e10 : IntKind.wrap .i64 (r.how.tmod 10) = ((r.how.toNat % 10 : Nat) : Int) := by
    have := h.how
    rw [Int.tmod_eq_emod_of_nonneg this.1, wrap_i64 (by omega) (by omega)]; omega
  have hr10 : r.how.toNat % 10 < 10 := Nat.mod_lt _ (by decide)
  refine ⟨r.how, Cell.tl (Cell.among hs1 rfl), ?_⟩
  rw [e10]
  generalize r.how.toNat % 10 = k at hr10
  have fin : ∀ (b : Nat) (xs : List Rc) (X : Nat × Obj), xs.length ≤ 2 → xs ≠ [] → RecsR S (.slice (some ⟨b, 0, none⟩) xs.length xs.length) J3 ((b, .cells (xs.flatMap encR).toArray 69 (0, 0)) :: X :: T3) := fun b xs X hx hne =>
    ⟨xs, _, _, _, rfl, own_rs hx, hx, (hs1.drop.skip X).cons _⟩
  refine bcase_dec (fun h7 => ⟨by omega, h7, ?_⟩) (fun h7 => bcase_beq (fun h7 => fun b54 => fin b54 [(n, 1, 5, ⟨#[10, 0, 0, 1]⟩), (n, 16, 5, ⟨#[1, 120]⟩)] _ (by simp) (by simp)) (fun _ => bcase_beq (fun h8 => fun b62 => fin b62 [(n, 1, 5, ⟨#[10, 0, 0, 1]⟩), (n, 5, 5, ⟨#[]⟩)] _ (by simp) (by simp)) (fun _ => fun b65 => fin b65 [(n, 28, 7, ⟨#[48, 49, 50, 51, 52, 53, 54, 55, 56, 57, 97, 98, 99, 100, 101, 102]⟩)] _ (by simp) (by simp))))
  rw [add_mk, Int.toNat_natCast, Nat.zero_add, Nat.mul_one]
  have hy : ∃ y : ByteArray, (#[.string ⟨#[]⟩, .string ⟨#[1, 42]⟩, .string ⟨#[12, 114, 112, 122, 45, 112, 97, 115, 115, 116, 104, 114, 117]⟩, .string ⟨#[8, 114, 112, 122, 45, 100, 114, 111, 112]⟩, .string ⟨#[12, 114, 112, 122, 45, 116, 99, 112, 45, 111, 110, 108, 121]⟩, .string ⟨#[1, 42, 3, 111, 114, 103]⟩, .string ⟨#[3, 119, 119, 119]⟩] : Array Value)[k]? = some (.string y) := by
    rcases (show k = 0 ∨ k = 1 ∨ k = 2 ∨ k = 3 ∨ k = 4 ∨ k = 5 ∨ k = 6 by omega) with e | e | e | e | e | e | e <;> rw [e] <;> exact ⟨_, rfl⟩
  obtain ⟨y, hy⟩ := hy
  exact ⟨y, Cell.at0 hy, fun b46 => fin b46 [(n, 5, 5, y)] _ (by show 1 ≤ 2; decide) (by simp)⟩
/-! ### a zone of rules -/
def ZonR (S : SH) : Value → IMem → SH → Prop := fun v _ T => ∃ (zs : List Rc) (p : Option Addr) (c : Nat) (own : SH), v = .slice p zs.length c ∧ OwnZ (.slice p zs.length c) zs own ∧ zs.length ≤ 24 ∧ Sub (own ++ S) T
theorem Zone_runs {rs : List Ru} {a : Option Addr} {c : Nat} {o : ByteArray} {I : IMem} {S : SH} (g : GL I) (hx : RowIn I S a rs.length 5 encRu rs) (hl : rs.length ≤ 9223372036854775807) (hr : ∀ r ∈ rs, RuIn I S r) :
    Runs Tryz.prog 23 #[.string o, .slice a rs.length c] I S (ZonR S) := by
  refine bolterlaw19_Zone_fn _ _ _ _ _ _ _ ?_
  unfold bolterlaw19_Zone bolterlaw19_Zone_b1 bolterlaw19_Zone_b2
  refine ⟨fun m o' z zn zc x xn xc q i J T => o' = o ∧ x = a ∧ xn = rs.length ∧ q = (rs.length : Int) ∧ I.le J ∧ ∃ (k : Nat) (zs : List Rc) (own : SH), i = (k : Int) ∧ k ≤ rs.length ∧ k ≤ 12 ∧ m = rs.length - k ∧ OwnZ (.slice z zn zc) zs own ∧ SS zs ∧ zs.length ≤ 2 * k ∧ Sub (own ++ S) T,
    rs.length, ⟨rfl, rfl, rfl, rfl, IMem.le.refl I, 0, [], [], rfl, Nat.zero_le _, Nat.zero_le _, rfl, OwnR.nil, List.Pairwise.nil, Nat.le_refl 0, Sub.refl S⟩, ?_⟩
  rintro m o' z zn zc x xn xc q i J T - ⟨rfl, rfl, rfl, rfl, hle, k, zs, own, rfl, hk, hk12, rfl, ho, hss, hzl, hs⟩
  have fin : ∀ T', Sub (own ++ S) T' → bolterlaw19_Zone_b5 (ZonR S) z zn zc J T' := by
    intro T' hs'
    unfold bolterlaw19_Zone_b5
    have := ho.len
    subst this
    exact ⟨zs, z, zc, own, rfl, ho, by omega, hs'⟩
  unfold bolterlaw19_Zone_l3
  refine bcase_dec (fun hg => ?_) (fun _ => fin T hs)
  obtain ⟨r, hrk⟩ := get_lt (xs := rs) (k := k) (by omega)
  have hri := ((hr r (List.mem_of_getElem? hrk)).sub hs.right).le hle
  obtain ⟨a', ea, hc⟩ := ((hx.sub hs.right).le hle).cell hrk
  unfold bolterlaw19_Zone_b4
  rw [ea]
  refine ⟨by omega, by omega, _, (by simpa [Addr.add] using hc 0 _ rfl), _, _, _, hc 1 _ rfl, _, hc 2 _ rfl, _, hc 3 _ rfl, _, hc 4 _ rfl, fun b7 => StP.all (vs := encRu r) rfl rfl ?_⟩
  refine bcase_beq (fun _ => fin _ (hs.skip _)) (fun h12 => ?_)
  refine ⟨_, Cell.at0 rfl, _, _, _, Cell.at0 rfl, _, Cell.at0 rfl, _, Cell.at0 rfl, _, Cell.at0 rfl, ?_⟩
  refine (Records_runs (r := r) (g.le hle) (hri.sub ((Sub.refl T).skip _))).mono ?_
  rintro v J1 T1 hle1 ⟨ys, p, c1, own1, rfl, ho1, hyl, hs1⟩
  refine ⟨_, _, _, rfl, ?_⟩
  unfold bolterlaw19_Zone_b6
  refine ⟨fun m o'' z zn zc x' xn xc q i' y yn yc yq j J T => o'' = o' ∧ x' = some a' ∧ xn = rs.length ∧ q = (rs.length : Int) ∧ i' = (k : Int) ∧ y = p ∧ yn = ys.length ∧ yq = (ys.length : Int) ∧ I.le J ∧ ∃ (l : Nat) (zs : List Rc) (own : SH), j = (l : Int) ∧ l ≤ ys.length ∧ m = ys.length - l ∧ OwnZ (.slice z zn zc) zs own ∧ SS zs ∧ zs.length ≤ 2 * k + l ∧ Sub (own ++ (own1 ++ S)) T,
    ys.length, ⟨rfl, rfl, rfl, rfl, rfl, rfl, rfl, rfl, hle.trans hle1, 0, zs, own, rfl, Nat.zero_le _, rfl, ho, hss, hzl, (((Sub.refl own1).both (hs.skip (ruB b7 r))).trans hs1).re (by intro a; simp only [cnt_cons, cnt_app]; omega)⟩, ?_⟩
  clear fin ho hss hzl hs hs1 own zs
  rintro m o'' z2 zn2 zc2 x' xn xc' q i' y yn yc yq j J2 T2 - ⟨rfl, rfl, rfl, rfl, rfl, rfl, rfl, rfl, hle2, l, zs, own, rfl, hl2, rfl, ho, hss, hzl, hs⟩
  unfold bolterlaw19_Zone_l7
  refine bcase_dec (fun hg2 => ?_) (fun hg2 => ?_)
  · obtain ⟨w, hw⟩ := get_lt (xs := ys) (k := l) (by omega)
    obtain ⟨a2, ea2, hc2⟩ := ((ho1.row encR_len).sub hs.right.left).cell (I := J2) hw
    obtain ⟨c0, c1', c2, c3⟩ := CellsR hc2
    rw [ea2]
    refine ⟨by omega, by omega, _, c0, _, c1', _, c2, _, c3, fun b9 => StP.rec (x := w) ⟨_, Cell.at0 rfl, _, Cell.at0 rfl, _, Cell.at0 rfl, _, Cell.at0 rfl, ?_⟩⟩
    have hzn := ho.len
    subst hzn
    refine (ZIns_runs (r := w) ((ho.row encR_len).sub (hs.left.skip _)) (by omega) hss).mono ?_
    rintro v J3 T3 hle3 ⟨ok, ixs, own2, p2, n2, d2, rfl, ho2, hs3, hin, hyes, hno, hlen⟩
    refine ⟨_, _, _, _, rfl, ?_⟩
    cases ok with
    | true =>
      refine ⟨true, rfl, bcase_t rfl ?_⟩
      unfold bolterlaw19_Zone_b8
      refine ⟨ys.length - (l + 1), by omega, rfl, rfl, rfl, rfl, rfl, ea2.symm ▸ rfl, rfl, rfl, hle2.trans hle3, l + 1, ixs, own2, by rw [wrap_i64 (by omega) (by omega)]; rfl, by omega, rfl, ho2, (hyes rfl).1, by omega, ?_⟩
      exact ((Sub.refl own2).both ((hs.right).skip _)).trans hs3
    | false =>
      refine ⟨false, rfl, bcase_f rfl ?_⟩
      unfold bolterlaw19_Zone_b8
      refine ⟨ys.length - (l + 1), by omega, rfl, rfl, rfl, rfl, rfl, ea2.symm ▸ rfl, rfl, rfl, hle2.trans hle3, l + 1, zs, own, by rw [wrap_i64 (by omega) (by omega)]; rfl, by omega, rfl, ho, hss, by omega, ?_⟩
      exact (hs.skip _).trans hs3.right
  · have hle' : l = ys.length := by omega
    subst hle'
    unfold bolterlaw19_Zone_b9
    exact ⟨rs.length - (k + 1), by omega, rfl, ea ▸ rfl, rfl, rfl, hle2, k + 1, zs, own, by rw [wrap_i64 (by omega) (by omega)]; rfl, by omega, by omega, rfl, ho, hss, by omega, (hs.re (by intro a; simp only [cnt_cons, cnt_app]; omega) : Sub ((own ++ S) ++ own1) T2).left⟩
end Go.Proofs.YtmlojdbahlfiaaaGreatDoor
