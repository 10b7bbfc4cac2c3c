/- Names: builders, bytes folded, names made of labels, labels of names; names as labels. -/
import Derived.Test.YtkagfmlaolmdnaaDoorT3
import Derived.Test.YtkagfmlaolmdnaaDoorPx12
import Derived.Test.YtkagfmlaolmdnaaDoorOw1
import Derived.Laws.Externs
namespace Go.Proofs.YtkagfmlaolmdnaaDoor
open Go.Px
set_option linter.unusedVariables false
set_option linter.unusedSimpArgs false
theorem take_at {α : Type} {A B : List α} {o : Nat} (h : A.length = o) : (A ++ B).take o = A := by subst h; exact List.take_left
theorem drop_at {α : Type} {A B : List α} {o : Nat} (h : A.length = o) : (A ++ B).drop o = B := by subst h; exact List.drop_left
theorem get_lt {α : Type} {xs : List α} {k : Nat} (h : k < xs.length) : ∃ x, xs[k]? = some x := ⟨_, List.getElem?_eq_getElem h⟩
theorem lt_get {α : Type} {xs : List α} {k : Nat} {x : α} (h : xs[k]? = some x) : k < xs.length := by
  rcases Nat.lt_or_ge k xs.length with g | g
  · exact g
  · rw [List.getElem?_eq_none g] at h; cases h
theorem take_snoc {α : Type} {xs : List α} {k : Nat} {x : α} (h : xs[k]? = some x) : xs.take (k + 1) = xs.take k ++ [x] := by
  rw [List.take_add_one, h]; rfl

theorem toList_inj {a b : ByteArray} (h : a.toList = b.toList) : a = b := by
  rw [ByteArray.toList_eq, ByteArray.toList_eq] at h
  exact ByteArray.ext (Array.toList_inj.1 h)
theorem keq {a b : ByteArray} : (a.toList == b.toList) = true ↔ a = b := by
  rw [beq_iff_eq]; exact ⟨toList_inj, fun h => by rw [h]⟩


theorem noesc_runs {I : IMem} {S : SH} (x : Value) : RunsX Tryd.prog 81 #[x] I S fun v _ T => v = x ∧ T = S := by
  intro w hw
  refine ⟨x, w, I, S, ?_, IMem.le.refl I, hw, rfl, rfl⟩
  rw [run_callFunc_extern Tryd.func81 (by kernel_rfl) (by kernel_rfl) (by kernel_rfl) (e := Extern.AbiNoEscape.same) (by kernel_rfl)]
  rfl
abbrev bldO (p : Option Addr) (A : Option Addr) (n c : Nat) : Obj := .cells #[.pointer p, .slice A n c] 95 (0, 0)
theorem chk_runs {b : Nat} {p A : Option Addr} {n c : Nat} {I : IMem} {F : SH} (hp : p = none ∨ p = some ⟨b, 0, none⟩) :
    Runs Tryd.prog 70 #[.pointer (some ⟨b, 0, none⟩)] I ((b, bldO p A n c) :: F) fun v _ T => v = .tuple #[] ∧ T = (b, bldO (some ⟨b, 0, none⟩) A n c) :: F := by
  refine strings_Builder_copyCheck_fn _ _ _ _ ?_
  unfold strings_Builder_copyCheck
  refine ⟨p, Cell.at0 rfl, ?_⟩
  rcases hp with rfl | rfl
  · refine bcase_t rfl ⟨_, _, ⟨(0, 0), .inr (List.mem_cons_self ..)⟩, by simp, (noesc_runs _).mono ?_⟩
    rintro v J T hle ⟨rfl, rfl⟩
    refine ⟨_, rfl, _, _, ⟨(0, 0), .inr (List.mem_cons_self ..)⟩, ?_, StP.at0 (o := 0) (vs := [.pointer (some ⟨b, 0, none⟩)]) (by simp) rfl ⟨rfl, rfl⟩⟩
    show liesAt Tryd.prog (Program.depth Tryd.prog) 95 (2 / Program.cellsOf Tryd.prog 95) 0 95 1 = true
    kernel_rfl
  · exact bcase_f rfl ⟨_, Cell.at0 rfl, rfl, rfl, rfl⟩

/-- a builder that has these bytes -/
def Bld (b : Nat) (s : ByteArray) (own : SH) : Prop := ∃ p A n c own', own = (b, bldO p A n c) :: own' ∧ (p = none ∨ p = some ⟨b, 0, none⟩) ∧ (A.isSome = true → c ≠ 0) ∧ OwnR 5 1 elB (.slice A n c) s.data.toList own'
theorem own_cap {α : Type} {el : α → List Value} {e : TypeId} {A : Option Addr} {n c : Nat} {xs : List α} {own : SH} (h : OwnR e 1 el (.slice A n c) xs own) (hx : 0 < xs.length) : A.isSome = true → c ≠ 0 := by
  intro ha
  rcases h with ⟨hv, _⟩ | ⟨g, cap, rest, hv, _, hcap, _⟩
  · injection hv with h1; subst h1; cases ha
  · injection hv with h1 h2 h3; omega
theorem row_lies {P : Program} {d : Nat} {fits : TypeId → Bool} {e : TypeId} {count n : Nat} (h1 : P.cellsOf e = 1) (h2 : fits e = true) (h3 : n ≤ count) : rowAt P fits (d + 1) e count 0 n = true := by
  unfold rowAt
  simp [h1, h2, h3]
theorem Len_runs {b : Nat} {s : ByteArray} {own : SH} (h : Bld b s own) (I : IMem) (F : SH) : Runs Tryd.prog 48 #[.pointer (some ⟨b, 0, none⟩)] I (own ++ F) fun v _ T => v = .int .i64 (s.size : Int) ∧ T = own ++ F := by
  obtain ⟨p, A, n, c, own', rfl, hp, hc0, ho⟩ := h
  refine strings_Builder_Len_fn _ _ _ _ ?_
  unfold strings_Builder_Len
  refine ⟨_, _, _, Cell.at0 rfl, ?_, rfl⟩
  rw [ho.len]; rfl
theorem WByte_runs {b : Nat} {s : ByteArray} {own : SH} (h : Bld b s own) (u : UInt8) (hs : s.size + 1 ≤ 140737488355328) (I : IMem) (F : SH) :
    Runs Tryd.prog 49 #[.pointer (some ⟨b, 0, none⟩), .int .u8 (u.toNat : Int)] I (own ++ F) fun v _ T => v = .nilIface ∧ ∃ own', Bld b (s.push u) own' ∧ Sub (own' ++ F) T := by
  obtain ⟨p, A, n, c, own', rfl, hp, hc0, ho⟩ := h
  refine strings_Builder_WriteByte_fn _ _ _ _ _ ?_
  unfold strings_Builder_WriteByte
  refine (chk_runs hp).mono ?_
  rintro v J T hle ⟨rfl, rfl⟩
  refine ⟨rfl, _, _, _, Cell.at0 rfl, fun b13 => ?_⟩
  have hsz : s.data.toList.length = s.size := Array.length_toList
  refine AppG.own (xs := s.data.toList) (ys := [u]) (el := elB) (own := own') (F := (b13, .cells #[.int .u8 (u.toNat : Int)] 5 (0, 0)) :: (b, bldO (some ⟨b, 0, none⟩) A n c) :: F) elB_len elB_one rfl perm_mid2 ho ⟨?_, rfl⟩ ?_ ?_ ?_
  · exact Rd.list (L := elB u) rfl (by simp [elB_len])
  · rw [hsz]; simp only [List.length_singleton, maxLen]; omega
  · rw [hsz]; simp only [List.length_singleton]; omega
  · intro q m d own2 ho2
    have e : own2 ++ (b13, Obj.cells #[.int .u8 (u.toNat : Int)] 5 (0, 0)) :: (b, bldO (some ⟨b, 0, none⟩) A n c) :: F = (own2 ++ [(b13, Obj.cells #[.int .u8 (u.toNat : Int)] 5 (0, 0))]) ++ (b, bldO (some ⟨b, 0, none⟩) A n c) :: F := by simp
    rw [e]
    refine StP.mid (o := 1) (vs := [.slice q m d]) (by simp) rfl ⟨rfl, (b, bldO (some ⟨b, 0, none⟩) q m d) :: own2, ⟨_, q, m, d, own2, rfl, .inr rfl, own_cap ho2 (by simp), ?_⟩, ?_⟩
    · have : (s.push u).data.toList = s.data.toList ++ [u] := by simp [ByteArray.push]
      rw [this]; exact ho2
    · rw [List.append_assoc]
      exact sub_swap
theorem WStr_runs {b : Nat} {s t : ByteArray} {own : SH} (h : Bld b s own) (h0 : 0 < s.size + t.size) (hs : s.size + t.size ≤ 140737488355328) (I : IMem) (F : SH) :
    Runs Tryd.prog 50 #[.pointer (some ⟨b, 0, none⟩), .string t] I (own ++ F) fun v _ T => v = .tuple #[.int .i64 (t.size : Int), .nilIface] ∧ ∃ own', Bld b (s ++ t) own' ∧ Sub (own' ++ F) T := by
  obtain ⟨p, A, n, c, own', rfl, hp, hc0, ho⟩ := h
  refine strings_Builder_WriteString_fn _ _ _ _ _ ?_
  unfold strings_Builder_WriteString
  refine (chk_runs hp).mono ?_
  rintro v J T hle ⟨rfl, rfl⟩
  refine ⟨rfl, _, _, _, Cell.at0 rfl, ?_⟩
  have hsz : s.data.toList.length = s.size := Array.length_toList
  have htz : t.data.toList.length = t.size := Array.length_toList
  refine AppG.own (xs := s.data.toList) (ys := t.data.toList) (el := elB) (own := own') (F := (b, bldO (some ⟨b, 0, none⟩) A n c) :: F) elB_len elB_one rfl perm_mid1 ho ⟨t, rfl, htz, flat_elB _, rfl⟩ ?_ ?_ ?_
  · rw [hsz, htz]; simp only [maxLen]; omega
  · rw [hsz, htz]; omega
  · intro q m d own2 ho2
    refine StP.mid (o := 1) (vs := [.slice q m d]) (by simp) rfl ⟨rfl, (b, bldO (some ⟨b, 0, none⟩) q m d) :: own2, ⟨_, q, m, d, own2, rfl, .inr rfl, own_cap ho2 (by rw [List.length_append, hsz, htz]; exact h0), ?_⟩, ?_⟩
    · have : (s ++ t).data.toList = s.data.toList ++ t.data.toList := by simp
      rw [this]; exact ho2
    · exact ⟨[], by rw [List.append_nil]; exact List.perm_middle⟩
theorem Str_runs {b : Nat} {s : ByteArray} {own : SH} (h : Bld b s own) (hs : s.size ≤ 140737488355328) (I : IMem) (F : SH) :
    Runs Tryd.prog 51 #[.pointer (some ⟨b, 0, none⟩)] I (own ++ F) fun v _ T => v = .string s ∧ Sub F T := by
  obtain ⟨p, A, n, c, own', rfl, hp, hc0, ho⟩ := h
  refine strings_Builder_String_fn _ _ _ _ ?_
  unfold strings_Builder_String strings_Builder_String_b1 strings_Builder_String_b2
  have hln := ho.len
  have hsz : s.data.toList.length = s.size := Array.length_toList
  rw [hsz] at hln
  subst hln
  have hs0 : s.size = 0 → s = ByteArray.empty := fun h => by
    apply ByteArray.ext
    have : s.data.size = 0 := h
    simp [Array.eq_empty_of_size_eq_zero this]
  rcases ho with ⟨hv, hx, rfl⟩ | ⟨g, cap, rest, hv, rfl, hcap, hcm⟩
  · injection hv with h1 h2 h3
    subst h1
    refine ⟨_, _, _, Cell.at0 rfl, fun h => (by simp at h), _, _, _, Cell.at0 rfl, .inl ⟨by omega, ?_, ⟨[_], List.perm_append_comm (l₁ := [_])⟩⟩⟩
    rw [hs0 h2]
  · injection hv with h1 h2 h3
    subst h1; subst h3
    by_cases h0 : s.size = 0
    · refine ⟨_, _, _, Cell.at0 rfl, fun _ => hc0 rfl, _, _, _, Cell.at0 rfl, .inl ⟨by omega, ?_, ⟨[_, _], List.perm_append_comm (l₁ := [_, _])⟩⟩⟩
      rw [hs0 h0]
    · have hsc : s.size ≤ c := by rw [hsz] at hcap; omega
      refine ⟨_, _, _, Cell.at0 rfl, fun _ => by omega, _, _, _, Cell.at0 rfl, .inr ⟨⟨g, 0, none⟩, 1, _, _, (0, 0), s, rfl, by omega, by omega, rfl, ?_, ?_, rfl, ⟨[_, _], List.perm_append_comm (l₁ := [_, _])⟩⟩⟩
      · have hcs : ((s.data.toList.flatMap elB ++ rest).toArray).size = c := by
          rw [List.size_toArray, List.length_append, flatMap_len elB_len]; omega
        rw [hcs]
        have h1 : Program.cellsOf Tryd.prog 5 = 1 := by kernel_rfl
        rw [h1, Nat.div_one]
        have hd : ∃ d, Program.depth Tryd.prog = d + 1 + 1 := ⟨Program.depth Tryd.prog - 2, by kernel_rfl⟩
        obtain ⟨d, hd⟩ := hd
        rw [hd]
        have hsl : sameLayout Tryd.prog (Program.depth Tryd.prog) 5 5 = true := by kernel_rfl
        unfold liesAt
        have key : ∀ D, D = d + 1 + 1 → rowAt Tryd.prog (fun x => sameLayout Tryd.prog (Program.depth Tryd.prog) x 5) D 5 c 0 s.size = true := fun D hD => by subst hD; exact row_lies h1 hsl hsc
        rw [Int.toNat_natCast]
        show (rowAt Tryd.prog (fun x => sameLayout Tryd.prog (Program.depth Tryd.prog) x 5) (Program.depth Tryd.prog) 5 c 0 s.size || _) = true
        rw [key _ hd]
        rfl
      · rw [flat_elB, Int.toNat_natCast]
        refine BytesAt.tl ?_
        have : s = ⟨s.data.toList.toArray⟩ := by apply ByteArray.ext; simp
        have hb := BytesAt.list (I := I) (S := F) (g := g) (n := s.size) (l := s.data.toList) (rest := rest) (e := 5) (fz := (0, 0)) hsz.symm
        rw [← this] at hb
        exact hb


def foldU (u : UInt8) : UInt8 := if 65 ≤ u.toNat ∧ u.toNat ≤ 90 then UInt8.ofNat (u.toNat + 32) else u
def foldB (s : ByteArray) : ByteArray := ⟨(s.data.toList.map foldU).toArray⟩
theorem foldB_size (s : ByteArray) : (foldB s).size = s.size := by
  show ((s.data.toList.map foldU).toArray).size = s.data.size
  simp
theorem ofNatU {n : Nat} (h : n < 256) : (UInt8.ofNat n).toNat = n := by
  show n % 256 = n
  exact Nat.mod_eq_of_lt h
theorem Fold_runs (u : UInt8) (I : IMem) (S : SH) : Runs Tryd.prog 69 #[.int .u8 (u.toNat : Int)] I S fun v _ T => v = .int .u8 ((foldU u).toNat : Int) ∧ T = S := by
  refine name_Fold_fn _ _ _ _ ?_
  unfold name_Fold name_Fold_b1 name_Fold_b2 name_Fold_b3
  have hu := u.toNat_lt
  refine bcase_dec (fun h => bcase_dec (fun g => ⟨?_, rfl⟩) (fun g => ⟨?_, rfl⟩)) (fun h => bcase_f rfl ⟨?_, rfl⟩)
  · rw [foldU, if_pos ⟨by omega, by omega⟩, wrap_u8 (x := (u.toNat : Int) + 97) (by omega) (by omega), wrap_u8 (by omega) (by omega)]
    have : (UInt8.ofNat (u.toNat + 32)).toNat = u.toNat + 32 := by
      exact ofNatU (by omega)
    rw [this]; congr 1; omega
  · rw [foldU, if_neg (by omega)]
  · rw [foldU, if_neg (by omega)]
theorem folded_runs (s : ByteArray) (hs : s.size ≤ 140737488355328) (I : IMem) (S : SH) : Runs Tryd.prog 47 #[.string s] I S fun v _ T => v = .string (foldB s) ∧ T = S := by
  refine Runs.drop (name_folded_fn _ _ _ _ ?_)
  unfold name_folded name_folded_b1 name_folded_b2
  refine ⟨by simp only [maxLen]; omega, fun g c hc hcm => ?_⟩
  have hln : s.data.toList.length = s.size := Array.length_toList
  generalize hl : s.data.toList = l at hln
  have hbc : byteCells s = bytL l := by rw [← hl]; rfl
  rw [hbc]
  generalize hrest : repV (c - s.size) [Value.int .u8 0] = rest
  have hK : ∀ k, (bytL ((l.take k).map foldU)).length = min k l.length := fun k => by rw [bytL_len, List.length_map, List.length_take]
  refine ⟨fun m b bn bc x xn xc q i J T => b = some ⟨g, 0, none⟩ ∧ bn = s.size ∧ x = some ⟨g, 0, none⟩ ∧ xn = s.size ∧ q = (s.size : Int) ∧ ∃ k : Nat, i = (k : Int) ∧ k ≤ s.size ∧ m = s.size - k ∧
    T = (g, .cells (bytL ((l.take k).map foldU) ++ (bytL (l.drop k) ++ rest)).toArray 5 (c, c + 1)) :: S, s.size, ⟨rfl, rfl, rfl, rfl, rfl, 0, rfl, Nat.zero_le _, rfl, by simp [bytL]⟩, ?_⟩
  rintro m b bn bc x xn xc q i J T - ⟨rfl, rfl, rfl, rfl, rfl, k, rfl, hk, rfl, rfl⟩
  unfold name_folded_l3 name_folded_b4
  refine bcase_dec (fun h => ?_) (fun h => ?_)
  · have hkl : k < l.length := by omega
    have hd : l.drop k = l[k] :: l.drop (k + 1) := List.drop_eq_getElem_cons hkl
    have hkk : (bytL ((l.take k).map foldU)).length = k := by rw [hK]; omega
    refine ⟨by omega, by omega, (l[k].toNat : Int), ?_, (Fold_runs l[k] _ _).mono ?_⟩
    · rw [add_mk]
      refine Cell.at0 ?_
      rw [List.getElem?_toArray, List.getElem?_append_right (by rw [hkk]; omega), hkk, hd]
      have : 0 + ((k : Int)).toNat * 1 - k = 0 := by omega
      rw [this]; rfl
    · rintro v J' T' hle ⟨rfl, rfl⟩
      refine ⟨_, rfl, by omega, by omega, ?_⟩
      rw [add_mk]
      have e : 0 + ((k : Int)).toNat * 1 = k := by omega
      rw [e]
      refine StP.listF ?_ ?_ rfl ⟨s.size - (k + 1), by omega, rfl, rfl, rfl, rfl, rfl, k + 1, ?_, by omega, rfl, ?_⟩
      · rw [List.length_append, List.length_append, hkk, bytL_len, List.length_drop]; simp only [List.length_singleton]; omega
      · simp only [List.length_singleton]; omega
      · rw [wrap_i64 (by omega) (by omega)]; rfl
      · have t1 : (bytL ((l.take k).map foldU) ++ (bytL (l.drop k) ++ rest)).take k = bytL ((l.take k).map foldU) := by
          conv => lhs; rw [← hkk]
          rw [hkk]; conv => lhs; arg 1; rw [← hkk]
          exact List.take_left
        have t2 : (bytL ((l.take k).map foldU) ++ (bytL (l.drop k) ++ rest)).drop (k + [Value.int .u8 ((foldU l[k]).toNat : Int)].length) = bytL (l.drop (k + 1)) ++ rest := by
          rw [List.length_singleton, ← List.drop_drop]
          have : (bytL ((l.take k).map foldU) ++ (bytL (l.drop k) ++ rest)).drop k = bytL (l.drop k) ++ rest := by
            conv => lhs; arg 1; rw [← hkk]
            exact List.drop_left
          rw [this, hd]; rfl
        rw [t1, t2]
        have t3 : l.take (k + 1) = l.take k ++ [l[k]] := by rw [List.take_add_one, List.getElem?_eq_getElem hkl]; rfl
        have t4 : bytL ((l.take (k + 1)).map foldU) = bytL ((l.take k).map foldU) ++ [Value.int .u8 ((foldU l[k]).toNat : Int)] := by
          rw [t3, List.map_append, bytL, List.map_append]; rfl
        rw [t4]
  · have : k = s.size := by omega
    subst this
    refine ⟨foldB s, ?_, S, (Sub.refl S).skip _, rfl, rfl⟩
    have t1 : l.take s.size = l := by rw [← hln]; exact List.take_length
    have t2 : l.drop s.size = [] := by rw [← hln]; exact List.drop_length
    rw [t1, t2]
    have hb := BytesAt.list (I := J) (S := S) (g := g) (n := s.size) (l := l.map foldU) (rest := bytL [] ++ rest) (e := 5) (fz := (c, c + 1)) (by rw [List.length_map, hln])
    have hf : foldB s = ⟨(l.map foldU).toArray⟩ := by rw [foldB, hl]
    rw [hf]; exact hb

/-! ### names -/
def makeN : List ByteArray → ByteArray → Option ByteArray
  | [], acc => some acc
  | l :: ls, acc => if l.size < 1 ∨ l.size > 63 ∨ acc.size + 1 + l.size > 254 then none else makeN ls (acc.push (UInt8.ofNat l.size) ++ foldB l)
theorem app_size (a b : ByteArray) : (a ++ b).size = a.size + b.size := ByteArray.size_append
theorem makeN_size : ∀ {ls : List ByteArray} {acc n : ByteArray}, acc.size ≤ 254 → makeN ls acc = some n → n.size ≤ 254
  | [], acc, n, h, e => by simp [makeN] at e; subst e; exact h
  | l :: ls, acc, n, h, e => by
    unfold makeN at e
    split at e
    · cases e
    · refine makeN_size ?_ e
      rw [app_size, foldB_size, ByteArray.size_push]; omega
def elS (s : ByteArray) : List Value := [.string s]
def mkV : Option ByteArray → Value
  | some n => .tuple #[.string n, .bool true]
  | none => .tuple #[.string ⟨#[]⟩, .bool false]
theorem Make_runs {ls : List ByteArray} {a : Option Addr} {c : Nat} {I : IMem} {S : SH} (hx : RowIn I S a ls.length 1 elS ls) (hl : ls.length ≤ 140737488355328) :
    Runs Tryd.prog 25 #[.slice a ls.length c] I S fun v _ T => v = mkV (makeN ls ByteArray.empty) ∧ T = S := by
  refine Runs.drop (name_Make_fn _ _ _ _ _ _ ?_)
  unfold name_Make name_Make_b1 name_Make_b2
  intro b4
  refine ⟨fun m o x xn xc q i J T => o = ⟨b4, 0, none⟩ ∧ x = a ∧ xn = ls.length ∧ q = (ls.length : Int) ∧ I.le J ∧ ∃ (k : Nat) (acc : ByteArray) (own : SH), i = (k : Int) ∧ k ≤ ls.length ∧ m = ls.length - k ∧ Bld b4 acc own ∧ Sub (own ++ S) T ∧ acc.size ≤ 254 ∧ makeN ls ByteArray.empty = makeN (ls.drop k) acc,
    ls.length, ⟨rfl, rfl, rfl, rfl, IMem.le.refl I, 0, ByteArray.empty, _, rfl, Nat.zero_le _, rfl, ⟨none, none, 0, 0, [], rfl, .inl rfl, fun h => (by cases h), OwnR.nil⟩, Sub.refl _, Nat.zero_le _, rfl⟩, ?_⟩
  rintro m o x xn xc q i J T - ⟨rfl, rfl, rfl, rfl, hle, k, acc, own, rfl, hk, rfl, hb, hs, hacc, hm⟩
  unfold name_Make_l3 name_Make_b4 name_Make_b5 name_Make_b6 name_Make_b7 name_Make_b8 name_Make_b9
  have bad : ∀ (J : IMem) (T : SH), Sub S T → makeN ls ByteArray.empty = none → ∃ L, Sub L T ∧ Value.tuple #[.string ⟨#[]⟩, .bool false] = mkV (makeN ls ByteArray.empty) ∧ L = S := fun J T h e => ⟨S, h, by rw [e]; rfl, rfl⟩
  refine bcase_dec (fun h => ?_) (fun h => ?_)
  · have hkl : k < ls.length := by omega
    obtain ⟨a', rfl, hc⟩ := ((hx.sub hs.right).le hle).cell (List.getElem?_eq_getElem hkl)
    have hd : ls.drop k = ls[k] :: ls.drop (k + 1) := List.drop_eq_getElem_cons hkl
    generalize ls[k] = l at hc hd
    rw [hd, makeN] at hm
    refine ⟨by omega, by omega, l, ?_, ?_⟩
    · have := hc 0 (.string l) rfl
      simpa [Addr.add] using this
    · refine bcase_dec (fun h1 => bcase_t rfl (bad J T hs.right (by rw [hm, if_pos (.inl (by omega))]))) (fun h1 => bcase_dec (fun h2 => bcase_t rfl (bad J T hs.right (by rw [hm, if_pos (.inr (.inl (by omega)))]))) (fun h2 => ?_))
      refine Runs.use hs (Len_runs hb J S) ?_
      rintro v J1 T1 hle1 ⟨rfl, rfl⟩
      refine ⟨_, rfl, ?_⟩
      rw [wrap_i64 (x := (acc.size : Int) + 1) (by omega) (by omega), wrap_i64 (by omega) (by omega)]
      refine bcase_dec (fun h3 => bad J1 _ (Sub.right (Sub.refl _)) (by rw [hm, if_pos (.inr (.inr (by omega)))])) (fun h3 => ?_)
      rw [if_neg (by omega)] at hm
      have hu : IntKind.wrap .u8 (l.size : Int) = ((UInt8.ofNat l.size).toNat : Int) := by
        rw [wrap_u8 (by omega) (by omega), ofNatU (by omega)]
      rw [hu]
      refine (WByte_runs hb (UInt8.ofNat l.size) (by omega) J1 S).mono ?_
      rintro v J2 T2 hle2 ⟨rfl, own2, hb2, hs2⟩
      refine ⟨_, rfl, (folded_runs l (by omega) J2 T2).mono ?_⟩
      rintro v J3 T3 hle3 ⟨rfl, rfl⟩
      have hsz : (acc.push (UInt8.ofNat l.size)).size = acc.size + 1 := ByteArray.size_push
      refine ⟨_, rfl, Runs.use hs2 (WStr_runs hb2 (t := foldB l) (by omega) (by rw [hsz, foldB_size]; omega) J3 S) ?_⟩
      rintro v J4 T4 hle4 ⟨rfl, own4, hb4, hs4⟩
      refine ⟨_, _, rfl, ls.length - (k + 1), by omega, rfl, rfl, rfl, rfl, (((hle.trans hle1).trans hle2).trans hle3).trans hle4, k + 1, _, own4, ?_, by omega, rfl, hb4, hs4, ?_, hm⟩
      · rw [wrap_i64 (by omega) (by omega)]; rfl
      · rw [app_size, hsz, foldB_size]; omega
  · have : k = ls.length := by omega
    subst this
    rw [List.drop_length, makeN] at hm
    refine Runs.use hs (Str_runs hb (by omega) J S) ?_
    rintro v J1 T1 hle1 ⟨rfl, hsub⟩
    exact ⟨_, rfl, S, hsub, by rw [hm]; rfl, rfl⟩

def wordsL : List ByteArray := [⟨#[97]⟩, ⟨#[98]⟩, ⟨#[99]⟩, ⟨#[119, 119, 119]⟩, ⟨#[101, 120]⟩, ⟨#[111, 114, 103]⟩, ⟨#[42]⟩, ⟨#[114, 112, 122, 45, 105, 112]⟩]
def wd (x : Int) : ByteArray := (wordsL[(x.tmod 8).toNat]?).getD ⟨#[]⟩
def elI8 (x : Int) : List Value := [.int .u8 x]
theorem wd_at (x : Int) (h0 : 0 ≤ x) : (#[.string ⟨#[97]⟩, .string ⟨#[98]⟩, .string ⟨#[99]⟩, .string ⟨#[119, 119, 119]⟩, .string ⟨#[101, 120]⟩, .string ⟨#[111, 114, 103]⟩, .string ⟨#[42]⟩, .string ⟨#[114, 112, 122, 45, 105, 112]⟩] : Array Value)[(x.tmod 8).toNat]? = some (.string (wd x)) := by
  have hlt : (x.tmod 8).toNat < 8 := by rw [Int.tmod_eq_emod_of_nonneg h0]; omega
  unfold wd
  generalize (x.tmod 8).toNat = j at hlt
  match j, hlt with
  | 0, _ => rfl
  | 1, _ => rfl
  | 2, _ => rfl
  | 3, _ => rfl
  | 4, _ => rfl
  | 5, _ => rfl
  | 6, _ => rfl
  | 7, _ => rfl
theorem Words_runs {xs : List Int} {a : Option Addr} {c : Nat} {I : IMem} {S : SH} (hx : RowIn I S a xs.length 1 elI8 xs) (hl : xs.length ≤ 9223372036854775807) (hp : ∀ x ∈ xs, 0 ≤ x) :
    Runs Tryd.prog 26 #[.slice a xs.length c] I S fun v _ T => ∃ own, OwnR 9 1 elS v ((xs.take 12).map wd) own ∧ Sub (own ++ S) T := by
  refine bolterlaw02_Words_fn _ _ _ _ _ _ ?_
  unfold bolterlaw02_Words bolterlaw02_Words_b1 bolterlaw02_Words_b2
  refine ⟨fun m o on oc x xn xc q i J T => x = a ∧ xn = xs.length ∧ q = (xs.length : Int) ∧ I.le J ∧ ∃ (k : Nat) (own : SH), i = (k : Int) ∧ k ≤ xs.length ∧ k ≤ 12 ∧ m = xs.length - k ∧ OwnR 9 1 elS (.slice o on oc) ((xs.take k).map wd) own ∧ Sub (own ++ S) T,
    xs.length, ⟨rfl, rfl, rfl, IMem.le.refl I, 0, [], rfl, Nat.zero_le _, Nat.zero_le _, rfl, OwnR.nil, Sub.refl _⟩, ?_⟩
  rintro m o on oc x xn xc q i J T - ⟨rfl, rfl, rfl, hle, k, own, rfl, hk, hk12, rfl, ho, hs⟩
  unfold bolterlaw02_Words_l3 bolterlaw02_Words_b4
  refine bcase_dec (fun h => ?_) (fun h => ?_)
  · have hkl : k < xs.length := by omega
    obtain ⟨a', rfl, hc⟩ := ((hx.sub hs.right).le hle).cell (List.getElem?_eq_getElem hkl)
    have hpos := hp xs[k] (List.getElem_mem hkl)
    have ht : xs.take (k + 1) = xs.take k ++ [xs[k]] := by rw [List.take_add_one, List.getElem?_eq_getElem hkl]; rfl
    generalize xs[k] = y at hc hpos ht
    have hm8 : 0 ≤ y.tmod 8 ∧ y.tmod 8 < 8 := by rw [Int.tmod_eq_emod_of_nonneg hpos]; omega
    refine ⟨by omega, by omega, y, ?_, bcase_beq (fun h12 => ?_) (fun h12 => ?_)⟩
    · have := hc 0 (.int .u8 y) rfl
      simpa [Addr.add] using this
    · obtain rfl : k = 12 := by omega
      exact ⟨own, ho, hs⟩
    · intro b16
      refine ⟨hm8.1, hm8.2, wd y, ?_, fun b23 => ?_⟩
      · rw [add_mk, Nat.zero_add, Nat.mul_one]
        exact Cell.at0 (wd_at y hpos)
      · obtain ⟨G, hG⟩ := hs
        refine AppG.own (xs := (xs.take k).map wd) (ys := [wd y]) (el := elS) (own := own) (F := (b23, .cells #[.string (wd y)] 9 (0, 0)) :: (b16, _) :: (S ++ G)) (fun _ => rfl) (fun _ => rfl) rfl (((hG.cons _).cons _).trans (by rw [List.append_assoc]; exact perm_mid2)) ho ⟨?_, rfl⟩ ?_ ?_ ?_
        · exact Rd.list (L := elS (wd y)) rfl (by simp [elS])
        · rw [List.length_map, List.length_take]; simp only [List.length_singleton, maxLen]; omega
        · rw [List.length_map, List.length_take]; simp only [List.length_singleton]; omega
        · intro p n d own2 ho2
          refine ⟨xs.length - (k + 1), by omega, rfl, rfl, rfl, hle, k + 1, own2, ?_, by omega, by omega, rfl, ?_, ?_⟩
          · rw [wrap_i64 (by omega) (by omega)]; rfl
          · rw [ht, List.map_append]; exact ho2
          · exact ⟨(b23, _) :: (b16, _) :: G, by
              rw [List.append_assoc]
              refine List.Perm.append_left own2 ?_
              exact (perm_mid2 (A := S) (B := G))⟩
  · have hke : k = xs.length := by omega
    refine ⟨own, ?_, hs⟩
    have : xs.take 12 = xs.take k := by rw [List.take_of_length_le (by omega), List.take_of_length_le (by omega)]
    rw [this]; exact ho
def nameW (xs : List Int) : ByteArray := (makeN ((xs.take 12).map wd) ByteArray.empty).getD ⟨#[]⟩
theorem nameW_size (xs : List Int) : (nameW xs).size ≤ 254 := by
  unfold nameW
  cases h : makeN ((xs.take 12).map wd) ByteArray.empty with
  | none => show (⟨#[]⟩ : ByteArray).size ≤ 254; decide
  | some n => exact makeN_size (Nat.zero_le _) h
theorem Name_runs {xs : List Int} {a : Option Addr} {c : Nat} {I : IMem} {S : SH} (hx : RowIn I S a xs.length 1 elI8 xs) (hl : xs.length ≤ 9223372036854775807) (hp : ∀ x ∈ xs, 0 ≤ x) :
    Runs Tryd.prog 27 #[.slice a xs.length c] I S fun v _ T => v = .string (nameW xs) ∧ T = S := by
  refine Runs.drop (bolterlaw02_Name_fn _ _ _ _ _ _ ?_)
  unfold bolterlaw02_Name
  refine (Words_runs hx hl hp).mono ?_
  rintro v J T hle ⟨own, ho, hs⟩
  obtain ⟨p, d, rfl⟩ := ho.slice
  refine ⟨_, _, _, rfl, ?_⟩
  have hrow := (OwnR.row (el := elS) (sz := 1) (fun _ => rfl) ho (I := J)).sub hs.left
  refine (Make_runs hrow (by rw [List.length_map, List.length_take]; omega)).mono ?_
  rintro v J' T' hle' ⟨rfl, rfl⟩
  cases h : makeN ((xs.take 12).map wd) ByteArray.empty with
  | none => exact ⟨_, _, rfl, S, hs.right, by rw [nameW, h]; rfl, rfl⟩
  | some n => exact ⟨_, _, rfl, S, hs.right, by rw [nameW, h]; rfl, rfl⟩
theorem ex_size (s : ByteArray) (a b : Nat) : (s.extract a b).size = min b s.size - a := ByteArray.size_extract
theorem at0 {s : ByteArray} (h : 0 < s.size) : ∃ c : UInt8, s[0]? = some c := ⟨_, getElem?_pos s 0 h⟩
theorem at_ok {s : ByteArray} {k : Nat} (h : k < s.size) : ∃ c : UInt8, s[k]? = some c := ⟨_, getElem?_pos s k h⟩
theorem at_none {s : ByteArray} {k : Nat} (h : s.size ≤ k) : s[k]? = none := getElem?_neg s k (by omega)
theorem u8_lt (c : UInt8) : c.toNat < 256 := c.toNat_lt
theorem wrap_c (c : UInt8) : IntKind.wrap .i64 (c.toNat : Int) = (c.toNat : Int) := by have := u8_lt c; exact wrap_i64 (by omega) (by omega)
theorem wrap_1c (c : UInt8) : IntKind.wrap .i64 ((1 : Int) + (c.toNat : Int)) = ((1 + c.toNat : Nat) : Int) := by have := u8_lt c; rw [wrap_i64 (by omega) (by omega)]; omega

/-- the labels of bytes, one behind the other; with so many steps -/
def splitN : Nat → ByteArray → Option (List ByteArray)
  | 0, s => if s.size = 0 then some [] else none
  | n + 1, s => match s[0]? with
    | none => some []
    | some c => if c.toNat < 1 ∨ c.toNat > 63 ∨ s.size ≤ c.toNat then none else (splitN n (s.extract (1 + c.toNat) s.size)).map (s.extract 1 (1 + c.toNat) :: ·)
theorem splitN_fuel : ∀ (n m : Nat) (s : ByteArray), s.size ≤ n → s.size ≤ m → splitN n s = splitN m s
  | 0, 0, s, _, _ => rfl
  | 0, m + 1, s, h, _ => by
    have h0 : s.size = 0 := by omega
    rw [splitN, if_pos h0, splitN, at_none (by omega)]
  | n + 1, 0, s, _, h => by
    have h0 : s.size = 0 := by omega
    show splitN (n + 1) s = splitN 0 s
    rw [show splitN 0 s = some [] from by rw [splitN, if_pos h0], splitN, at_none (by omega)]
  | n + 1, m + 1, s, h, g => by
    rw [splitN, splitN]
    cases hc : s[0]? with
    | none => rfl
    | some c =>
      dsimp only
      split
      · rfl
      · rw [splitN_fuel n m _ (by rw [ex_size]; omega) (by rw [ex_size]; omega)]
def labN (s : ByteArray) : Option (List ByteArray) := if s.size > 254 ∨ s.toList ≠ (foldB s).toList then none else splitN s.size s
theorem Labels_runs (n : ByteArray) (I : IMem) (S : SH) : Runs Tryd.prog 23 #[.string n] I S fun v _ T =>
    ∃ own, ((labN n = none ∧ v = .tuple #[.slice none 0 0, .bool false] ∧ own = []) ∨ ∃ ls p m c, labN n = some ls ∧ v = .tuple #[.slice p m c, .bool true] ∧ OwnR 9 1 elS (.slice p m c) ls own) ∧ Sub (own ++ S) T := by
  refine name_Labels_fn _ _ _ _ ?_
  unfold name_Labels name_Labels_b1 name_Labels_b2
  refine bcase_dec (fun h => bcase_t rfl ⟨[], .inl ⟨by rw [labN, if_pos (.inl (by omega))], rfl, rfl⟩, Sub.refl _⟩) (fun h => ?_)
  refine (folded_runs n (by omega) I S).mono ?_
  rintro v J T hle ⟨rfl, rfl⟩
  refine ⟨_, rfl, bcase_not (bcase_of (fun g => ?_) (fun g => ⟨[], .inl ⟨by rw [labN, if_pos (.inr (fun e => by rw [e] at g; simp at g))], rfl, rfl⟩, Sub.refl _⟩))⟩
  have hlab : labN n = splitN n.size n := by rw [labN, if_neg]; rintro (h' | h'); · omega
                                             · exact h' (eq_of_beq g)
  unfold name_Labels_b3
  refine ⟨fun m o on oc s J' T' => J.le J' ∧ ∃ (ls : List ByteArray) (own : SH), m = s.size ∧ s.size + ls.length ≤ n.size ∧ OwnR 9 1 elS (.slice o on oc) ls own ∧ Sub (own ++ T) T' ∧ labN n = (splitN s.size s).map (ls ++ ·), n.size,
    ⟨IMem.le.refl J, [], [], rfl, by simp, OwnR.nil, Sub.refl _, by rw [hlab]; simp⟩, ?_⟩
  rintro m o on oc s J' T' - ⟨hle', ls, own, rfl, hsl, ho, hs, hl⟩
  unfold name_Labels_l4 name_Labels_b5 name_Labels_b6 name_Labels_b7 name_Labels_b8 name_Labels_b9
  have bad : splitN s.size s = none → ∃ own, ((labN n = none ∧ Value.tuple #[.slice none 0 0, .bool false] = .tuple #[.slice none 0 0, .bool false] ∧ own = []) ∨ ∃ ls p m c, labN n = some ls ∧ Value.tuple #[.slice none 0 0, .bool false] = .tuple #[.slice p m c, .bool true] ∧ OwnR 9 1 elS (.slice p m c) ls own) ∧ Sub (own ++ T) T' := fun e =>
    ⟨[], .inl ⟨by rw [hl, e]; rfl, rfl, rfl⟩, hs.right⟩
  refine bcase_dec (fun hpos => ?_) (fun hpos => ?_)
  · obtain ⟨c, hc⟩ := at0 (s := s) (by omega)
    obtain ⟨sz, hsz⟩ : ∃ k, s.size = k + 1 := ⟨s.size - 1, by omega⟩
    have hsp : splitN s.size s = if c.toNat < 1 ∨ c.toNat > 63 ∨ s.size ≤ c.toNat then none else (splitN sz (s.extract (1 + c.toNat) s.size)).map (s.extract 1 (1 + c.toNat) :: ·) := by
      conv => lhs; rw [hsz]
      rw [splitN, hc]
    refine ⟨c, by omega, hc, ?_⟩
    rw [wrap_c, wrap_1c]
    refine bcase_dec (fun h1 => bcase_t rfl (bad (by rw [hsp, if_pos (.inl (by omega))]))) (fun h1 => bcase_dec (fun h2 => bcase_t rfl (bad (by rw [hsp, if_pos (.inr (.inl (by omega)))]))) (fun h2 => bcase_dec (fun h3 => bad (by rw [hsp, if_pos (.inr (.inr (by omega)))])) (fun h3 => ?_)))
    rw [if_neg (by omega)] at hsp
    have e1 : ((1 : Int)).toNat = 1 := rfl
    rw [e1, Int.toNat_natCast]
    refine ⟨by omega, by omega, by omega, by omega, fun b40 => ?_⟩
    obtain ⟨G, hG⟩ := hs
    refine AppG.own (xs := ls) (ys := [s.extract 1 (1 + c.toNat)]) (el := elS) (own := own) (F := (b40, .cells #[.string (s.extract 1 (1 + c.toNat))] 9 (0, 0)) :: (T ++ G)) (fun _ => rfl) (fun _ => rfl) rfl ((hG.cons _).trans (by rw [List.append_assoc]; exact perm_mid1)) ho ⟨?_, rfl⟩ ?_ ?_ ?_
    · exact Rd.list (L := elS (s.extract 1 (1 + c.toNat))) rfl (by simp [elS])
    · simp only [List.length_singleton, maxLen]; omega
    · simp only [List.length_singleton]; omega
    · intro p m d own2 ho2
      have hes : (s.extract (1 + c.toNat) s.size).size = s.size - (1 + c.toNat) := by rw [ex_size]; omega
      refine ⟨by omega, by omega, s.size - (1 + c.toNat), by omega, hle', ls ++ [s.extract 1 (1 + c.toNat)], own2, hes.symm, ?_, ho2, ?_, ?_⟩
      · rw [hes, List.length_append, List.length_singleton]; omega
      · exact ⟨(b40, _) :: G, by rw [List.append_assoc]; exact List.Perm.append_left own2 perm_mid1⟩
      · rw [hl, hsp, splitN_fuel sz (s.extract (1 + c.toNat) s.size).size _ (by omega) (Nat.le_refl _)]
        cases splitN (s.extract (1 + c.toNat) s.size).size (s.extract (1 + c.toNat) s.size) <;> simp
  · have h0 : s.size = 0 := by omega
    refine ⟨own, .inr ⟨ls, o, on, oc, ?_, rfl, ho⟩, hs⟩
    rw [hl, h0, splitN, if_pos h0]; simp
theorem May_runs (n : ByteArray) (I : IMem) (S : SH) : Runs Tryd.prog 28 #[.string n] I S fun v _ T => v = .bool (labN n).isSome ∧ T = S := by
  refine Runs.drop (name_May_fn _ _ _ _ ?_)
  unfold name_May
  refine (Labels_runs n I S).mono ?_
  rintro v J T hle ⟨own, (⟨h, rfl, rfl⟩ | ⟨ls, p, m, c, h, rfl, ho⟩), hs⟩
  · exact ⟨_, _, _, _, rfl, S, hs.right, by rw [h]; rfl, rfl⟩
  · exact ⟨_, _, _, _, rfl, S, hs.right, by rw [h]; rfl, rfl⟩


def wl (l : ByteArray) : List UInt8 := UInt8.ofNat l.size :: l.data.toList
def wire (ls : List ByteArray) : List UInt8 := ls.flatMap wl
def nm (ls : List ByteArray) : ByteArray := ⟨(wire ls).toArray⟩
structure IsLab (l : ByteArray) : Prop where
  lo : 1 ≤ l.size
  hi : l.size ≤ 63
  low : foldB l = l
theorem dlen (l : ByteArray) : l.data.toList.length = l.size := Array.length_toList
theorem wl_len (l : ByteArray) : (wl l).length = l.size + 1 := by simp [wl, dlen]
theorem nm_size (ls : List ByteArray) : (nm ls).size = (wire ls).length := by simp [nm, ByteArray.size]
theorem wire_cons (l : ByteArray) (ls : List ByteArray) : wire (l :: ls) = UInt8.ofNat l.size :: (l.data.toList ++ wire ls) := rfl
theorem wire_app (a b : List ByteArray) : wire (a ++ b) = wire a ++ wire b := List.flatMap_append
theorem nm_app (a b : List ByteArray) : nm a ++ nm b = nm (a ++ b) := by
  apply ByteArray.ext
  rw [ByteArray.data_append]
  simp [nm, wire_app]
theorem ext_list {a b : ByteArray} (h : a.data.toList = b.data.toList) : a = b := ByteArray.ext (Array.toList_inj.1 h)
theorem ex_list (s : ByteArray) (a b : Nat) : (s.extract a b).data.toList = (s.data.toList.drop a).take (b - a) := by
  rw [ByteArray.data_extract, Array.toList_extract]

theorem nm_list (ls : List ByteArray) : (nm ls).data.toList = wire ls := by simp [nm]
theorem nm_first (l : ByteArray) (ls : List ByteArray) : (nm (l :: ls))[0]? = some (UInt8.ofNat l.size) := by
  have h : 0 < (nm (l :: ls)).size := by rw [nm_size, wire_cons]; simp
  rw [getElem?_pos _ 0 h]
  congr 1
theorem nm_rest (l : ByteArray) (ls : List ByteArray) : (nm (l :: ls)).extract (1 + l.size) (nm (l :: ls)).size = nm ls := by
  apply ext_list
  rw [ex_list, nm_list, nm_list, nm_size, wire_cons, Nat.add_comm 1, List.drop_succ_cons, drop_at (dlen l)]
  rw [List.take_of_length_le]
  simp only [List.length_cons, List.length_append, dlen]; omega
theorem nm_lab (l : ByteArray) (ls : List ByteArray) : (nm (l :: ls)).extract 1 (1 + l.size) = l := by
  apply ext_list
  rw [ex_list, nm_list, wire_cons, List.drop_succ_cons, List.drop_zero, Nat.add_sub_cancel_left, take_at (dlen l)]
theorem nm_cons_size (l : ByteArray) (ls : List ByteArray) : (nm (l :: ls)).size = 1 + l.size + (nm ls).size := by
  rw [nm_size, nm_size, wire_cons]
  simp only [List.length_cons, List.length_append, dlen]; omega
theorem nm_nil : nm [] = ⟨#[]⟩ := rfl
theorem splitN_nm : ∀ (ls : List ByteArray) (f : Nat), (nm ls).size ≤ f → (∀ l ∈ ls, 1 ≤ l.size ∧ l.size ≤ 63) → splitN f (nm ls) = some ls
  | [], f, _, _ => by
    cases f with
    | zero => rfl
    | succ f => rw [splitN, at_none (by rw [nm_nil]; exact Nat.le_refl _)]
  | l :: ls, f, hf, hl => by
    have hs := nm_cons_size l ls
    obtain ⟨h1, h2⟩ := hl l (List.mem_cons_self ..)
    obtain ⟨f, rfl⟩ : ∃ g, f = g + 1 := ⟨f - 1, by omega⟩
    rw [splitN, nm_first]
    have hc : (UInt8.ofNat l.size).toNat = l.size := ofNatU (by omega)
    simp only [hc]
    rw [if_neg (by omega), nm_rest, nm_lab, splitN_nm ls f (by omega) fun x hx => hl x (List.mem_cons_of_mem _ hx)]
    rfl
theorem fold_list (s : ByteArray) : (foldB s).data.toList = s.data.toList.map foldU := by simp [foldB]
theorem foldU_small {n : Nat} (h : n ≤ 63) : foldU (UInt8.ofNat n) = UInt8.ofNat n := by
  have : (UInt8.ofNat n).toNat = n := ofNatU (by omega)
  rw [foldU, if_neg (by omega)]
theorem fold_nm : ∀ (ls : List ByteArray), (∀ l ∈ ls, l.size ≤ 63) → foldB (nm ls) = nm (ls.map foldB)
  | [], _ => rfl
  | l :: ls, h => by
    apply ext_list
    have ih := congrArg (fun s : ByteArray => s.data.toList) (fold_nm ls fun x hx => h x (List.mem_cons_of_mem _ hx))
    rw [fold_list, nm_list, nm_list] at ih
    rw [fold_list, nm_list, nm_list, wire_cons, List.map_cons, List.map_cons, wire_cons, List.map_append, ih, foldU_small (h l (List.mem_cons_self ..)), foldB_size, fold_list]
theorem labN_nm {ls : List ByteArray} (h : ∀ l ∈ ls, IsLab l) (hs : (nm ls).size ≤ 254) : labN (nm ls) = some ls := by
  have hf : foldB (nm ls) = nm ls := by
    rw [fold_nm ls fun l hl => (h l hl).hi]
    congr 1
    have : ls.map foldB = ls.map id := List.map_congr_left fun l hl => (h l hl).low
    rw [this, List.map_id]
  rw [labN, if_neg (by
    rw [hf]
    rintro (h | h)
    · omega
    · exact h rfl)]
  exact splitN_nm ls _ (Nat.le_refl _) fun l hl => ⟨(h l hl).lo, (h l hl).hi⟩
theorem splitN_some : ∀ (f : Nat) (s : ByteArray) (ls : List ByteArray), s.size ≤ f → splitN f s = some ls → s = nm ls ∧ ∀ l ∈ ls, 1 ≤ l.size ∧ l.size ≤ 63
  | 0, s, ls, hf, h => by
    rw [splitN, if_pos (by omega)] at h
    injection h with h; subst h
    refine ⟨ext_list ?_, fun l h => by cases h⟩
    rw [nm_list]
    exact List.eq_nil_of_length_eq_zero (by rw [dlen]; omega)
  | f + 1, s, ls, hf, h => by
    rw [splitN] at h
    cases hc : s[0]? with
    | none =>
      rw [hc] at h
      injection h with h; subst h
      refine ⟨ext_list ?_, fun l h => by cases h⟩
      rw [nm_list]
      refine List.eq_nil_of_length_eq_zero ?_
      rw [dlen]
      rcases Nat.eq_zero_or_pos s.size with e | e
      · exact e
      · rw [getElem?_pos s 0 e] at hc; cases hc
    | some c =>
      rw [hc] at h
      dsimp only at h
      split at h
      · cases h
      · rename_i hg
        have hsz : c.toNat < s.size := by omega
        cases hr : splitN f (s.extract (1 + c.toNat) s.size) with
        | none => rw [hr] at h; cases h
        | some ms =>
          rw [hr] at h
          injection h with h; subst h
          obtain ⟨h1, h2⟩ := splitN_some f _ ms (by rw [ex_size]; omega) hr
          have hl : (s.extract 1 (1 + c.toNat)).size = c.toNat := by rw [ex_size]; omega
          refine ⟨ext_list ?_, fun l hm => ?_⟩
          · have h3 : (s.extract (1 + c.toNat) s.size).data.toList = wire ms := by rw [h1, nm_list]
            rw [ex_list, List.take_of_length_le (by rw [List.length_drop, dlen]; omega)] at h3
            have hpos : 0 < s.data.toList.length := by rw [dlen]; omega
            have h0 : s.data.toList = c :: s.data.toList.drop 1 := by
              have e : s.data.toList[0]? = some c := by
                rw [getElem?_pos s 0 (by omega)] at hc
                rw [List.getElem?_eq_getElem hpos]
                exact hc
              rw [List.getElem?_eq_getElem hpos] at e
              injection e with e
              conv => lhs; rw [← List.drop_zero (l := s.data.toList), List.drop_eq_getElem_cons hpos]
              rw [e]
            have hcc : UInt8.ofNat c.toNat = c := by simp
            rw [nm_list, wire_cons, hl, hcc, ← h3, ex_list, Nat.add_sub_cancel_left, ← List.drop_drop, List.take_append_drop]
            exact h0
          · rcases List.mem_cons.1 hm with rfl | hm
            · rw [hl]; omega
            · exact h2 l hm
theorem map_fix {f : UInt8 → UInt8} : ∀ {l : List UInt8}, l.map f = l → ∀ x ∈ l, f x = x
  | [], _, x, h => by cases h
  | y :: l, h, x, hx => by
    rw [List.map_cons] at h
    injection h with h1 h2
    rcases List.mem_cons.1 hx with rfl | hx
    · exact h1
    · exact map_fix h2 x hx
theorem labN_some {s : ByteArray} {ls : List ByteArray} (h : labN s = some ls) : s = nm ls ∧ (∀ l ∈ ls, IsLab l) ∧ s.size ≤ 254 := by
  unfold labN at h
  split at h
  · cases h
  · rename_i hg
    obtain ⟨h1, h2⟩ := splitN_some _ _ _ (Nat.le_refl _) h
    have hf : foldB s = s := Classical.byContradiction fun e => hg (.inr fun e' => e (toList_inj e').symm)
    refine ⟨h1, fun l hl => ⟨(h2 l hl).1, (h2 l hl).2, ext_list ?_⟩, by omega⟩
    have hb : ∀ b ∈ wire ls, foldU b = b := map_fix (by rw [← nm_list, ← fold_list, ← h1, hf])
    rw [fold_list]
    have : l.data.toList.map foldU = l.data.toList.map id := List.map_congr_left fun b hbm => hb b (List.mem_flatMap.2 ⟨l, hl, List.mem_cons_of_mem _ hbm⟩)
    rw [this, List.map_id]
theorem foldU_idem (u : UInt8) : foldU (foldU u) = foldU u := by
  have hu := u.toNat_lt
  by_cases h : 65 ≤ u.toNat ∧ u.toNat ≤ 90
  · have e : foldU u = UInt8.ofNat (u.toNat + 32) := by rw [foldU, if_pos h]
    have : (UInt8.ofNat (u.toNat + 32)).toNat = u.toNat + 32 := ofNatU (by omega)
    rw [e, foldU, if_neg (by omega)]
  · have e : foldU u = u := by rw [foldU, if_neg h]
    rw [e, e]
theorem foldB_idem (s : ByteArray) : foldB (foldB s) = foldB s := by
  apply ext_list
  rw [fold_list, fold_list, List.map_map]
  exact List.map_congr_left fun u _ => foldU_idem u
theorem makeN_nm : ∀ {ls : List ByteArray} {acc n : ByteArray}, makeN ls acc = some n → n = acc ++ nm (ls.map foldB) ∧ ∀ l ∈ ls, IsLab (foldB l)
  | [], acc, n, h => by
    simp [makeN] at h; subst h
    refine ⟨?_, fun l h => by cases h⟩
    apply ext_list
    rw [ByteArray.data_append]; simp [nm, wire]
  | l :: ls, acc, n, h => by
    unfold makeN at h
    split at h
    · cases h
    · rename_i hg
      obtain ⟨h1, h2⟩ := makeN_nm h
      refine ⟨?_, fun x hx => ?_⟩
      · rw [h1]
        apply ext_list
        simp [ByteArray.data_append, nm, wire_cons, ByteArray.data_push, foldB_size]
      · rcases List.mem_cons.1 hx with rfl | hx
        · exact ⟨by rw [foldB_size]; omega, by rw [foldB_size]; omega, foldB_idem _⟩
        · exact h2 x hx
/-- a name -/
def IsName (s : ByteArray) : Prop := ∃ ls, s = nm ls ∧ (∀ l ∈ ls, IsLab l) ∧ s.size ≤ 254
theorem isName_iff {s : ByteArray} : IsName s ↔ (labN s).isSome = true := by
  constructor
  · rintro ⟨ls, rfl, h1, h2⟩
    rw [labN_nm h1 h2]; rfl
  · intro h
    obtain ⟨ls, h⟩ := Option.isSome_iff_exists.1 h
    exact ⟨ls, labN_some h⟩
theorem isName_nil : IsName ⟨#[]⟩ := ⟨[], rfl, fun l h => (by cases h), by decide⟩
theorem nameW_name (xs : List Int) : IsName (nameW xs) := by
  have hs := nameW_size xs
  unfold nameW at hs ⊢
  cases h : makeN ((xs.take 12).map wd) ByteArray.empty with
  | none => exact isName_nil
  | some n =>
    obtain ⟨h1, h2⟩ := makeN_nm h
    rw [h] at hs
    refine ⟨((xs.take 12).map wd).map foldB, ?_, ?_, hs⟩
    · show n = _
      rw [h1]
      exact ByteArray.empty_append
    · intro l hl
      obtain ⟨y, hy, rfl⟩ := List.mem_map.1 hl
      exact h2 y hy
/-- a name below another one -/
theorem wire_len : ∀ ls : List ByteArray, ls.length ≤ (wire ls).length
  | [] => Nat.le_refl _
  | l :: ls => by
    have := wire_len ls
    rw [wire_cons]
    simp only [List.length_cons, List.length_append]; omega
end Go.Proofs.YtkagfmlaolmdnaaDoor
